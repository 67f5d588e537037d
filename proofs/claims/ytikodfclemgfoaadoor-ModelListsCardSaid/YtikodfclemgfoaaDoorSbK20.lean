/- Contracts 20: Call at Get and Head; Call at whatever names a key. -/
import Derived.Test.YtikodfclemgfoaaDoorSbK19
set_option linter.all false
set_option linter.unusedVariables false
namespace Go.Proofs.YtikodfclemgfoaaDoor
open Go.Sb
attribute [local irreducible] Go.wpList Go.Code.wp Go.Exit.then Go.Exit.inBlock Go.Sb.Ends Go.Sb.VC Go.Sb.VA Go.Sb.OpV Go.Sb.OpE Go.Sb.OpD
set_option maxHeartbeats 1000000
/-- No object is too long. -/
def Lean0 (σ : St) : Prop := ∀ b k, ∀ x ∈ σ.v b k, x.data.length ≤ 65536
theorem c_CallGet (m : Nat) (σ : St) (x : Cho) (a : Option Addr) (c : Nat) (id : Int) (ob ok : Bool) (hx : x.act = 5) (hb : NB x.bucket ob) (hk : NK x.key ok) (hσ : Lean0 σ) :
    Does Tryd.prog 10 [.pointer (some ⟨m, 0, none⟩), .agg ⟨x.cells a c⟩, .int .i64 id].toArray [rd rB a c x.data, Mdl m σ, TB]
      (fun p : Option Addr × Nat => ansV (getR σ x.bucket x.key x.n ob ok).2.2 (getR σ x.bucket x.key x.n ob ok).1 (.slice p.1 (getR σ x.bucket x.key x.n ob ok).2.1.length p.2)) (fun _ => True) (fun p => [rd rB p.1 p.2 (getR σ x.bucket x.key x.n ob ok).2.1, Mdl m σ]) := by
  obtain ⟨act, bucket, key, data, n, at_, pre, frm, fid, most⟩ := x
  simp only at hx hb hk ⊢
  subst hx
  refine spec_of Tryd.func10 rfl Tryd.ntmps10 rfl fun R w0 => ?_
  repeat refine sy ?_
  refine s_box (fun b4 => ?_)
  refine s_alloc (fun b6 => ?_)
  repeat refine sy ?_
  refine s_alloc (fun b7 => ?_)
  repeat (first | refine sy ?_ | refine vc_cond_f rfl ?_)
  refine vc_cond_t rfl ?_
  repeat refine sy ?_
  refine ca (c_Get m σ bucket key n ob ok hb hk (hσ bucket key)) fun p _ => ?_
  obtain ⟨a', c'⟩ := p
  repeat refine sy ?_
  refine s_alloc (fun b10 => ?_)
  repeat refine sy ?_
  exact en (a', c') trivial
theorem c_CallHead (m : Nat) (σ : St) (x : Cho) (a : Option Addr) (c : Nat) (id : Int) (ob ok : Bool) (hx : x.act = 6) (hb : NB x.bucket ob) (hk : NK x.key ok) (hσ : Lean0 σ) :
    Does Tryd.prog 10 [.pointer (some ⟨m, 0, none⟩), .agg ⟨x.cells a c⟩, .int .i64 id].toArray [rd rB a c x.data, Mdl m σ, TB]
      (fun _ : Unit => ansV (getR σ x.bucket x.key x.n ob ok).2.2 (getR σ x.bucket x.key x.n ob ok).1 (.slice none 0 0)) (fun _ => True) (fun _ => [Mdl m σ]) := by
  obtain ⟨act, bucket, key, data, n, at_, pre, frm, fid, most⟩ := x
  simp only at hx hb hk ⊢
  subst hx
  refine spec_of Tryd.func10 rfl Tryd.ntmps10 rfl fun R w0 => ?_
  repeat refine sy ?_
  refine s_box (fun b4 => ?_)
  refine s_alloc (fun b6 => ?_)
  repeat refine sy ?_
  refine s_alloc (fun b7 => ?_)
  repeat (first | refine sy ?_ | refine vc_cond_f rfl ?_)
  refine vc_cond_t rfl ?_
  repeat refine sy ?_
  refine cd (c_Head m σ bucket key n ob ok hb hk (hσ bucket key)) ?_
  repeat refine sy ?_
  refine s_alloc (fun b13 => ?_)
  repeat refine sy ?_
  exact en () trivial
/-- The error of a call that names a key. -/
def callErr (σ : St) (x : Cho) (id : Int) (ob ok : Bool) : Int :=
  if x.act = 4 then putErr σ x.bucket x.key id x.data ob ok else if x.act = 7 then delErr σ x.bucket x.key id ob ok else if x.act = 8 then eraErr σ x.bucket x.key x.n ob ok else (getR σ x.bucket x.key x.n ob ok).2.2
theorem c_CallBad (m : Nat) (σ : St) (x : Cho) (a : Option Addr) (c : Nat) (id : Int) (ob ok : Bool) (hx : x.act = 4 ∨ x.act = 5 ∨ x.act = 6 ∨ x.act = 7 ∨ x.act = 8) (hb : NB x.bucket ob) (hk : NK x.key ok) (hσ : Lean0 σ) (hb2 : Bound σ) (he : callErr σ x id ob ok ≠ 0) :
    Does Tryd.prog 10 [.pointer (some ⟨m, 0, none⟩), .agg ⟨x.cells a c⟩, .int .i64 id].toArray [rd rB a c x.data, Mdl m σ, TB]
      (fun q : Ver × Value => ansV (callErr σ x id ob ok) q.1 q.2) (fun _ => True) (fun _ => [Mdl m σ]) := by
  intro R w hs
  have hE : callErr σ x id ob ok = if x.act = 4 then putErr σ x.bucket x.key id x.data ob ok else if x.act = 7 then delErr σ x.bucket x.key id ob ok else if x.act = 8 then eraErr σ x.bucket x.key x.n ob ok else (getR σ x.bucket x.key x.n ob ok).2.2 := rfl
  rcases hx with hx | hx | hx | hx | hx
  · rw [if_pos hx] at hE
    refine (c_CallPut m σ x a c id ob ok hx hb hk R w hs).mono fun e w' ⟨_, h1, _, h2, h3⟩ => ⟨(_, _), by rw [hE]; exact h1, trivial, ?_, h3⟩
    rw [hE] at he
    rwa [putSt, if_neg he] at h2
  · rw [if_neg (by omega), if_neg (by omega), if_neg (by omega)] at hE
    exact (c_CallGet m σ x a c id ob ok hx hb hk hσ R w hs).mono fun e w' ⟨_, h1, _, h2, h3⟩ => ⟨(_, _), by rw [hE]; exact h1, trivial, h2.tail, h3⟩
  · rw [if_neg (by omega), if_neg (by omega), if_neg (by omega)] at hE
    exact (c_CallHead m σ x a c id ob ok hx hb hk hσ R w hs).mono fun e w' ⟨_, h1, _, h2, h3⟩ => ⟨(_, _), by rw [hE]; exact h1, trivial, h2, h3⟩
  · rw [if_neg (by omega), if_pos hx] at hE
    refine (c_CallDelete m σ x a c id ob ok hx hb hk R w hs).mono fun e w' ⟨_, h1, _, h2, h3⟩ => ⟨(_, _), by rw [hE]; exact h1, trivial, ?_, h3⟩
    rw [hE] at he
    rwa [delSt, if_neg he] at h2
  · rw [if_neg (by omega), if_neg (by omega), if_pos hx] at hE
    refine (c_CallErase m σ x a c id ob ok hx hb hk (by have := hb2 x.bucket x.key; omega) R w hs).mono fun e w' ⟨_, h1, _, h2, h3⟩ => ⟨(_, _), by rw [hE]; exact h1, trivial, ?_, h3⟩
    rw [hE] at he
    rwa [eraSt, if_neg he] at h2
end Go.Proofs.YtikodfclemgfoaaDoor
