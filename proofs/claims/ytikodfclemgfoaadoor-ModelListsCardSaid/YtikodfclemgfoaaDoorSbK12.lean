/- Contracts 12: choices; Room, bent; Call at Put, Delete, Erase. -/
import Derived.Test.YtikodfclemgfoaaDoorSbK11
set_option linter.all false
set_option linter.unusedVariables false
set_option linter.unusedSimpArgs false
namespace Go.Proofs.YtikodfclemgfoaaDoor
open Go.Sb
attribute [local irreducible] Go.wpList Go.Code.wp Go.Exit.then Go.Exit.inBlock Go.Sb.Ends Go.Sb.VC Go.Sb.VA Go.Sb.OpV Go.Sb.OpE Go.Sb.OpD
set_option maxHeartbeats 1000000
/-- A text of few small signs is valid. -/
theorem c_Valid_asc (s : Txt) (hs : s.length ≤ 8) (h7 : ∀ b ∈ s, b.toNat < 128) : Does Tryd.prog 67 [str s].toArray [TB] (fun _ : Unit => .bool true) (fun _ => True) (fun _ => []) := by
  refine spec_of Tryd.func67 rfl Tryd.ntmps67 rfl fun R w0 => ?_
  repeat refine sy ?_
  refine lp (ι := Txt) (fun t => t.length ≤ 8 ∧ ∀ b ∈ t, b.toNat < 128) (fun t => [(0, str t)]) (fun _ => [R]) (fun t => t.length) s ⟨hs, h7⟩ ?_
  rintro t ⟨h1, h2⟩
  repeat refine sy ?_
  refine vc_cond_dec rfl (fun h => ?_) (fun h => ?_)
  · cases t with
    | nil => simp at h
    | cons b t =>
      have hb : b.toNat < 128 := h2 b (by simp)
      simp only [List.length_cons] at h1
      repeat refine sy ?_
      refine vc_cond_dec rfl (fun h => ?_) (fun h => ?_)
      · repeat refine sy ?_
        refine vd (fun h3 => ?_) (fun h3 => ?_)
        · exfalso; simp at h3; omega
        repeat refine sy ?_
        refine vc_cond_f rfl ?_
        repeat refine sy ?_
        exact ag t ⟨by omega, fun x hx => h2 x (by simp [hx])⟩ (by simp)
      · exfalso; apply h; simp; omega
  · repeat refine sy ?_
    exact en () trivial
/-! ### choices -/
structure Cho where
  act : Int
  bucket : Txt
  key : Txt
  data : List UInt8
  n : Int
  at_ : Int
  pre : Txt
  frm : Txt
  fid : Int
  most : Int
  deriving DecidableEq
abbrev Cho.cells (x : Cho) (a : Option Addr) (c : Nat) : List Value := [.int .i64 x.act, str x.bucket, str x.key, .slice a x.data.length c, .int .i64 x.n, .int .i64 x.at_, str x.pre, str x.frm, .int .i64 x.fid, .int .i64 x.most]
def rCho : Rel Cho where
  n := 10
  pos := by decide
  rel f x cs := ∃ a c, cs = x.cells a c ∧ rdP rB a c x.data f
  mono hf := fun ⟨a, c, e, h⟩ => ⟨a, c, e, rdP_mono hf h⟩
  len := fun ⟨a, c, e, h⟩ => by rw [e]; rfl
  one := fun ⟨a, c, e, h⟩ v hv => by
    rw [e] at hv
    simp only [Cho.cells, List.mem_cons, List.not_mem_nil, or_false] at hv
    rcases hv with rfl | rfl | rfl | rfl | rfl | rfl | rfl | rfl | rfl | rfl <;> rfl
section
variable {N : Nat} {e : Slots} {l m : List Asrt} {w0 : World} {K : Act → World → Prop} {x : Cho} {cs : List Value} {a : Option Addr} {c : Nat}
theorem vc_cho (h : ∀ a c, cs = x.cells a c → VC N e (rd rB a c x.data :: l) w0 K) : VC N e (hold rCho x cs :: l) w0 K := by
  refine vc_head (B := ex fun p : Option Addr × Nat => star (pure (cs = x.cells p.1 p.2)) (rd rB p.1 p.2 x.data)) ?_ (vc_ex fun p => vc_star (vc_pure fun hc => h p.1 p.2 hc))
  rintro hh f ⟨a, c, e, hr⟩
  exact ⟨(a, c), PHeap.emp, hh, PHeap.emp_le _, PHeap.le_refl _, PHeap.emp_disj _, e, hr⟩
theorem take_cho (ht : Take (rd rB a c x.data) l m) : Take (hold rCho x (x.cells a c)) l m := Ent.trans ht (star_mono (fun _ f h => ⟨a, c, rfl, h⟩) (Ent.refl _))
end
def Cho.small (x : Cho) : Prop := x.bucket.length ≤ 300 ∧ x.key.length ≤ 300 ∧ x.data.length ≤ 3000 ∧ x.pre.length ≤ 300 ∧ x.frm.length ≤ 300
theorem c_Room (a : Option Addr) (c : Nat) (xs : List Cho) (most : Int) : Does Tryd.prog 7 [.slice a xs.length c, .int .i64 most].toArray [rd rCho a c xs] (fun r : Bool => .bool r) (fun r => r = true → xs.length ≤ most ∧ ∀ x ∈ xs, x.small) (fun _ => []) := by
  refine spec_of Tryd.func7 rfl Tryd.ntmps7 rfl fun R w0 => ?_
  refine vc_know (p := xs.length ≤ 9223372036854775807) (fun w hs => by have := (Sat.rd hs).1.2; simpa [maxLen] using this) fun hb => ?_
  repeat refine sy ?_
  refine vc_cond_dec rfl (fun h => ?_) (fun h => ?_)
  · repeat refine sy ?_
    exact en false (by simp)
  repeat refine sy ?_
  refine lp (ι := Nat) (fun i => i ≤ xs.length ∧ ∀ j x, j < i → xs[j]? = some x → x.small) (fun i => [(5, .int .i64 i), (0, .slice a xs.length c)]) (fun _ => [rd rCho a c xs, R]) (fun i => xs.length - i) 0 ⟨by omega, fun j x h => by omega⟩ ?_
  rintro i ⟨hi, hx⟩
  repeat refine sy ?_
  refine vc_cond_dec rfl (fun h => ?_) (fun h => ?_)
  · obtain ⟨q, hq⟩ := get_some (xs := xs) (k := i) (by omega)
    repeat refine sy ?_
    refine s_loadx_rd (fun cs => ?_)
    refine vc_cho fun a1 c1 hc => ?_
    subst hc
    repeat refine sy ?_
    refine s_alloc (fun b1 => ?_)
    repeat refine sy ?_
    refine vd (fun h1 => ?_) (fun h1 => ?_)
    · repeat refine sy ?_
      refine vc_cond_t rfl ?_
      repeat refine sy ?_
      exact en false (by simp)
    repeat refine sy ?_
    refine vd (fun h2 => ?_) (fun h2 => ?_)
    · repeat refine sy ?_
      refine vc_cond_t rfl ?_
      repeat refine sy ?_
      exact en false (by simp)
    repeat refine sy ?_
    refine vd (fun h3 => ?_) (fun h3 => ?_)
    · repeat refine sy ?_
      refine vc_cond_t rfl ?_
      repeat refine sy ?_
      exact en false (by simp)
    repeat refine sy ?_
    refine vd (fun h4 => ?_) (fun h4 => ?_)
    · repeat refine sy ?_
      refine vc_cond_t rfl ?_
      repeat refine sy ?_
      exact en false (by simp)
    repeat refine sy ?_
    refine vc_cond_dec rfl (fun h5 => ?_) (fun h5 => ?_)
    · repeat refine sy ?_
      exact en false (by simp)
    repeat refine sy ?_
    refine ag (i + 1) ⟨by omega, fun j x hj hjx => ?_⟩ (by omega)
    by_cases hji : j = i
    · subst hji
      rw [hq] at hjx
      cases hjx
      exact ⟨by omega, by omega, by omega, by omega, by omega⟩
    · exact hx j x (by omega) hjx
  · repeat refine sy ?_
    refine en true (fun _ => ⟨by omega, fun x hxm => ?_⟩)
    obtain ⟨j, hj, e⟩ := List.mem_iff_getElem.1 hxm
    exact hx j x (by omega) (by rw [List.getElem?_eq_getElem hj, e])
end Go.Proofs.YtikodfclemgfoaaDoor
