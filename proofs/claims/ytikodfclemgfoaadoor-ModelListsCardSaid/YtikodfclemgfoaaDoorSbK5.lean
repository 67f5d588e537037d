/- Contracts 5: Put, Get, Delete. -/
import Derived.Test.YtikodfclemgfoaaDoorSbK4
set_option linter.all false
set_option linter.unusedVariables false
set_option linter.unusedSimpArgs false
namespace Go.Proofs.YtikodfclemgfoaaDoor
open Go.Sb
attribute [local irreducible] Go.wpList Go.Code.wp Go.Exit.then Go.Exit.inBlock Go.Sb.Ends Go.Sb.VC Go.Sb.VA Go.Sb.OpV Go.Sb.OpE Go.Sb.OpD
set_option maxHeartbeats 1000000

abbrev NB (b : Txt) (ob : Bool) : Prop := Does Tryd.prog 20 [str b].toArray [] (fun _ : Unit => .bool ob) (fun _ => True) (fun _ => [])
abbrev NK (k : Txt) (ok : Bool) : Prop := Does Tryd.prog 56 [str k].toArray [TB] (fun _ : Unit => .bool ok) (fun _ => True) (fun _ => [])
def mkKept (id : Int) (data : List UInt8) : Kept := ⟨⟨id, false, data.length, crcSum data⟩, data⟩
def putErr (σ : St) (b k : Txt) (id : Int) (data : List UInt8) (ob ok : Bool) : Int :=
  if !(ob && ok) then 12 else if 65536 < data.length then 3 else if !σ.has b then 13 else moreErr σ b k (mkKept id data)
def putSt (σ : St) (b k : Txt) (id : Int) (data : List UInt8) (e : Int) : St := if e = 0 then σ.set b k (σ.v b k ++ [mkKept id data]) else σ
def putVer (id : Int) (data : List UInt8) (e : Int) : Ver := if e = 0 then (mkKept id data).v else Kept.zero.v
theorem c_Put (m : Nat) (σ : St) (id : Int) (b k : Txt) (data : List UInt8) (a : Option Addr) (c : Nat) (ob ok : Bool) (hb : NB b ob) (hk : NK k ok) :
    Does Tryd.prog 17 [.pointer (some ⟨m, 0, none⟩), .int .i64 id, str b, str k, .slice a data.length c].toArray [rd rB a c data, Mdl m σ, TB]
      (fun _ : Unit => .tuple ⟨[.agg ⟨(putVer id data (putErr σ b k id data ob ok)).cells⟩, .int .i64 (putErr σ b k id data ob ok)]⟩) (fun _ => True) (fun _ => [Mdl m (putSt σ b k id data (putErr σ b k id data ob ok))]) := by
  refine spec_of Tryd.func17 rfl Tryd.ntmps17 rfl fun R w0 => ?_
  repeat refine sy ?_
  refine s_alloc (fun br => ?_)
  repeat refine sy ?_
  refine cd (c_named m σ b k ob ok hb hk) ?_
  repeat refine sy ?_
  by_cases ho : (ob && ok) = true
  rotate_left
  · rw [if_neg ho]
    have he : putErr σ b k id data ob ok = 12 := by unfold putErr; rw [if_pos (by simp only [Bool.not_eq_true] at ho; simp [ho])]
    refine vc_cond_t rfl ?_
    repeat refine sy ?_
    rw [he]
    exact en () trivial
  rw [if_pos ho]
  refine vc_cond_f rfl ?_
  repeat refine sy ?_
  refine vc_cond_dec rfl (fun h1 => ?_) (fun h1 => ?_)
  · have he : putErr σ b k id data ob ok = 3 := by unfold putErr; rw [if_neg (by rw [ho]; decide), if_pos (by omega)]
    repeat refine sy ?_
    rw [he]
    exact en () trivial
  repeat refine sy ?_
  refine vc_take (A := Mdl m σ) (by repeat (first | exact Take.here | apply Take.there)) ?_
  refine vc_mdl fun mb D hr hn => ?_
  repeat refine sy ?_
  refine sod (op_lookup_enc (D := D) KUnd.out KUnd.out KZero.out rfl rfl) ?_
  cases hf : findA D b with
  | none =>
    have hh : σ.has b = false := by rw [hr.has, hf]; rfl
    have he : putErr σ b k id data ob ok = 13 := by unfold putErr; rw [if_neg (by rw [ho]; decide), if_neg (by omega), if_pos (by rw [hh]; rfl)]
    repeat refine sy ?_
    refine vc_cond_t rfl ?_
    repeat refine sy ?_
    rw [he]
    exact en () trivial (ht := Takes.cons (take_mdl hr hn) (Takes.cons (by repeat (first | exact Take.here | apply Take.there)) Takes.nil))
  | some p =>
    have hh : σ.has b = true := by rw [hr.has, hf]; rfl
    have he : putErr σ b k id data ob ok = moreErr σ b k (mkKept id data) := by unfold putErr; rw [if_neg (by rw [ho]; decide), if_neg (by omega), if_neg (by rw [hh]; decide)]
    repeat refine sy ?_
    refine vc_cond_f rfl ?_
    refine vc_takes (cs := [Mdl m σ]) (Takes.cons (take_mdl hr hn) Takes.nil) ?_
    repeat refine sy ?_
    refine cd (c_Sum a c data) ?_
    repeat refine sy ?_
    refine ca (c_BClone a c data (by omega)) fun p _ => ?_
    obtain ⟨a', c'⟩ := p
    repeat refine sy ?_
    refine cd (c_more m σ b k (mkKept id data) a' c' hh) ?_
    repeat refine sy ?_
    rw [he]
    exact en () trivial
def getR (σ : St) (b k : Txt) (id : Int) (ob ok : Bool) : Ver × List UInt8 × Int :=
  let r := findR σ b k id 0 ob ok
  if r.2.2 ≠ 0 then (Kept.zero.v, [], r.2.2) else if r.1.v.mark then (r.1.v, [], 16) else (r.1.v, r.1.data, 0)
theorem findR_mem {σ : St} {b k : Txt} {id least : Int} {ob ok : Bool} (h : (findR σ b k id least ob ok).2.2 = 0) : (findR σ b k id least ob ok).1 ∈ σ.v b k ∧ σ.has b = true ∧ 0 ≤ (findR σ b k id least ob ok).2.1 ∧ (findR σ b k id least ob ok).2.1 < (σ.v b k).length := by
  unfold findR at h ⊢
  split at h
  · simp at h
  · rename_i h1
    rw [if_neg h1]
    split at h
    · simp at h
    · rename_i h2
      rw [if_neg h2]
      split at h
      · rename_i h3; exact absurd h h3
      · rename_i h3
        rw [if_neg h3]
        dsimp only at h ⊢
        have hi1 := idxOf_lt (p := fun q => decide (q.v.id = id)) (l := σ.v b k) (i := 0) (by omega)
        have hi : (if id ≠ 0 then idxOf (fun q => decide (q.v.id = id)) (σ.v b k) 0 else ((σ.v b k).length : Int) - 1) < (σ.v b k).length := by
          by_cases h5 : id ≠ 0
          · rw [if_pos h5]
            by_cases h6 : σ.v b k = []
            · exfalso; apply h3; unfold verErr
              split
              · simp [h6]
              · decide
            · have := List.length_pos_iff.2 h6; omega
          · rw [if_neg h5]; omega
        generalize (if id ≠ 0 then idxOf (fun q => decide (q.v.id = id)) (σ.v b k) 0 else ((σ.v b k).length : Int) - 1) = i at h hi ⊢
        by_cases h4 : i < 0
        · rw [if_pos h4] at h; simp at h
        rw [if_neg h4]
        have hh : σ.has b = true := by
          by_cases hx : σ.has b = true
          · exact hx
          · exfalso; apply h3; unfold verErr; rw [if_neg hx]; decide
        refine ⟨?_, hh, by show 0 ≤ i; omega, hi⟩
        show (σ.v b k).getD i.toNat Kept.zero ∈ σ.v b k
        have : i.toNat < (σ.v b k).length := by omega
        rw [List.getD_eq_getElem?_getD, List.getElem?_eq_getElem this]
        exact List.getElem_mem _
theorem c_Get (m : Nat) (σ : St) (b k : Txt) (id : Int) (ob ok : Bool) (hb : NB b ob) (hk : NK k ok) (hσ : ∀ x ∈ σ.v b k, x.data.length ≤ 65536) :
    Does Tryd.prog 18 [.pointer (some ⟨m, 0, none⟩), str b, str k, .int .i64 id].toArray [Mdl m σ, TB]
      (fun p : Option Addr × Nat => .tuple ⟨[.agg ⟨(getR σ b k id ob ok).1.cells⟩, .slice p.1 (getR σ b k id ob ok).2.1.length p.2, .int .i64 (getR σ b k id ob ok).2.2]⟩) (fun _ => True) (fun p => [rd rB p.1 p.2 (getR σ b k id ob ok).2.1, Mdl m σ]) := by
  refine spec_of Tryd.func18 rfl Tryd.ntmps18 rfl fun R w0 => ?_
  repeat refine sy ?_
  refine s_alloc (fun br => ?_)
  repeat refine sy ?_
  refine ca (c_find m σ b k id 0 ob ok hb hk) fun p _ => ?_
  obtain ⟨a, c⟩ := p
  have hmem := findR_mem (σ := σ) (b := b) (k := k) (id := id) (least := 0) (ob := ob) (ok := ok)
  have hG : getR σ b k id ob ok = if (findR σ b k id 0 ob ok).2.2 ≠ 0 then (Kept.zero.v, [], (findR σ b k id 0 ob ok).2.2) else if (findR σ b k id 0 ob ok).1.v.mark then ((findR σ b k id 0 ob ok).1.v, [], 16) else ((findR σ b k id 0 ob ok).1.v, (findR σ b k id 0 ob ok).1.data, 0) := rfl
  generalize findR σ b k id 0 ob ok = r at hmem hG ⊢
  obtain ⟨q, i, er⟩ := r
  dsimp only at hmem hG ⊢
  repeat refine sy ?_
  refine s_alloc (fun bq => ?_)
  repeat refine sy ?_
  refine vc_cond_dec rfl (fun h1 => ?_) (fun h1 => ?_)
  · rw [if_pos h1] at hG
    repeat refine sy ?_
    rw [hG]
    exact en (none, 0) trivial
  rw [if_neg h1] at hG
  repeat refine sy ?_
  refine vc_cond rfl (fun h2 => ?_) (fun h2 => ?_)
  · rw [if_pos h2] at hG
    repeat refine sy ?_
    rw [hG]
    exact en (none, 0) trivial
  rw [if_neg (by rw [h2]; decide)] at hG
  repeat refine sy ?_
  refine vd_start ?_
  repeat refine dq ?_
  refine de (op_call (c_BClone a c q.data (by have := hσ q (hmem (by omega)).1; omega)) KCall.out rfl) (fun p _ => ⟨?_, ?_⟩)
  · exact aq
  obtain ⟨a', c'⟩ := p
  refine d_storea ⟨?_, ?_⟩
  · exact aq
  refine dv ⟨?_, ?_⟩
  · exact aq
  refine dv ⟨?_, ?_⟩
  · exact aq
  refine va_end ?_
  repeat refine sy ?_
  rw [hG]
  exact en (a', c') trivial
def mkMark (id : Int) : Kept := ⟨⟨id, true, 0, 0⟩, []⟩
def delErr (σ : St) (b k : Txt) (id : Int) (ob ok : Bool) : Int := if (findR σ b k 0 0 ob ok).2.2 ≠ 0 then (findR σ b k 0 0 ob ok).2.2 else moreErr σ b k (mkMark id)
def delSt (σ : St) (b k : Txt) (id : Int) (e : Int) : St := if e = 0 then σ.set b k (σ.v b k ++ [mkMark id]) else σ
def delVer (id : Int) (e : Int) : Ver := if e = 0 then (mkMark id).v else Kept.zero.v
theorem c_Delete (m : Nat) (σ : St) (id : Int) (b k : Txt) (ob ok : Bool) (hb : NB b ob) (hk : NK k ok) :
    Does Tryd.prog 23 [.pointer (some ⟨m, 0, none⟩), .int .i64 id, str b, str k].toArray [Mdl m σ, TB]
      (fun _ : Unit => .tuple ⟨[.agg ⟨(delVer id (delErr σ b k id ob ok)).cells⟩, .int .i64 (delErr σ b k id ob ok)]⟩) (fun _ => True) (fun _ => [Mdl m (delSt σ b k id (delErr σ b k id ob ok))]) := by
  refine spec_of Tryd.func23 rfl Tryd.ntmps23 rfl fun R w0 => ?_
  repeat refine sy ?_
  refine s_alloc (fun br => ?_)
  repeat refine sy ?_
  refine ca (c_find m σ b k 0 0 ob ok hb hk) fun p _ => ?_
  obtain ⟨a, c⟩ := p
  have hmem := findR_mem (σ := σ) (b := b) (k := k) (id := 0) (least := 0) (ob := ob) (ok := ok)
  have hG : delErr σ b k id ob ok = if (findR σ b k 0 0 ob ok).2.2 ≠ 0 then (findR σ b k 0 0 ob ok).2.2 else moreErr σ b k (mkMark id) := rfl
  generalize findR σ b k 0 0 ob ok = r at hmem hG ⊢
  obtain ⟨q, i, er⟩ := r
  dsimp only at hmem hG ⊢
  repeat refine sy ?_
  refine s_alloc (fun bq => ?_)
  repeat refine sy ?_
  refine vc_cond_dec rfl (fun h1 => ?_) (fun h1 => ?_)
  · rw [if_pos h1] at hG
    repeat refine sy ?_
    rw [hG]
    have e1 : delSt σ b k id er = σ := if_neg h1
    have e2 : delVer id er = Kept.zero.v := if_neg h1
    rw [e1, e2]
    exact en () trivial
  rw [if_neg h1] at hG
  repeat refine sy ?_
  refine cd (c_more m σ b k (mkMark id) none 0 (hmem (by omega)).2.1) ?_ (ht := Takes.cons take_rd_nil (Takes.cons (by repeat (first | exact Take.here | apply Take.there)) Takes.nil))
  repeat refine sy ?_
  rw [hG]
  exact en () trivial
end Go.Proofs.YtikodfclemgfoaaDoor
