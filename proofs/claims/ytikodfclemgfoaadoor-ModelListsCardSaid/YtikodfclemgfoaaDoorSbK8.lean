/- Contracts 8: rows held against each other; the keys that have versions. -/
import Derived.Test.YtikodfclemgfoaaDoorSbK7
import Derived.Test.YtikodfclemgfoaaDoorSbClone
set_option linter.all false
set_option linter.unusedVariables false
set_option linter.unusedSimpArgs false
namespace Go.Proofs.YtikodfclemgfoaaDoor
open Go.Sb
attribute [local irreducible] Go.wpList Go.Code.wp Go.Exit.then Go.Exit.inBlock Go.Sb.Ends Go.Sb.VC Go.Sb.VA Go.Sb.OpV Go.Sb.OpE Go.Sb.OpD
set_option maxHeartbeats 1000000
theorem drop_of_get {α : Type} {xs : List α} {i : Nat} {q : α} (h : xs[i]? = some q) : xs.drop i = q :: xs.drop (i + 1) := by
  have hi : i < xs.length := (List.getElem?_eq_some_iff.1 h).1
  have := List.drop_eq_getElem_cons (l := xs) (i := i) hi
  rw [this]; congr 1
  rw [List.getElem?_eq_getElem hi] at h
  exact Option.some.inj h
/-- An element of a map of rows, opened. -/
theorem vc_hv {N : Nat} {e : Slots} {l : List Asrt} {w0 : World} {K : Act → World → Prop} {xs : List Kept} {v : Value} (h : ∀ a c, v = .slice a xs.length c → VC N e (rd rKept a c xs :: l) w0 K) : VC N e (hv rV xs v :: l) w0 K := by
  refine vc_head (B := ex fun p : Option Addr × Nat => star (pure (v = .slice p.1 xs.length p.2)) (rd rKept p.1 p.2 xs)) ?_ (vc_ex fun p => vc_star (vc_pure fun hc => h p.1 p.2 hc))
  rintro hh f ⟨a, c, h1, h2⟩
  exact ⟨(a, c), PHeap.emp, hh, PHeap.emp_le _, PHeap.le_refl _, PHeap.emp_disj _, h1, h2⟩
abbrev fSame1 : Value := .func (.func 30) #[] #[]
theorem c_KEqualFunc (a : Option Addr) (c : Nat) (xs : List Kept) (a' : Option Addr) (c' : Nat) (ys : List Kept) : Does Tryd.prog 33 [.slice a xs.length c, .slice a' ys.length c', fSame1].toArray [rd rKept a c xs, rd rKept a' c' ys] (fun _ : Unit => .bool (decide (xs = ys))) (fun _ => True) (fun _ => []) := by
  refine spec_of Tryd.func33 rfl Tryd.ntmps33 rfl fun R w0 => ?_
  refine vc_know (p := xs.length ≤ 9223372036854775807) (fun w hs => by have := (Sat.rd hs).1.2; simpa [maxLen] using this) fun hb => ?_
  repeat refine sy ?_
  refine vc_cond_dec rfl (fun h => ?_) (fun h => ?_)
  · repeat refine sy ?_
    exact en () trivial (hv := by show _ = Value.bool false; congr 1; exact decide_eq_false (fun e => h (by rw [e])))
  have hl : xs.length = ys.length := by omega
  repeat refine sy ?_
  refine lp (ι := Nat) (fun i => i ≤ xs.length ∧ decide (xs.drop i = ys.drop i) = decide (xs = ys)) (fun i => [(17, .int .i64 i), (16, .int .i64 xs.length), (15, .slice a xs.length c), (1, .slice a' ys.length c'), (2, fSame1)]) (fun _ => [rd rKept a c xs, rd rKept a' c' ys, R]) (fun i => xs.length - i) 0 ⟨by omega, rfl⟩ ?_
  rintro i ⟨hi, hx⟩
  repeat refine sy ?_
  refine vc_cond_dec rfl (fun h => ?_) (fun h => ?_)
  · obtain ⟨q, hq⟩ := get_some (xs := xs) (k := i) (by omega)
    obtain ⟨r, hr⟩ := get_some (xs := ys) (k := i) (by omega)
    rw [drop_of_get hq, drop_of_get hr] at hx
    repeat refine sy ?_
    refine s_loadx_rd (fun cs => ?_)
    refine vc_kept fun a1 c1 hc => ?_
    subst hc
    repeat refine sy ?_
    refine s_alloc (fun b1 => ?_)
    repeat refine sy ?_
    refine s_loadx_rd (fun cs => ?_)
    refine vc_kept fun a2 c2 hc => ?_
    subst hc
    repeat refine sy ?_
    refine s_alloc (fun b2 => ?_)
    repeat refine sy ?_
    refine so (op_callv (first := []) (capt := []) (vs := [.agg ⟨q.cells a1 c1⟩, .agg ⟨r.cells a2 c2⟩]) rfl (c_Same1 q r (q.cells a1 c1) (r.cells a2 c2)) KCall.out rfl) (fun _ _ => ?_) (Takes.cons (take_kept (by repeat (first | exact Take.keep | apply Take.there))) (Takes.cons (take_kept (by repeat (first | exact Take.keep | apply Take.there))) Takes.nil))
    repeat refine sy ?_
    refine vc_cond_ndec rfl (fun h2 => ?_) (fun h2 => ?_)
    · repeat refine sy ?_
      exact en () trivial (hv := by show Value.bool _ = Value.bool false; rw [← hx]; congr 1; exact decide_eq_false (fun e => h2 (List.cons.inj e).1))
    · repeat refine sy ?_
      refine ag (i + 1) ⟨by omega, ?_⟩ (by omega)
      rw [← hx, h2]; simp
  · repeat refine sy ?_
    have : i = xs.length := by omega
    subst this
    rw [List.drop_length, hl, List.drop_length] at hx
    exact en () trivial (hv := by rw [← hx]; rfl)
theorem c_Same2 (xs ys : List Kept) (v u : Value) (bx : Nat) : Does Tryd.prog 32 (⟨[v, u, .pointer (some ⟨bx, 0, none⟩)]⟩) [hv rV xs v, hv rV ys u, blk bx 76 [fSame1]] (fun _ : Unit => .bool (decide (xs = ys))) (fun _ => True) (fun _ => [blk bx 76 [fSame1]]) := by
  refine spec_of (args := [v, u, .pointer (some ⟨bx, 0, none⟩)]) Tryd.func32 rfl Tryd.ntmps32 rfl fun R w0 => ?_
  refine vc_hv fun a c hc => ?_
  subst hc
  refine vc_take (A := hv rV ys u) (by repeat (first | exact Take.here | apply Take.there)) ?_
  refine vc_hv fun a' c' hc => ?_
  subst hc
  repeat refine sy ?_
  refine cd (c_KEqualFunc a c xs a' c' ys) ?_
  repeat refine sy ?_
  exact en () trivial
theorem c_full1 (k : Txt) (xs : List Kept) (v : Value) : Does Tryd.prog 55 [str k, v].toArray [hv rV xs v] (fun _ : Unit => .bool (decide (xs = []))) (fun _ => True) (fun _ => []) := by
  refine spec_of Tryd.func55 rfl Tryd.ntmps55 rfl fun R w0 => ?_
  refine vc_hv fun a c hc => ?_
  subst hc
  repeat refine sy ?_
  exact en () trivial (hv := by show Value.bool _ = Value.bool _; congr 1; cases xs <;> simp; omega)
end Go.Proofs.YtikodfclemgfoaaDoor
