/- Contracts 24: entries held against each other. -/
import Derived.Test.YtikodfclemgfoaaDoorSbK23
set_option linter.all false
set_option linter.unusedVariables false
namespace Go.Proofs.YtikodfclemgfoaaDoor
open Go.Sb
attribute [local irreducible] Go.wpList Go.Code.wp Go.Exit.then Go.Exit.inBlock Go.Sb.Ends Go.Sb.VC Go.Sb.VA Go.Sb.OpV Go.Sb.OpE Go.Sb.OpD
set_option maxHeartbeats 2000000
set_option maxRecDepth 10000
def cmpS (a b : Txt) : Int := if Op.bytesLess a b then -1 else if Op.bytesLess b a then 1 else 0
def cmpI (a b : Int) : Int := if a < b then -1 else if b < a then 1 else 0
def cmpE (x y : Entr) : Int := if cmpS x.key y.key ≠ 0 then cmpS x.key y.key else cmpI y.v.id x.v.id
theorem c_NaNS (a : Txt) : Does Tryd.prog 91 [str a].toArray [] (fun _ : Unit => .bool false) (fun _ => True) (fun _ => []) := by
  refine spec_of Tryd.func91 rfl Tryd.ntmps91 rfl fun R w0 => ?_
  repeat refine sy ?_
  exact en () trivial (hv := by simp [tup])
theorem c_NaNI (a : Int) : Does Tryd.prog 92 [.int .i64 a].toArray [] (fun _ : Unit => .bool false) (fun _ => True) (fun _ => []) := by
  refine spec_of Tryd.func92 rfl Tryd.ntmps92 rfl fun R w0 => ?_
  repeat refine sy ?_
  exact en () trivial (hv := by simp [tup])
theorem op_str_gt {P : Go.Program} {e : Slots} {x y : Operand} {dst : Option Tmp} {xt t yt : TypeId} {pos : String} {aft : Array Edge} {g : Option (Nat × Bool)} {a b : Txt} (hx : see e x = some (str a)) (hy : see e y = some (str b)) : OpV P e ⟨dst, .binOp .gtr xt x y yt, t, pos, aft, g⟩ (.bool (Op.bytesLess b a)) := by
  unfold OpV
  intro ρ hρ w
  simp [execOp, hρ x _ hx, hρ y _ hy, eqGuard_at_string, binOp, Op.stringOp]
  cases h1 : Op.bytesLess a b with
  | true => simp [bl_asym _ _ h1]
  | false =>
    cases h2 : Op.bytesLess b a with
    | false => simp [bl_tri _ _ h1 h2]
    | true =>
      have : a ≠ b := fun e => by subst e; rw [bl_irr] at h2; cases h2
      simp [this]
theorem c_CmpS (a b : Txt) : Does Tryd.prog 75 [str a, str b].toArray [] (fun _ : Unit => .int .i64 (cmpS a b)) (fun _ => True) (fun _ => []) := by
  refine spec_of Tryd.func75 rfl Tryd.ntmps75 rfl fun R w0 => ?_
  repeat refine sy ?_
  refine cd (c_NaNS a) ?_
  repeat refine sy ?_
  refine cd (c_NaNS b) ?_
  repeat refine sy ?_
  refine vc_cond_f rfl ?_
  repeat refine sy ?_
  refine vc_cond_f rfl ?_
  repeat refine sy ?_
  refine vc_cond rfl (fun h => ?_) (fun h => ?_)
  · repeat refine sy ?_
    exact en () trivial (hv := by simp [tup, cmpS, h])
  repeat refine sy ?_
  refine sv ?_ (op_str_gt rfl rfl)
  repeat refine sy ?_
  refine vc_cond rfl (fun h2 => ?_) (fun h2 => ?_)
  · repeat refine sy ?_
    exact en () trivial (hv := by simp [tup, cmpS, h, h2])
  repeat refine sy ?_
  exact en () trivial (hv := by simp [tup, cmpS, h, h2])
theorem c_CmpI (a b : Int) : Does Tryd.prog 76 [.int .i64 a, .int .i64 b].toArray [] (fun _ : Unit => .int .i64 (cmpI a b)) (fun _ => True) (fun _ => []) := by
  refine spec_of Tryd.func76 rfl Tryd.ntmps76 rfl fun R w0 => ?_
  repeat refine sy ?_
  refine cd (c_NaNI a) ?_
  repeat refine sy ?_
  refine cd (c_NaNI b) ?_
  repeat refine sy ?_
  refine vc_cond_f rfl ?_
  repeat refine sy ?_
  refine vc_cond_f rfl ?_
  repeat refine sy ?_
  refine vc_cond_dec rfl (fun h => ?_) (fun h => ?_)
  · repeat refine sy ?_
    exact en () trivial (hv := by simp [tup, cmpI, h])
  repeat refine sy ?_
  refine vc_cond_dec rfl (fun h2 => ?_) (fun h2 => ?_)
  · repeat refine sy ?_
    exact en () trivial (hv := by simp [tup, cmpI, h, h2])
  repeat refine sy ?_
  exact en () trivial (hv := by simp [tup, cmpI, h, h2])
def orI : List Int → Int
  | [] => 0
  | x :: l => if x ≠ 0 then x else orI l
theorem c_Or (a : Option Addr) (c : Nat) (xs : List Int) : Does Tryd.prog 74 [.slice a xs.length c].toArray [rd rI a c xs] (fun _ : Unit => .int .i64 (orI xs)) (fun _ => True) (fun _ => []) := by
  refine spec_of Tryd.func74 rfl Tryd.ntmps74 rfl fun R w0 => ?_
  refine vc_know (p := xs.length ≤ 9223372036854775807) (fun w hs => by have := (Sat.rd hs).1.2; simpa [maxLen] using this) fun hb => ?_
  repeat refine sy ?_
  refine lp (ι := Nat) (fun i => i ≤ xs.length ∧ orI (xs.drop i) = orI xs) (fun i => [(8, .int .i64 i), (7, .int .i64 xs.length), (6, .slice a xs.length c), (3, .int .i64 0)]) (fun _ => [rd rI a c xs, R]) (fun i => xs.length - i) 0 ⟨by omega, rfl⟩ ?_
  rintro i ⟨hi, hx⟩
  repeat refine sy ?_
  refine vc_cond_dec rfl (fun h => ?_) (fun h => ?_)
  · obtain ⟨q, hq⟩ := get_some (xs := xs) (k := i) (by omega)
    rw [drop_of_get hq, orI] at hx
    repeat refine sy ?_
    refine vc_cond_dec rfl (fun h2 => ?_) (fun h2 => ?_)
    · repeat refine sy ?_
      exact en () trivial (hv := by rw [← hx, if_pos h2]; rfl)
    · repeat refine sy ?_
      refine ag (i + 1) ⟨by omega, ?_⟩ (by omega)
      rw [← hx, if_neg h2]
  · repeat refine sy ?_
    have : i = xs.length := by omega
    subst this
    rw [List.drop_length, orI] at hx
    exact en () trivial (hv := by rw [← hx]; rfl)
theorem c_eCmp (x y : Entr) : Does Tryd.prog 73 [.agg ⟨x.cells⟩, .agg ⟨y.cells⟩].toArray [] (fun _ : Unit => .int .i64 (cmpE x y)) (fun _ => True) (fun _ => []) := by
  refine spec_of Tryd.func73 rfl Tryd.ntmps73 rfl fun R w0 => ?_
  repeat refine sy ?_
  refine s_box (fun b2 => ?_)
  refine s_box (fun b3 => ?_)
  repeat refine sy ?_
  refine vd_start ?_
  repeat refine dq ?_
  refine va_pick 5 ?_
  refine dq ?_
  refine va_pick 6 ?_
  refine dq ?_
  refine va_pick 7 ?_
  refine dq ?_
  refine va_pick 8 ?_
  refine dq ?_
  refine va_pick 9 ?_
  refine dq ?_
  refine va_pick 10 ?_
  refine dq ?_
  refine de (op_call (c_CmpS x.key y.key) KCall.out rfl) (fun _ _ => ⟨?_, ?_⟩)
  · exact aq
  refine de (op_call (c_CmpI y.v.id x.v.id) KCall.out rfl) (fun _ _ => ⟨?_, ?_⟩)
  · exact aq
  refine de (opE_post (res' := fun b => [rd rI (some ⟨b, 0, none⟩) 2 [cmpS x.key y.key, cmpI y.v.id x.v.id]]) oe_buildSlice fun b R w h => Sat.blk_rd (R := rI) (c := 2) (xs := [cmpS x.key y.key, cmpI y.v.id x.v.id]) h (fun f => (rows_ofEnc).2 rfl) ⟨by simp, by simp [maxLen]⟩) (fun b _ => ⟨?_, ?_⟩)
  · exact aq
  refine de (op_call (c_Or (some ⟨b, 0, none⟩) 2 [cmpS x.key y.key, cmpI y.v.id x.v.id]) KCall.out rfl) (fun _ _ => ⟨?_, ?_⟩)
  · exact aq
  refine dv ⟨?_, ?_⟩
  · exact aq
  refine va_end ?_
  repeat refine sy ?_
  exact en () trivial (hv := by
    show Value.int .i64 _ = Value.int .i64 _
    congr 1
    unfold cmpE
    simp only [orI]
    split
    · rfl
    · split
      · rfl
      · rename_i h; simp at h; exact h)
def ltE (x y : Entr) : Bool := decide (cmpE x y < 0)
theorem ltE_iff {x y : Entr} : ltE x y = true ↔ Op.bytesLess x.key y.key = true ∨ (x.key = y.key ∧ y.v.id < x.v.id) := by
  unfold ltE cmpE cmpS cmpI
  cases h1 : Op.bytesLess x.key y.key with
  | true => simp
  | false =>
    cases h2 : Op.bytesLess y.key x.key with
    | true =>
      have : x.key ≠ y.key := fun e => by rw [e, bl_irr] at h2; cases h2
      simp [this]
    | false =>
      have e := bl_tri _ _ h1 h2
      simp only [e, ne_eq, not_true_eq_false, if_false, Bool.false_eq_true, false_or, true_and]
      split
      · simp; omega
      · split <;> simp <;> omega
theorem ltE_lt : Lt ltE := by
  refine ⟨fun x y h => ?_, fun x y z h1 h2 => ?_⟩
  · rw [← Bool.not_eq_true, ltE_iff]
    rw [ltE_iff] at h
    rcases h with h | ⟨h, h'⟩
    · rintro (k | ⟨k, k'⟩)
      · rw [bl_asym _ _ h] at k; cases k
      · rw [k, bl_irr] at h; cases h
    · rintro (k | ⟨k, k'⟩)
      · rw [h, bl_irr] at k; cases k
      · omega
  · rw [← Bool.not_eq_true, ltE_iff] at h1 h2 ⊢
    have a1 : Op.bytesLess y.key x.key = false := by rw [← Bool.not_eq_true]; exact fun h => h1 (.inl h)
    have a2 : Op.bytesLess z.key y.key = false := by rw [← Bool.not_eq_true]; exact fun h => h2 (.inl h)
    rintro (k | ⟨k, k'⟩)
    · rw [bl_le a1 a2] at k; cases k
    · have b1 : y.key = x.key := by
        refine bl_tri _ _ a1 ?_
        cases h : Op.bytesLess x.key y.key with
        | false => rfl
        | true => rw [k, h] at a2; cases a2
      have c1 : ¬ x.v.id < y.v.id := fun h => h1 (.inr ⟨b1, h⟩)
      have c2 : ¬ y.v.id < z.v.id := fun h => h2 (.inr ⟨k.trans b1.symm, h⟩)
      omega
/-- Entries of one key and one number are one. -/
theorem ltE_tie {x y : Entr} (h1 : ltE x y = false) (h2 : ltE y x = false) : x.key = y.key ∧ x.v.id = y.v.id := by
  rw [← Bool.not_eq_true, ltE_iff] at h1 h2
  have a1 : Op.bytesLess x.key y.key = false := by rw [← Bool.not_eq_true]; exact fun h => h1 (.inl h)
  have a2 : Op.bytesLess y.key x.key = false := by rw [← Bool.not_eq_true]; exact fun h => h2 (.inl h)
  have e := bl_tri _ _ a1 a2
  have c1 : ¬ y.v.id < x.v.id := fun h => h1 (.inr ⟨e, h⟩)
  have c2 : ¬ x.v.id < y.v.id := fun h => h2 (.inr ⟨e.symm, h⟩)
  exact ⟨e, by omega⟩
end Go.Proofs.YtikodfclemgfoaaDoor
