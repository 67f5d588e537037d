/- Contracts 18: utf8.ValidString at every text. -/
import Derived.Test.YtikodfclemgfoaaDoorSbK1
import Derived.Laws.BitsAllLaws
set_option linter.all false
set_option linter.unusedVariables false
namespace Go.Sb
open Go.RowKit
section
variable {P : Program} {e : Slots} {x y : Operand} {dst : Option Tmp} {t : TypeId} {pos : String} {aft : Array Edge} {g : Option (Nat × Bool)} {T E n s b o c : Nat} {i : Int} {k : IntKind}
theorem op_index_arr (ht : P.underlying T = some (.array n E)) (hs : size1 P E s) (hx : see e x = some (.pointer (some ⟨b, o, none⟩))) (hy : see e y = some (.int k i)) (hi : 0 ≤ i ∧ i < n) : OpV P e ⟨dst, .indexAddr T x y, t, pos, aft, g⟩ (.pointer (some ⟨b, o + i.toNat * s, none⟩)) := fun ρ hρ w => by
  simp [execOp, hρ x _ hx, hρ y _ hy, Instr.indexAt, asIntOf, run_underlying ht, Instr.sureAddr, hi.1, hi.2, hs.run, add_plain]
theorem op_first {gF gA : Nat} (h1 : one1 P T) (hx : see e x = some (.pointer (some ⟨gF, 0 + c * 1, none⟩))) (hc : c < 256) : OpD P e ⟨dst, .load T x, t, pos, aft, g⟩ [Tabs gF gA] (.int .u8 (Lib.firstT c)) [] := fun ρ hρ => op_of_run fun A w hs => by
  obtain ⟨l, E, r, l', E', r', hw, _, hf, _⟩ := Sat.rof hs
  have hw' : w.heap[gF]? = some (.cells ⟨l⟩ E r) := hw
  have hl : l[0 + c * 1]? = some (.int .u8 (Lib.firstT c)) := by rw [show 0 + c * 1 = c by omega]; exact hf c hc
  have hr := run_loadAt_one (P := P) (T := T) (o := 0 + c * 1) hw' h1 hl
  exact ⟨(), w, by simp only [execOp, hρ x _ hx, Sem.run_bind, hr, Result.andThen_ok, Sem.run_pure], trivial, hs.tail, Env.refl w⟩
theorem op_acc {gF gA : Nat} (h1 : agg1 P T 2) (hx : see e x = some (.pointer (some ⟨gA, 0 + c * 2, none⟩))) (hc : c < 16) : OpD P e ⟨dst, .load T x, t, pos, aft, g⟩ [Tabs gF gA] (.agg ⟨[.int .u8 (Lib.accLo c), .int .u8 (Lib.accHi c)]⟩) [] := fun ρ hρ => op_of_run fun A w hs => by
  obtain ⟨l, E, r, l', E', r', _, hw, _, hf⟩ := Sat.rof hs
  have hw' : w.heap[gA]? = some (.cells ⟨l'⟩ E' r') := hw
  obtain ⟨f1, f2⟩ := hf c hc
  have hlen : 2 * c + 1 < l'.length := (List.getElem?_eq_some_iff.1 f2).1
  have hr := run_loadAt_agg (P := P) (T := T) (n := 2) (o := 0 + c * 2) hw' h1 (by omega)
  have he : (l'.drop (0 + c * 2)).take 2 = [.int .u8 (Lib.accLo c), .int .u8 (Lib.accHi c)] := by
    rw [show 0 + c * 2 = 2 * c by omega]
    rw [List.drop_eq_getElem_cons (by omega), List.drop_eq_getElem_cons (by omega)]
    rw [List.getElem?_eq_getElem (by omega)] at f1 f2
    simp only [List.take_succ_cons, List.take_zero, Option.some.inj f1, Option.some.inj f2]
  rw [he] at hr
  exact ⟨(), w, by simp only [execOp, hρ x _ hx, Sem.run_bind, hr, Result.andThen_ok, Sem.run_pure], trivial, hs.tail, Env.refl w⟩
end
end Go.Sb
namespace Go.Proofs.YtikodfclemgfoaaDoor
open Go.Sb
attribute [local irreducible] Go.wpList Go.Code.wp Go.Exit.then Go.Exit.inBlock Go.Sb.Ends Go.Sb.VC Go.Sb.VA Go.Sb.OpV Go.Sb.OpE Go.Sb.OpD
set_option maxHeartbeats 2000000
set_option maxRecDepth 10000
/-! ### 1. Valid texts -/
def byt (t : Txt) (i : Nat) : Int := ((t.getD i 0).toNat : Int)
def badB (t : Txt) (n : Nat) (lo hi : Int) : Bool :=
  decide ((t.length : Int) < n) || decide (byt t 1 < lo) || decide (hi < byt t 1) || decide (3 ≤ n) && (decide (byt t 2 < 128) || decide (191 < byt t 2)) || decide (4 ≤ n) && (decide (byt t 3 < 128) || decide (191 < byt t 3))
def vstep (t : Txt) : Option Txt :=
  let b0 := (t.getD 0 0).toNat
  if b0 < 128 then some (t.drop 1) else
    let x := Lib.firstT b0
    if x % 8 = 2 ∨ x % 8 = 3 ∨ x % 8 = 4 then if badB t (x % 8) (Lib.accLo (x / 16)) (Lib.accHi (x / 16)) then none else some (t.drop (x % 8)) else none
def validF : Nat → Txt → Bool
  | 0, _ => true
  | n + 1, t => if t = [] then true else match vstep t with | none => false | some t' => validF n t'
def valid (t : Txt) : Bool := validF t.length t
theorem vstep_lt {t t' : Txt} (ht : t ≠ []) (h : vstep t = some t') : t'.length < t.length := by
  have hp := List.length_pos_iff.2 ht
  unfold vstep at h
  dsimp only at h
  split at h
  · cases h; rw [List.length_drop]; omega
  split at h
  · rename_i h8
    split at h
    · cases h
    · cases h; rw [List.length_drop]; omega
  · cases h
theorem validF_ge : ∀ (n m : Nat) (t : Txt), t.length ≤ n → t.length ≤ m → validF n t = validF m t
  | 0, m, t, h, _ => by
    have : t = [] := List.length_eq_zero_iff.1 (by omega)
    subst this
    cases m <;> rfl
  | n + 1, 0, t, _, h => by
    have : t = [] := List.length_eq_zero_iff.1 (by omega)
    subst this
    rfl
  | n + 1, m + 1, t, h1, h2 => by
    unfold validF
    by_cases ht : t = []
    · simp [ht]
    simp only [if_neg ht]
    cases hv : vstep t with
    | none => rfl
    | some t' =>
      have := vstep_lt ht hv
      exact validF_ge n m t' (by omega) (by omega)
theorem validF_succ (n : Nat) (t : Txt) : validF (n + 1) t = if t = [] then true else match vstep t with | none => false | some t' => validF n t' := rfl
theorem valid_some {t t' : Txt} (ht : t ≠ []) (h : vstep t = some t') : valid t = valid t' := by
  have := vstep_lt ht h
  obtain ⟨n, hn⟩ : ∃ n, t.length = n + 1 := ⟨t.length - 1, by omega⟩
  unfold valid
  rw [hn, validF_succ, if_neg ht, h]
  exact validF_ge n t'.length t' (by omega) (by omega)
theorem valid_none {t : Txt} (ht : t ≠ []) (h : vstep t = none) : valid t = false := by
  obtain ⟨n, hn⟩ : ∃ n, t.length = n + 1 := ⟨t.length - 1, by have := List.length_pos_iff.2 ht; omega⟩
  unfold valid
  rw [hn, validF_succ, if_neg ht, h]
theorem valid_ascii {t : Txt} (ht : t ≠ []) (h : byt t 0 < 128) : valid t = valid (t.drop 1) := by
  refine valid_some ht ?_
  unfold vstep
  have h0 : (t.getD 0 0).toNat < 128 := by unfold byt at h; omega
  simp only [h0, if_true]
theorem byt_drop (t : Txt) (k i : Nat) : byt (t.drop k) i = byt t (k + i) := by
  unfold byt; rw [List.getD_eq_getElem?_getD, List.getD_eq_getElem?_getD, List.getElem?_drop]
theorem valid_skip : ∀ (n : Nat) (t : Txt), n ≤ t.length → (∀ i, i < n → byt t i < 128) → valid (t.drop n) = valid t
  | 0, t, _, _ => by simp
  | n + 1, t, hn, h => by
    have ht : t ≠ [] := fun e => by subst e; simp at hn
    rw [valid_ascii ht (h 0 (by omega)), ← valid_skip n (t.drop 1) (by simp; omega) (fun i hi => by rw [byt_drop]; exact h (1 + i) (by omega)), List.drop_drop]
    congr 2; omega
/-! ### 2. Eight bytes at once -/
def bN (t : Txt) (i : Nat) : Nat := (t.getD i 0).toNat
theorem bN_lt (t : Txt) (i : Nat) : bN t i < 256 := (t.getD i 0).toNat_lt
def wordN (t : Txt) : Nat := bN t 0 + bN t 1 * 2 ^ 8 + bN t 2 * 2 ^ 16 + bN t 3 * 2 ^ 24 + bN t 4 * 2 ^ 32 + bN t 5 * 2 ^ 40 + bN t 6 * 2 ^ 48 + bN t 7 * 2 ^ 56
theorem wordN_lt (t : Txt) : wordN t < 18446744073709551616 := by
  unfold wordN
  have h0 := bN_lt t 0; have h1 := bN_lt t 1; have h2 := bN_lt t 2; have h3 := bN_lt t 3; have h4 := bN_lt t 4; have h5 := bN_lt t 5; have h6 := bN_lt t 6; have h7 := bN_lt t 7
  omega
theorem or_step (acc b k : Nat) (hb : b < 256) (hk : k ≤ 56) (ha : acc < 2 ^ k) : bop .or .u64 (acc : Int) (IntKind.u64.wrap ((b : Int) * 2 ^ k)) = ((acc + b * 2 ^ k : Nat) : Int) := by
  have hle : b * 2 ^ k < 2 ^ 64 := by
    have h1 : b * 2 ^ k < 256 * 2 ^ k := Nat.mul_lt_mul_of_pos_right hb (Nat.two_pow_pos k)
    have h2 : 256 * 2 ^ k ≤ 2 ^ 64 := by
      have : 2 ^ k ≤ 2 ^ 56 := Nat.pow_le_pow_right (by decide) hk
      omega
    omega
  have ha' : acc < 18446744073709551616 := by
    have : 2 ^ k ≤ 2 ^ 56 := Nat.pow_le_pow_right (by decide) hk
    omega
  have hw : IntKind.u64.wrap ((b : Int) * 2 ^ k) = ((b * 2 ^ k : Nat) : Int) := by
    have e : ((b : Int) * 2 ^ k) = ((b * 2 ^ k : Nat) : Int) := by push_cast; rfl
    rw [e]
    unfold IntKind.wrap
    simp only [IntKind.signed, IntKind.bits, Bool.false_and, Bool.false_eq_true, if_false]
    omega
  rw [hw]
  unfold bop
  rw [u64_or_nat _ _ ha' (by omega)]
  rw [Nat.or_comm, nat_join k (b * 2 ^ k) acc (by simp) ha, Nat.add_comm]
theorem u64w (n : Nat) (h : n < 18446744073709551616) : IntKind.u64.wrap (n : Int) = (n : Int) := by
  unfold IntKind.wrap
  simp only [IntKind.signed, IntKind.bits, Bool.false_and, Bool.false_eq_true, if_false]
  omega
theorem c_word (t : Txt) (h : 8 ≤ t.length) : Does Tryd.prog 78 [str t].toArray [] (fun _ : Unit => .int .u64 (wordN t)) (fun _ => True) (fun _ => []) := by
  refine spec_of Tryd.func78 rfl Tryd.ntmps78 rfl fun R w0 => ?_
  repeat refine sy ?_
  refine vc_cond_f rfl ?_
  repeat refine sy ?_
  refine vd_start ?_
  repeat refine dq ?_
  refine dv ⟨?_, ?_⟩
  · exact aq
  refine va_end ?_
  repeat refine sy ?_
  exact en () trivial (hv := by
    have h0 := bN_lt t 0; have h1 := bN_lt t 1; have h2 := bN_lt t 2; have h3 := bN_lt t 3; have h4 := bN_lt t 4; have h5 := bN_lt t 5; have h6 := bN_lt t 6; have h7 := bN_lt t 7
    have w0 : IntKind.u64.wrap ((bN t 0 : Nat) : Int) = ((bN t 0 : Nat) : Int) := u64w _ (by omega)
    have w1 : IntKind.u64.wrap ((bN t 1 : Nat) : Int) = ((bN t 1 : Nat) : Int) := u64w _ (by omega)
    have w2 : IntKind.u64.wrap ((bN t 2 : Nat) : Int) = ((bN t 2 : Nat) : Int) := u64w _ (by omega)
    have w3 : IntKind.u64.wrap ((bN t 3 : Nat) : Int) = ((bN t 3 : Nat) : Int) := u64w _ (by omega)
    have w4 : IntKind.u64.wrap ((bN t 4 : Nat) : Int) = ((bN t 4 : Nat) : Int) := u64w _ (by omega)
    have w5 : IntKind.u64.wrap ((bN t 5 : Nat) : Int) = ((bN t 5 : Nat) : Int) := u64w _ (by omega)
    have w6 : IntKind.u64.wrap ((bN t 6 : Nat) : Int) = ((bN t 6 : Nat) : Int) := u64w _ (by omega)
    have w7 : IntKind.u64.wrap ((bN t 7 : Nat) : Int) = ((bN t 7 : Nat) : Int) := u64w _ (by omega)
    show Value.int .u64 _ = Value.int .u64 (bop .or .u64 (bop .or .u64 (bop .or .u64 (bop .or .u64 (bop .or .u64 (bop .or .u64 (bop .or .u64 (IntKind.u64.wrap ((bN t 0 : Nat) : Int)) (IntKind.u64.wrap (IntKind.u64.wrap ((bN t 1 : Nat) : Int) * 2 ^ 8))) (IntKind.u64.wrap (IntKind.u64.wrap ((bN t 2 : Nat) : Int) * 2 ^ 16))) (IntKind.u64.wrap (IntKind.u64.wrap ((bN t 3 : Nat) : Int) * 2 ^ 24))) (IntKind.u64.wrap (IntKind.u64.wrap ((bN t 4 : Nat) : Int) * 2 ^ 32))) (IntKind.u64.wrap (IntKind.u64.wrap ((bN t 5 : Nat) : Int) * 2 ^ 40))) (IntKind.u64.wrap (IntKind.u64.wrap ((bN t 6 : Nat) : Int) * 2 ^ 48))) (IntKind.u64.wrap (IntKind.u64.wrap ((bN t 7 : Nat) : Int) * 2 ^ 56)))
    rw [w0, w1, w2, w3, w4, w5, w6, w7]
    rw [or_step _ _ 8 h1 (by decide) (by omega), or_step _ _ 16 h2 (by decide) (by omega), or_step _ _ 24 h3 (by decide) (by omega), or_step _ _ 32 h4 (by decide) (by omega), or_step _ _ 40 h5 (by decide) (by omega), or_step _ _ 48 h6 (by decide) (by omega), or_step _ _ 56 h7 (by decide) (by omega)]
    rfl)
def hiN : Nat := 9259542123273814144
theorem hi_bytes (t : Txt) (h : wordN t &&& hiN = 0) : ∀ i, i < 8 → byt t i < 128 := by
  have h0 := bN_lt t 0; have h1 := bN_lt t 1; have h2 := bN_lt t 2; have h3 := bN_lt t 3; have h4 := bN_lt t 4; have h5 := bN_lt t 5; have h6 := bN_lt t 6; have h7 := bN_lt t 7
  have key : ∀ j, hiN.testBit j = true → (wordN t).testBit j = false := by
    intro j hj
    have := congrArg (Nat.testBit · j) h
    simp only [Nat.testBit_and, hj, Bool.and_true, Nat.zero_testBit] at this
    exact this
  have e : ∀ i, byt t i = (bN t i : Int) := fun i => rfl
  intro i hi
  rw [e]
  have k0 := key 7 (by decide); have k1 := key 15 (by decide); have k2 := key 23 (by decide); have k3 := key 31 (by decide)
  have k4 := key 39 (by decide); have k5 := key 47 (by decide); have k6 := key 55 (by decide); have k7 := key 63 (by decide)
  simp only [Nat.testBit_eq_decide_div_mod_eq, decide_eq_false_iff_not] at k0 k1 k2 k3 k4 k5 k6 k7
  unfold wordN at k0 k1 k2 k3 k4 k5 k6 k7
  match i, hi with
  | 0, _ => omega
  | 1, _ => omega
  | 2, _ => omega
  | 3, _ => omega
  | 4, _ => omega
  | 5, _ => omega
  | 6, _ => omega
  | 7, _ => omega
theorem or_hi {a b : Nat} (h : (a ||| b) &&& hiN = 0) : a &&& hiN = 0 ∧ b &&& hiN = 0 := by
  rw [Nat.and_or_distrib_right] at h
  exact Nat.or_eq_zero_iff.1 h
theorem and7 (x : Nat) (h : x < 256) : bop .and .u8 (x : Int) 7 = ((x % 8 : Nat) : Int) := by
  unfold bop
  have := u8_and_nat x 7 h (by decide)
  rw [show ((7 : Nat) : Int) = 7 from rfl] at this
  rw [this, show (7 : Nat) = 2 ^ 3 - 1 by decide, Nat.and_two_pow_sub_one_eq_mod]
theorem firstT_lt (b : Nat) : Lib.firstT b < 256 := by
  unfold Lib.firstT
  repeat' split
  all_goals omega
theorem and_hi {a : Nat} (h : a < 18446744073709551616) : bop .and .u64 (a : Int) 9259542123273814144 = ((a &&& hiN : Nat) : Int) := by
  unfold bop
  exact u64_and_nat a hiN h (by decide)
theorem or_or {a b : Nat} (ha : a < 18446744073709551616) (hb : b < 18446744073709551616) : bop .or .u64 (a : Int) (b : Int) = ((a ||| b : Nat) : Int) := by
  unfold bop
  exact u64_or_nat a b ha hb
theorem or_lt {a b : Nat} (ha : a < 18446744073709551616) (hb : b < 18446744073709551616) : a ||| b < 18446744073709551616 := Nat.or_lt_two_pow (n := 64) ha hb
theorem bad2_iff {t : Txt} {lo hi : Int} : badB t 2 lo hi = true ↔ ((t.length : Int) < 2 ∨ byt t 1 < lo ∨ hi < byt t 1) := by
  simp [badB, or_assoc]
theorem bad3_iff {t : Txt} {lo hi : Int} : badB t 3 lo hi = true ↔ ((t.length : Int) < 3 ∨ byt t 1 < lo ∨ hi < byt t 1 ∨ byt t 2 < 128 ∨ 191 < byt t 2) := by
  simp [badB, or_assoc]
theorem bad4_iff {t : Txt} {lo hi : Int} : badB t 4 lo hi = true ↔ ((t.length : Int) < 4 ∨ byt t 1 < lo ∨ hi < byt t 1 ∨ byt t 2 < 128 ∨ 191 < byt t 2 ∨ byt t 3 < 128 ∨ 191 < byt t 3) := by
  simp [badB, or_assoc]
theorem valid_bad {t : Txt} (ht : t ≠ []) (h3 : ¬ byt t 0 < 128) {n : Nat} (hn : Lib.firstT (bN t 0) % 8 = n) (h : (n ≠ 2 ∧ n ≠ 3 ∧ n ≠ 4) ∨ badB t n (Lib.accLo (Lib.firstT (bN t 0) / 16)) (Lib.accHi (Lib.firstT (bN t 0) / 16)) = true) : valid t = false := by
  refine valid_none ht ?_
  have h0 : ¬ (t.getD 0 0).toNat < 128 := by unfold byt at h3; omega
  unfold vstep
  dsimp only
  rw [if_neg h0]
  show (if Lib.firstT (bN t 0) % 8 = 2 ∨ Lib.firstT (bN t 0) % 8 = 3 ∨ Lib.firstT (bN t 0) % 8 = 4 then _ else _) = _
  rcases h with h | h
  · rw [if_neg (by omega)]
  · split
    · subst hn
      show (if badB t (Lib.firstT (bN t 0) % 8) (Lib.accLo (Lib.firstT (bN t 0) / 16)) (Lib.accHi (Lib.firstT (bN t 0) / 16)) = true then none else _) = _
      rw [if_pos h]
    · rfl
theorem valid_good {t : Txt} (ht : t ≠ []) (h3 : ¬ byt t 0 < 128) {n : Nat} (hn : Lib.firstT (bN t 0) % 8 = n) (h : n = 2 ∨ n = 3 ∨ n = 4) (hb : ¬ badB t n (Lib.accLo (Lib.firstT (bN t 0) / 16)) (Lib.accHi (Lib.firstT (bN t 0) / 16)) = true) : valid t = valid (t.drop n) := by
  refine valid_some ht ?_
  have h0 : ¬ (t.getD 0 0).toNat < 128 := by unfold byt at h3; omega
  unfold vstep
  dsimp only
  rw [if_neg h0]
  show (if Lib.firstT (bN t 0) % 8 = 2 ∨ Lib.firstT (bN t 0) % 8 = 3 ∨ Lib.firstT (bN t 0) % 8 = 4 then _ else _) = _
  rw [if_pos (by omega)]
  subst hn
  show (if badB t (Lib.firstT (bN t 0) % 8) (Lib.accLo (Lib.firstT (bN t 0) / 16)) (Lib.accHi (Lib.firstT (bN t 0) / 16)) = true then none else _) = _
  rw [if_neg hb]; rfl
theorem c_Valid (s : Txt) (hs : s.length ≤ 1000000) : Does Tryd.prog 67 [str s].toArray [TB] (fun _ : Unit => .bool (valid s)) (fun _ => True) (fun _ => []) := by
  refine spec_of Tryd.func67 rfl Tryd.ntmps67 rfl fun R w0 => ?_
  repeat refine sy ?_
  refine lp (ι := Txt) (fun t => t.length ≤ 1000000 ∧ valid t = valid s) (fun t => [(0, str t)]) (fun _ => [TB, R]) (fun t => t.length) s ⟨hs, rfl⟩ ?_
  rintro t ⟨h1, h2⟩
  repeat refine sy ?_
  refine vc_cond_dec rfl (fun h => ?_) (fun h => ?_)
  rotate_left
  · have : t = [] := List.length_eq_zero_iff.1 (by omega)
    subst this
    repeat refine sy ?_
    exact en () trivial (hv := by rw [← h2]; rfl)
  have ht : t ≠ [] := fun e => by subst e; simp at h
  repeat refine sy ?_
  refine vc_cond_dec rfl (fun h3 => ?_) (fun h3 => ?_)
  · -- a plain sign, and perhaps many
    have h3' : byt t 0 < 128 := h3
    rw [valid_ascii ht h3'] at h2
    have hl1 : (t.drop 1).length < t.length := by simp; omega
    generalize ht1 : t.drop 1 = t1 at h2 hl1
    repeat refine sy ?_
    rw [show List.drop (Int.toNat 1) t = t1 from ht1]
    refine vd (fun h4 => ?_) (fun h4 => ?_)
    rotate_left
    · repeat refine sy ?_
      refine vc_cond_f rfl ?_
      repeat refine sy ?_
      exact ag t1 ⟨by omega, h2⟩ hl1
    repeat refine sy ?_
    refine cd (c_word t1 (by omega)) ?_
    repeat refine sy ?_
    rw [and_hi (wordN_lt t1)]
    refine vc_cond_dec rfl (fun h5 => ?_) (fun h5 => ?_)
    rotate_left
    · repeat refine sy ?_
      exact ag t1 ⟨by omega, h2⟩ hl1
    have b1 := hi_bytes t1 (by omega)
    rw [← valid_skip 8 t1 (by omega) b1] at h2
    have hl2 : (t1.drop 8).length < t.length := by simp; omega
    generalize ht2 : t1.drop 8 = t2 at h2 hl2
    repeat refine sy ?_
    rw [show List.drop (Int.toNat 8) t1 = t2 from ht2]
    refine vd_start ?_
    repeat refine dq ?_
    refine va_dec (fun h6 => ?_) (fun h6 => ?_)
    rotate_left
    · repeat refine dq ?_
      refine va_end ?_
      repeat refine sy ?_
      refine vc_cond_f rfl ?_
      repeat refine sy ?_
      exact ag t2 ⟨by omega, h2⟩ hl2
    repeat refine dq ?_
    refine va_pick 6 ?_
    refine dq ?_
    refine va_pick 7 ?_
    refine dq ?_
    refine va_pick 5 ?_
    refine de (op_call (c_word t2 (by omega)) KCall.out rfl) (fun _ _ => ⟨?_, ?_⟩)
    · exact aq
    refine de (op_call (c_word (t2.drop 8) (by simp; omega)) KCall.out rfl) (fun _ _ => ⟨?_, ?_⟩)
    · exact aq
    repeat refine dq ?_
    refine va_end ?_
    rw [or_or (wordN_lt t2) (wordN_lt (t2.drop 8)), and_hi (or_lt (wordN_lt t2) (wordN_lt (t2.drop 8)))]
    repeat refine sy ?_
    refine vc_cond_dec rfl (fun h7 => ?_) (fun h7 => ?_)
    rotate_left
    · repeat refine sy ?_
      exact ag t2 ⟨by omega, h2⟩ hl2
    have o1 := or_hi (show (wordN t2 ||| wordN (t2.drop 8)) &&& hiN = 0 by omega)
    have b2 := hi_bytes t2 o1.1
    have b3 := hi_bytes (t2.drop 8) o1.2
    rw [← valid_skip 8 t2 (by omega) b2, ← valid_skip 8 (t2.drop 8) (by simp; omega) b3, List.drop_drop] at h2
    have hl3 : (t2.drop (8 + 8)).length < t.length := by rw [List.length_drop]; omega
    generalize ht3 : t2.drop (8 + 8) = t3 at h2 hl3
    repeat refine sy ?_
    rw [show List.drop (Int.toNat 16) t2 = t3 from ht3]
    refine lp (ι := Txt) (fun u => u.length < t.length ∧ valid u = valid s) (fun u => [(0, str u)]) (fun _ => [TB, R]) (fun u => u.length) t3 ⟨hl3, h2⟩ ?_
    rintro u ⟨g1, g2⟩
    repeat refine sy ?_
    refine vd_start ?_
    repeat refine dq ?_
    refine va_dec (fun h8 => ?_) (fun h8 => ?_)
    rotate_left
    · repeat refine dq ?_
      refine va_end ?_
      repeat refine sy ?_
      refine vc_cond_f rfl ?_
      repeat refine sy ?_
      exact ag u ⟨by omega, g2⟩ g1
    repeat refine dq ?_
    refine va_pick 6 ?_
    refine dq ?_
    refine va_pick 7 ?_
    refine dq ?_
    refine va_pick 10 ?_
    refine dq ?_
    refine va_pick 11 ?_
    refine dq ?_
    refine va_pick 13 ?_
    refine dq ?_
    refine va_pick 14 ?_
    refine dq ?_
    refine va_pick 5 ?_
    refine de (op_call (c_word u (by omega)) KCall.out rfl) (fun _ _ => ⟨?_, ?_⟩)
    · exact aq
    refine va_pick 8 ?_
    refine de (op_call (c_word (u.drop 8) (by simp; omega)) KCall.out rfl) (fun _ _ => ⟨?_, ?_⟩)
    · exact aq
    refine va_pick 9 ?_
    refine dq ?_
    refine va_pick 12 ?_
    refine de (op_call (c_word (u.drop 16) (by simp; omega)) KCall.out rfl) (fun _ _ => ⟨?_, ?_⟩)
    · exact aq
    refine va_pick 15 ?_
    refine de (op_call (c_word (u.drop 24) (by simp; omega)) KCall.out rfl) (fun _ _ => ⟨?_, ?_⟩)
    · exact aq
    repeat refine dq ?_
    refine va_end ?_
    rw [or_or (wordN_lt u) (wordN_lt (u.drop 8)), or_or (wordN_lt (u.drop 16)) (wordN_lt (u.drop 24)), or_or (or_lt (wordN_lt u) (wordN_lt (u.drop 8))) (or_lt (wordN_lt (u.drop 16)) (wordN_lt (u.drop 24))), and_hi (or_lt (or_lt (wordN_lt u) (wordN_lt (u.drop 8))) (or_lt (wordN_lt (u.drop 16)) (wordN_lt (u.drop 24))))]
    repeat refine sy ?_
    refine vc_cond_dec rfl (fun h9 => ?_) (fun h9 => ?_)
    rotate_left
    · repeat refine sy ?_
      exact ag u ⟨by omega, g2⟩ g1
    have o1 := or_hi (show ((wordN u ||| wordN (u.drop 8)) ||| (wordN (u.drop 16) ||| wordN (u.drop 24))) &&& hiN = 0 by omega)
    have o2 := or_hi o1.1
    have o3 := or_hi o1.2
    have k1 := hi_bytes u o2.1
    have k2 := hi_bytes (u.drop 8) o2.2
    have k3 := hi_bytes (u.drop 16) o3.1
    have k4 := hi_bytes (u.drop 24) o3.2
    have g3 : valid (u.drop 32) = valid s := by
      rw [← g2, ← valid_skip 8 u (by omega) k1, ← valid_skip 8 (u.drop 8) (by simp; omega) k2, List.drop_drop, ← valid_skip 8 (u.drop 16) (by simp; omega) k3, List.drop_drop, ← valid_skip 8 (u.drop 24) (by simp; omega) k4, List.drop_drop]
    repeat refine sy ?_
    exact ag (u.drop 32) ⟨by rw [List.length_drop]; omega, g3⟩ (by rw [List.length_drop]; omega)
  · have h3' : ¬ byt t 0 < 128 := h3
    have hx := firstT_lt (bN t 0)
    have hb0 := bN_lt t 0
    have u121 : Tryd.prog.underlying 121 = some (.array 256 5) := by kernel_rfl
    have u124 : Tryd.prog.underlying 124 = some (.array 16 123) := by kernel_rfl
    repeat refine sy ?_
    refine sv ?_ (op_index_arr (i := ((bN t 0 : Nat) : Int)) u121 KSize.out rfl rfl ⟨by omega, by omega⟩)
    refine sod (op_first (c := bN t 0) KOne.out rfl hb0) ?_
    repeat refine sy ?_
    rw [and7 _ hx, IntWalk.i64_in _ ⟨by omega, by omega⟩]
    refine sv ?_ (op_index_arr (i := ((Lib.firstT (bN t 0) : Nat) : Int) / 2 ^ (Int.toNat 4)) u124 KSize.out rfl rfl ⟨by simp; omega, by simp; omega⟩)
    rw [show (((Lib.firstT (bN t 0) : Nat) : Int) / 2 ^ (Int.toNat 4)).toNat = Lib.firstT (bN t 0) / 16 by simp; omega]
    refine sod (op_acc (c := Lib.firstT (bN t 0) / 16) KAgg.out rfl (by omega)) ?_
    repeat refine sy ?_
    refine s_alloc (fun b6 => ?_)
    repeat refine sy ?_
    refine vc_cond_dec rfl (fun hn => ?_) (fun hn => ?_)
    · have hn' : Lib.firstT (bN t 0) % 8 = 2 := by omega
      repeat refine sy ?_
      refine vd_start ?_
      repeat' (first | refine dq ?_ | refine va_dec (fun h => ?_) (fun h => ?_))
      all_goals refine va_end ?_
      all_goals repeat refine sy ?_
      all_goals first
        | (refine vc_cond_t rfl ?_
           repeat refine sy ?_
           refine en () trivial (hv := ?_)
           show Value.bool (valid s) = Value.bool false
           rw [← h2, valid_bad ht h3' hn' (.inr (bad2_iff.2 ?_))]
           unfold byt
           simp only [Int.reduceToNat, Int.toNat_one] at *
           omega)
        | (refine vc_cond_f rfl ?_
           repeat refine sy ?_
           refine ag (t.drop 2) ⟨by rw [List.length_drop]; omega, ?_⟩ (by rw [List.length_drop]; omega)
           rw [← h2, valid_good ht h3' hn' (by decide) (fun hb => ?_)]
           have hb' := bad2_iff.1 hb
           unfold byt at hb'
           simp only [Int.reduceToNat, Int.toNat_one] at *
           omega)
    repeat refine sy ?_
    refine vc_cond_dec rfl (fun hn => ?_) (fun hn => ?_)
    · have hn' : Lib.firstT (bN t 0) % 8 = 3 := by omega
      repeat refine sy ?_
      refine vd_start ?_
      repeat' (first | refine dq ?_ | refine va_dec (fun h => ?_) (fun h => ?_))
      all_goals refine va_end ?_
      all_goals repeat refine sy ?_
      all_goals first
        | (refine vc_cond_t rfl ?_
           repeat refine sy ?_
           refine en () trivial (hv := ?_)
           show Value.bool (valid s) = Value.bool false
           rw [← h2, valid_bad ht h3' hn' (.inr (bad3_iff.2 ?_))]
           unfold byt
           simp only [Int.reduceToNat, Int.toNat_one] at *
           omega)
        | (refine vc_cond_f rfl ?_
           repeat refine sy ?_
           refine ag (t.drop 3) ⟨by rw [List.length_drop]; omega, ?_⟩ (by rw [List.length_drop]; omega)
           rw [← h2, valid_good ht h3' hn' (by decide) (fun hb => ?_)]
           have hb' := bad3_iff.1 hb
           unfold byt at hb'
           simp only [Int.reduceToNat, Int.toNat_one] at *
           omega)
    repeat refine sy ?_
    refine vc_cond_dec rfl (fun hn => ?_) (fun hn => ?_)
    · have hn' : Lib.firstT (bN t 0) % 8 = 4 := by omega
      repeat refine sy ?_
      refine vd_start ?_
      repeat' (first | refine dq ?_ | refine va_dec (fun h => ?_) (fun h => ?_))
      all_goals refine va_end ?_
      all_goals repeat refine sy ?_
      all_goals first
        | (refine vc_cond_t rfl ?_
           repeat refine sy ?_
           refine en () trivial (hv := ?_)
           show Value.bool (valid s) = Value.bool false
           rw [← h2, valid_bad ht h3' hn' (.inr (bad4_iff.2 ?_))]
           unfold byt
           simp only [Int.reduceToNat, Int.toNat_one] at *
           omega)
        | (refine vc_cond_f rfl ?_
           repeat refine sy ?_
           refine ag (t.drop 4) ⟨by rw [List.length_drop]; omega, ?_⟩ (by rw [List.length_drop]; omega)
           rw [← h2, valid_good ht h3' hn' (by decide) (fun hb => ?_)]
           have hb' := bad4_iff.1 hb
           unfold byt at hb'
           simp only [Int.reduceToNat, Int.toNat_one] at *
           omega)
    repeat refine sy ?_
    exact en () trivial (hv := by rw [← h2, valid_bad ht h3' rfl (.inl ⟨by omega, by omega, by omega⟩)]; rfl)
end Go.Proofs.YtikodfclemgfoaaDoor
