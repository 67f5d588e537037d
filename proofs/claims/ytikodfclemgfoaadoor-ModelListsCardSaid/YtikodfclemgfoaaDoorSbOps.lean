/- The operations that touch no memory, each as a rule for one step. -/
import Derived.Test.YtikodfclemgfoaaDoorSbCore
set_option linter.all false
set_option linter.unusedVariables false
set_option linter.unusedSimpArgs false
namespace Go.Sb
def nth : List Value → Nat → Option Value
  | [], _ => none
  | v :: _, 0 => some v
  | _ :: l, i + 1 => nth l i
theorem nth_eq {l : List Value} {i : Nat} : nth l i = l[i]? := by
  induction l generalizing i with
  | nil => rfl
  | cons v l ih => cases i <;> simp [nth, ih]
open Go.RowKit

/-- What an operation comes to where the slots read e. -/
def OpE (P : Program) (e : Slots) (o : Oper) (A : List Asrt) {α : Type} (val : α → Value) (pu : α → Prop) (res : α → List Asrt) : Prop :=
  ∀ ρ : Operand → Value, (∀ x v, see e x = some v → ρ x = v) → OpS P o ρ A val pu res
/-- It only reckons: this value. -/
def OpV (P : Program) (e : Slots) (o : Oper) (v : Value) : Prop :=
  ∀ ρ : Operand → Value, (∀ x v, see e x = some v → ρ x = v) → ∀ w, (execOp ρ o).run P w = .ok (.value v) w
/-- It has one outcome: this value, and A turned to A'. -/
def OpD (P : Program) (e : Slots) (o : Oper) (A : List Asrt) (v : Value) (A' : List Asrt) : Prop := OpE P e o A (fun _ : Unit => v) (fun _ => True) (fun _ => A')

section
variable {P : Program} {N : Nat} {e : Slots} {l m : List Asrt} {w0 : World} {Q : Exit → Act → World → Prop} {ops : Array Oper} {o : Oper} {rest : List Oper}
theorem OpV.d {v : Value} (h : OpV P e o v) : OpD P e o [] v [] := fun ρ hρ R w hs => by
  rw [h ρ hρ w]; exact ⟨(), rfl, trivial, hs, Env.refl w⟩
end

section
variable {P : Program} {e : Slots} {x y z : Operand} {u v : Value} {dst : Option Tmp} {t : TypeId} {pos : String} {aft : Array Edge} {g : Option (Nat × Bool)}
theorem op_move (hx : see e x = some v) : OpV P e ⟨dst, .move x, t, pos, aft, g⟩ v := fun ρ hρ w => by simp [execOp, hρ x v hx]
theorem op_assign (hx : see e x = some v) : OpV P e ⟨dst, .assign x, t, pos, aft, g⟩ v := fun ρ hρ w => by simp [execOp, hρ x v hx]
theorem op_pick {b : Bool} (hc : see e x = some (.bool b)) (hy : see e y = some u) (hz : see e z = some v) : OpV P e ⟨dst, .pick x y z, t, pos, aft, g⟩ (if b then u else v) := fun ρ hρ w => by
  simp [execOp, hρ x _ hc, hρ y _ hy, hρ z _ hz, asBool]
theorem op_pick_t (hc : see e x = some (.bool true)) (hy : see e y = some u) : OpV P e ⟨dst, .pick x y z, t, pos, aft, g⟩ u := fun ρ hρ w => by
  simp [execOp, hρ x _ hc, hρ y _ hy, asBool]
theorem op_pick_f (hc : see e x = some (.bool false)) (hz : see e z = some v) : OpV P e ⟨dst, .pick x y z, t, pos, aft, g⟩ v := fun ρ hρ w => by
  simp [execOp, hρ x _ hc, hρ z _ hz, asBool]
theorem op_extract {vs : List Value} {i : Nat} (hx : see e x = some (.tuple ⟨vs⟩)) (hi : nth vs i = some v) : OpV P e ⟨dst, .extract x i, t, pos, aft, g⟩ v := fun ρ hρ w => by
  have hi' : (⟨vs⟩ : Array Value)[i]? = some v := by rw [nth_eq] at hi; simpa using hi
  simp [execOp, hρ x _ hx, Instr.extract, hi']
theorem op_nilCheck {a : Addr} (hx : see e x = some (.pointer (some a))) : OpV P e ⟨dst, .nilCheck x, t, pos, aft, g⟩ (.pointer (some a)) := fun ρ hρ w => by
  simp [execOp, hρ x _ hx]
theorem op_nilCheck_func {f : Fn} {as bs : Array Value} (hf : ∀ n, f ≠ .method n) (hx : see e x = some (.func f as bs)) : OpV P e ⟨dst, .nilCheck x, t, pos, aft, g⟩ (.func f as bs) := fun ρ hρ w => by
  cases f <;> simp [execOp, hρ x _ hx]
  exact absurd rfl (hf _)

/-! ### whole numbers -/
section
variable {k : IntKind} {a b : Int} {yt : TypeId} {xt : TypeId}
theorem op_bin {op : BinOp} {r : Value} (hx : see e x = some (.int k a)) (hy : see e y = some v) (hr : ∀ w, (binOp op xt (.int k a) v).run P w = .ok r w) : OpV P e ⟨dst, .binOp op xt x y yt, t, pos, aft, g⟩ r := fun ρ hρ w => by
  simp only [execOp, hρ x _ hx, hρ y _ hy, eqGuard_at_int, Sem.run_bind, Sem.run_pure, Result.andThen_ok, hr]
theorem op_addw (hx : see e x = some (.int k a)) (hy : see e y = some (.int k b)) : OpV P e ⟨dst, .binOp .add xt x y yt, t, pos, aft, g⟩ (.int k (k.wrap (a + b))) :=
  op_bin hx hy fun w => by rw [binOp_add]; rfl
theorem op_subw (hx : see e x = some (.int k a)) (hy : see e y = some (.int k b)) : OpV P e ⟨dst, .binOp .sub xt x y yt, t, pos, aft, g⟩ (.int k (k.wrap (a - b))) :=
  op_bin hx hy fun w => by rw [binOp_sub]; rfl
theorem op_mulw (hx : see e x = some (.int k a)) (hy : see e y = some (.int k b)) : OpV P e ⟨dst, .binOp .mul xt x y yt, t, pos, aft, g⟩ (.int k (k.wrap (a * b))) :=
  op_bin hx hy fun w => by rw [binOp_mul]; rfl
theorem op_add (hx : see e x = some (.int .i64 a)) (hy : see e y = some (.int .i64 b)) (h : -9223372036854775808 ≤ a + b ∧ a + b ≤ 9223372036854775807) : OpV P e ⟨dst, .binOp .add xt x y yt, t, pos, aft, g⟩ (.int .i64 (a + b)) := by
  have := op_addw (P := P) (dst := dst) (xt := xt) (yt := yt) (t := t) (pos := pos) (aft := aft) (g := g) hx hy
  rwa [IntWalk.i64_in _ h] at this
theorem op_sub (hx : see e x = some (.int .i64 a)) (hy : see e y = some (.int .i64 b)) (h : -9223372036854775808 ≤ a - b ∧ a - b ≤ 9223372036854775807) : OpV P e ⟨dst, .binOp .sub xt x y yt, t, pos, aft, g⟩ (.int .i64 (a - b)) := by
  have := op_subw (P := P) (dst := dst) (xt := xt) (yt := yt) (t := t) (pos := pos) (aft := aft) (g := g) hx hy
  rwa [IntWalk.i64_in _ h] at this
theorem op_mul (hx : see e x = some (.int .i64 a)) (hy : see e y = some (.int .i64 b)) (h : -9223372036854775808 ≤ a * b ∧ a * b ≤ 9223372036854775807) : OpV P e ⟨dst, .binOp .mul xt x y yt, t, pos, aft, g⟩ (.int .i64 (a * b)) := by
  have := op_mulw (P := P) (dst := dst) (xt := xt) (yt := yt) (t := t) (pos := pos) (aft := aft) (g := g) hx hy
  rwa [IntWalk.i64_in _ h] at this
theorem op_quo (hx : see e x = some (.int .i64 a)) (hy : see e y = some (.int .i64 b)) (ha : 0 ≤ a ∧ a ≤ 9223372036854775807) (hb : 0 < b) : OpV P e ⟨dst, .binOp .quo xt x y yt, t, pos, aft, g⟩ (.int .i64 (a / b)) :=
  op_bin hx hy fun w => by
    rw [binOp_quo]
    have h1 : a.tdiv b = a / b := Int.tdiv_eq_ediv_of_nonneg ha.1
    have h2 : 0 ≤ a / b := Int.ediv_nonneg ha.1 (by omega)
    have h3 : a / b ≤ a := Int.ediv_le_self _ ha.1
    simp [Op.intDiv, show b ≠ 0 by omega, h1, IntWalk.i64_in (a / b) ⟨by omega, by omega⟩]
theorem op_rem (hx : see e x = some (.int k a)) (hy : see e y = some (.int k b)) (ha : 0 ≤ a) (hb : 0 < b) : OpV P e ⟨dst, .binOp .rem xt x y yt, t, pos, aft, g⟩ (.int k (a % b)) :=
  op_bin hx hy fun w => by
    rw [binOp_rem]
    have h1 : a.tmod b = a % b := Int.tmod_eq_emod_of_nonneg ha
    simp [Op.intDiv, show b ≠ 0 by omega, h1]
theorem op_remt (hx : see e x = some (.int k a)) (hy : see e y = some (.int k b)) (hb : b ≠ 0) : OpV P e ⟨dst, .binOp .rem xt x y yt, t, pos, aft, g⟩ (.int k (a.tmod b)) :=
  op_bin hx hy fun w => by
    rw [binOp_rem]
    simp [Op.intDiv, hb]
theorem op_eq (hx : see e x = some (.int k a)) (hy : see e y = some (.int k b)) : OpV P e ⟨dst, .binOp .eql xt x y yt, t, pos, aft, g⟩ (.bool (decide (a = b))) :=
  op_bin hx hy fun w => by rw [binOp_eql]; rfl
theorem op_ne (hx : see e x = some (.int k a)) (hy : see e y = some (.int k b)) : OpV P e ⟨dst, .binOp .neq xt x y yt, t, pos, aft, g⟩ (.bool (decide (a ≠ b))) :=
  op_bin hx hy fun w => by rw [binOp_neq]; have : (a != b) = decide (a ≠ b) := by rw [Bool.eq_iff_iff]; simp
                           rw [this]; rfl
theorem op_lt (hx : see e x = some (.int k a)) (hy : see e y = some (.int k b)) : OpV P e ⟨dst, .binOp .lss xt x y yt, t, pos, aft, g⟩ (.bool (decide (a < b))) :=
  op_bin hx hy fun w => by rw [binOp_lss]; rfl
theorem op_le (hx : see e x = some (.int k a)) (hy : see e y = some (.int k b)) : OpV P e ⟨dst, .binOp .leq xt x y yt, t, pos, aft, g⟩ (.bool (decide (a ≤ b))) :=
  op_bin hx hy fun w => by rw [binOp_leq]; rfl
theorem op_gt (hx : see e x = some (.int k a)) (hy : see e y = some (.int k b)) : OpV P e ⟨dst, .binOp .gtr xt x y yt, t, pos, aft, g⟩ (.bool (decide (b < a))) :=
  op_bin hx hy fun w => by rw [binOp_gtr]; rfl
theorem op_ge (hx : see e x = some (.int k a)) (hy : see e y = some (.int k b)) : OpV P e ⟨dst, .binOp .geq xt x y yt, t, pos, aft, g⟩ (.bool (decide (b ≤ a))) :=
  op_bin hx hy fun w => by rw [binOp_geq]; rfl
/-- A bit operation as it stands. -/
def bop (op : BinOp) (k : IntKind) (x y : Int) : Int := bits op k x y
theorem op_and (hx : see e x = some (.int k a)) (hy : see e y = some (.int k b)) : OpV P e ⟨dst, .binOp .and xt x y yt, t, pos, aft, g⟩ (.int k (bop .and k a b)) :=
  op_bin hx hy fun w => by rw [binOp_and, intBits_and]; rfl
theorem op_or (hx : see e x = some (.int k a)) (hy : see e y = some (.int k b)) : OpV P e ⟨dst, .binOp .or xt x y yt, t, pos, aft, g⟩ (.int k (bop .or k a b)) :=
  op_bin hx hy fun w => by rw [binOp_or, intBits_or]; rfl
theorem op_xor (hx : see e x = some (.int k a)) (hy : see e y = some (.int k b)) : OpV P e ⟨dst, .binOp .xor xt x y yt, t, pos, aft, g⟩ (.int k (bop .xor k a b)) :=
  op_bin hx hy fun w => by rw [binOp_xor, intBits_xor]; rfl
theorem op_shl {k' : IntKind} (hx : see e x = some (.int k a)) (hy : see e y = some (.int k' b)) (h : 0 ≤ b ∧ b ≤ k.bits) : OpV P e ⟨dst, .binOp .shl xt x y yt, t, pos, aft, g⟩ (.int k (k.wrap (a * 2 ^ b.toNat))) :=
  op_bin hx hy fun w => by
    rw [binOp_shl]
    have : min b.toNat k.bits = b.toNat := by omega
    simp [Op.shift, show ¬ b < 0 by omega, this]
theorem op_shr {k' : IntKind} (hx : see e x = some (.int k a)) (hy : see e y = some (.int k' b)) (h : 0 ≤ b ∧ b ≤ k.bits) : OpV P e ⟨dst, .binOp .shr xt x y yt, t, pos, aft, g⟩ (.int k (a / 2 ^ b.toNat)) :=
  op_bin hx hy fun w => by
    rw [binOp_shr]
    have : min b.toNat k.bits = b.toNat := by omega
    have h2 : a.fdiv (2 ^ b.toNat) = a / 2 ^ b.toNat := Int.fdiv_eq_ediv_of_nonneg a (Int.le_of_lt (Int.pow_pos (by decide)))
    simp [Op.shift, show ¬ b < 0 by omega, this, h2]
theorem op_inv {xt : TypeId} (hk : k.signed = false) (hx : see e x = some (.int k a)) : OpV P e ⟨dst, .unOp .xor xt x, t, pos, aft, g⟩ (.int k (bop .xor k k.max a)) := fun ρ hρ w => by
  simp only [execOp, hρ x _ hx, Op.unary, hk, intBits_xor, Bool.false_eq_true, if_false, Sem.run_bind, Sem.run_pure, Result.andThen_ok]
  rfl
theorem op_convert_int {src dt : TypeId} {k k' : IntKind} (hs : (P.underlying src).isSome = true) (hd : P.underlying dt = some (.int k')) (hx : see e x = some (.int k a)) : OpV P e ⟨dst, .convert src dt x, t, pos, aft, g⟩ (.int k' (k'.wrap a)) := fun ρ hρ w => by
  obtain ⟨d, hs'⟩ := Option.isSome_iff_exists.1 hs
  simp [execOp, hρ x _ hx, convert, run_underlying hs', run_underlying hd]
  cases d <;> simp [Conv.intToInt]
end

/-! ### truth -/
theorem op_not {b : Bool} {xt : TypeId} (hx : see e x = some (.bool b)) : OpV P e ⟨dst, .unOp .not xt x, t, pos, aft, g⟩ (.bool (!b)) := fun ρ hρ w => by
  simp [execOp, hρ x _ hx, Op.unary]
theorem run_equalIn_bool (d : Nat) {xt : TypeId} {a b : Bool} (ht : P.underlying xt = some .bool) (w : World) : (Op.equalIn (d + 1) xt (.bool a) (.bool b)).run P w = .ok (a == b) w := by
  simp [Op.equalIn, run_underlying ht]
theorem op_eql_of {xt yt : TypeId} {b : Bool} (hx : see e x = some u) (hy : see e y = some v) (hg : eqGuard .eql xt x y u v = Pure.pure ()) (hb : binOp .eql xt u v = (do Pure.pure (.bool (← Op.equal xt u v))))
    (he : ∀ w, (Op.equal xt u v).run P w = .ok b w) : OpV P e ⟨dst, .binOp .eql xt x y yt, t, pos, aft, g⟩ (.bool b) := fun ρ hρ w => by
  simp only [execOp, hρ x _ hx, hρ y _ hy, hg, hb, Sem.run_bind, Sem.run_pure, Result.andThen_ok, he]
theorem op_neq_of {xt yt : TypeId} {b : Bool} (hx : see e x = some u) (hy : see e y = some v) (hg : eqGuard .neq xt x y u v = Pure.pure ()) (hb : binOp .neq xt u v = (do Pure.pure (.bool (!(← Op.equal xt u v)))))
    (he : ∀ w, (Op.equal xt u v).run P w = .ok b w) : OpV P e ⟨dst, .binOp .neq xt x y yt, t, pos, aft, g⟩ (.bool (!b)) := fun ρ hρ w => by
  simp only [execOp, hρ x _ hx, hρ y _ hy, hg, hb, Sem.run_bind, Sem.run_pure, Result.andThen_ok, he]
theorem op_bool_eq {xt yt : TypeId} {a b : Bool} (ht : P.underlying xt = some .bool) (hx : see e x = some (.bool a)) (hy : see e y = some (.bool b)) : OpV P e ⟨dst, .binOp .eql xt x y yt, t, pos, aft, g⟩ (.bool (a == b)) :=
  op_eql_of hx hy (eqGuard_at_bool _ _ _ _ _ _) rfl (run_equalIn_bool 9999 ht)
theorem op_bool_ne {xt yt : TypeId} {a b : Bool} (ht : P.underlying xt = some .bool) (hx : see e x = some (.bool a)) (hy : see e y = some (.bool b)) : OpV P e ⟨dst, .binOp .neq xt x y yt, t, pos, aft, g⟩ (.bool (!(a == b))) :=
  op_neq_of hx hy (eqGuard_at_bool _ _ _ _ _ _) rfl (run_equalIn_bool 9999 ht)

/-! ### texts -/
/-- A text. -/
abbrev str (l : List UInt8) : Value := .string ⟨⟨l⟩⟩
section
variable {a b : List UInt8} {xt yt : TypeId}
theorem toList_str (l : List UInt8) : (⟨⟨l⟩⟩ : ByteArray).toList = l := by rw [ByteArray.toList_eq]
theorem op_str_eq (hx : see e x = some (str a)) (hy : see e y = some (str b)) : OpV P e ⟨dst, .binOp .eql xt x y yt, t, pos, aft, g⟩ (.bool (decide (a = b))) := fun ρ hρ w => by
  simp [execOp, hρ x _ hx, hρ y _ hy, eqGuard_at_string, binOp, Op.stringOp]
  rw [Bool.eq_iff_iff]; simp
theorem op_str_ne (hx : see e x = some (str a)) (hy : see e y = some (str b)) : OpV P e ⟨dst, .binOp .neq xt x y yt, t, pos, aft, g⟩ (.bool (decide (a ≠ b))) := fun ρ hρ w => by
  simp [execOp, hρ x _ hx, hρ y _ hy, eqGuard_at_string, binOp, Op.stringOp]
  rw [Bool.eq_iff_iff]; simp
theorem op_str_lt (hx : see e x = some (str a)) (hy : see e y = some (str b)) : OpV P e ⟨dst, .binOp .lss xt x y yt, t, pos, aft, g⟩ (.bool (Op.bytesLess a b)) := fun ρ hρ w => by
  simp [execOp, hρ x _ hx, hρ y _ hy, eqGuard_at_string, binOp, Op.stringOp]
theorem op_str_cat (h : a.length + b.length ≤ 9223372036854775807) (hx : see e x = some (str a)) (hy : see e y = some (str b)) : OpV P e ⟨dst, .binOp .add xt x y yt, t, pos, aft, g⟩ (str (a ++ b)) := fun ρ hρ w => by
  have h1 : (⟨⟨a⟩⟩ : ByteArray).size = a.length := rfl
  have h2 : (⟨⟨b⟩⟩ : ByteArray).size = b.length := rfl
  have h3 : (⟨⟨a⟩⟩ : ByteArray) ++ ⟨⟨b⟩⟩ = ⟨⟨a ++ b⟩⟩ := by
    apply ByteArray.ext
    simp [ByteArray.data_append]
  have h4 : ¬ (((⟨⟨a⟩⟩ : ByteArray).size + (⟨⟨b⟩⟩ : ByteArray).size : Nat) : Int) > IntKind.i64.max := by
    rw [h1, h2]; have : IntKind.i64.max = 9223372036854775807 := by decide
    omega
  simp only [execOp, hρ x _ hx, hρ y _ hy, eqGuard_at_string, binOp, Op.stringOp]
  rw [if_neg h4, h3]
  rfl
theorem op_str_len {ts : Array TypeId} {c : TypeId} (hc : ts = #[c]) (ht : P.underlying c = some .string) (hx : see e x = some (str a)) : OpV P e ⟨dst, .call ⟨.builtin .len, #[x], ts⟩, t, pos, aft, g⟩ (.int .i64 a.length) := fun ρ hρ w => by
  subst hc
  simp [execOp, resolve, invoke, builtin, Builtin.len_, run_underlying ht, hρ x _ hx, goInt]
  rfl
theorem op_str_at {i : Int} {k : IntKind} (ht : P.underlying xt = some .string) (hx : see e x = some (str a)) (hy : see e y = some (.int k i)) (hi : 0 ≤ i ∧ i < a.length) : OpV P e ⟨dst, .index xt x y, t, pos, aft, g⟩ (.int .u8 (a.getD i.toNat 0).toNat) := fun ρ hρ w => by
  have h1 : i.toNat < a.length := by omega
  have h2 : (⟨⟨a⟩⟩ : ByteArray)[i.toNat]? = some a[i.toNat] := by
    have h3 : i.toNat < (⟨⟨a⟩⟩ : ByteArray).size := h1
    rw [getElem?_pos (⟨⟨a⟩⟩ : ByteArray) i.toNat h3]
    rfl
  simp [execOp, Instr.index, asIntOf, hρ x _ hx, hρ y _ hy, run_underlying ht, hi.1, h2, List.getD_eq_getElem?_getD, List.getElem?_eq_getElem h1]
/-- s[lo:hi]; a bound that is left out is 0, or the end. -/
theorem slice_str (lo hi : Nat) (l : List UInt8) : (⟨⟨l⟩⟩ : ByteArray).extract lo hi = ⟨⟨(l.take hi).drop lo⟩⟩ := by
  apply ByteArray.ext
  rw [ByteArray.data_extract]
  apply Array.ext'
  simp [List.drop_take]
theorem op_str_slice_lo {i : Int} {k : IntKind} (ht : P.underlying xt = some .string) (hx : see e x = some (str a)) (hy : see e y = some (.int k i)) (hi : 0 ≤ i ∧ i ≤ a.length) : OpV P e ⟨dst, .slice xt x (some y) none none, t, pos, aft, g⟩ (str (a.drop i.toNat)) := fun ρ hρ w => by
  have hs : (⟨⟨a⟩⟩ : ByteArray).size = a.length := rfl
  simp [execOp, Instr.sliceAt, Instr.slice, Instr.sliceBounds, Instr.sliceBound, asIntOf, hρ x _ hx, hρ y _ hy, run_underlying ht, hs, hi.1, hi.2, slice_str]
theorem op_str_slice_hi {i : Int} {k : IntKind} (ht : P.underlying xt = some .string) (hx : see e x = some (str a)) (hy : see e y = some (.int k i)) (hi : 0 ≤ i ∧ i ≤ a.length) : OpV P e ⟨dst, .slice xt x none (some y) none, t, pos, aft, g⟩ (str (a.take i.toNat)) := fun ρ hρ w => by
  have hs : (⟨⟨a⟩⟩ : ByteArray).size = a.length := rfl
  simp [execOp, Instr.sliceAt, Instr.slice, Instr.sliceBounds, Instr.sliceBound, asIntOf, hρ x _ hx, hρ y _ hy, run_underlying ht, hs, hi.1, hi.2, slice_str]
theorem op_str_slice {i j : Int} {k k' : IntKind} (ht : P.underlying xt = some .string) (hx : see e x = some (str a)) (hy : see e y = some (.int k i)) (hz : see e z = some (.int k' j)) (hi : 0 ≤ i ∧ i ≤ j ∧ j ≤ a.length) :
    OpV P e ⟨dst, .slice xt x (some y) (some z) none, t, pos, aft, g⟩ (str ((a.take j.toNat).drop i.toNat)) := fun ρ hρ w => by
  have hs : (⟨⟨a⟩⟩ : ByteArray).size = a.length := rfl
  have h1 : i ≤ (j.toNat : Int) := by omega
  simp [execOp, Instr.sliceAt, Instr.slice, Instr.sliceBounds, Instr.sliceBound, asIntOf, hρ x _ hx, hρ y _ hy, hρ z _ hz, run_underlying ht, hs, hi.1, hi.2.2, show 0 ≤ j by omega, slice_str]
  omega
end

/-! ### pointers and nil -/
section
variable {xt yt : TypeId}
theorem run_equalIn_ptr (d : Nat) {p : Option Addr} {s : TypeId} (ht : P.underlying xt = some (.pointer s)) (w : World) : (Op.equalIn (d + 1) xt (.pointer p) (.pointer none)).run P w = .ok p.isNone w := by
  cases p <;> simp [Op.equalIn, run_underlying ht]
theorem run_equalIn_map (d : Nat) {p : Option Nat} {s s' : TypeId} (ht : P.underlying xt = some (.map s s')) (w : World) : (Op.equalIn (d + 1) xt (.map p) (.map none)).run P w = .ok p.isNone w := by
  cases p <;> simp [Op.equalIn, run_underlying ht]
theorem run_equalIn_slice (d : Nat) {p : Option Addr} {n c : Nat} {s : TypeId} (ht : P.underlying xt = some (.slice s)) (w : World) : (Op.equalIn (d + 1) xt (.slice p n c) (.slice none 0 0)).run P w = .ok p.isNone w := by
  cases p <;> simp [Op.equalIn, run_underlying ht]
theorem op_ptr_eq_nil {p : Option Addr} {s : TypeId} (ht : P.underlying xt = some (.pointer s)) (hx : see e x = some (.pointer p)) (hy : see e y = some (.pointer none)) : OpV P e ⟨dst, .binOp .eql xt x y yt, t, pos, aft, g⟩ (.bool p.isNone) :=
  op_eql_of hx hy (eqGuard_at_pointer _ _ _ _ _ _) (by cases p <;> rfl) (run_equalIn_ptr 9999 ht)
theorem op_ptr_ne_nil {p : Option Addr} {s : TypeId} (ht : P.underlying xt = some (.pointer s)) (hx : see e x = some (.pointer p)) (hy : see e y = some (.pointer none)) : OpV P e ⟨dst, .binOp .neq xt x y yt, t, pos, aft, g⟩ (.bool (!p.isNone)) :=
  op_neq_of hx hy (eqGuard_at_pointer _ _ _ _ _ _) (by cases p <;> rfl) (run_equalIn_ptr 9999 ht)
theorem op_map_eq_nil {p : Option Nat} {s s' : TypeId} (ht : P.underlying xt = some (.map s s')) (hx : see e x = some (.map p)) (hy : see e y = some (.map none)) : OpV P e ⟨dst, .binOp .eql xt x y yt, t, pos, aft, g⟩ (.bool p.isNone) :=
  op_eql_of hx hy (eqGuard_at_map _ _ _ _ _ _) (by cases p <;> rfl) (run_equalIn_map 9999 ht)
theorem op_map_ne_nil {p : Option Nat} {s s' : TypeId} (ht : P.underlying xt = some (.map s s')) (hx : see e x = some (.map p)) (hy : see e y = some (.map none)) : OpV P e ⟨dst, .binOp .neq xt x y yt, t, pos, aft, g⟩ (.bool (!p.isNone)) :=
  op_neq_of hx hy (eqGuard_at_map _ _ _ _ _ _) (by cases p <;> rfl) (run_equalIn_map 9999 ht)
theorem op_slice_eq_nil {p : Option Addr} {n c : Nat} {s : TypeId} (ht : P.underlying xt = some (.slice s)) (hx : see e x = some (.slice p n c)) (hy : see e y = some (.slice none 0 0)) : OpV P e ⟨dst, .binOp .eql xt x y yt, t, pos, aft, g⟩ (.bool p.isNone) :=
  op_eql_of hx hy (eqGuard_at_slice _ _ _ _ _ _ _ _) (by cases p <;> rfl) (run_equalIn_slice 9999 ht)
theorem op_slice_ne_nil {p : Option Addr} {n c : Nat} {s : TypeId} (ht : P.underlying xt = some (.slice s)) (hx : see e x = some (.slice p n c)) (hy : see e y = some (.slice none 0 0)) : OpV P e ⟨dst, .binOp .neq xt x y yt, t, pos, aft, g⟩ (.bool (!p.isNone)) :=
  op_neq_of hx hy (eqGuard_at_slice _ _ _ _ _ _ _ _) (by cases p <;> rfl) (run_equalIn_slice 9999 ht)
/-- A field's place: known by the program's tables. -/
def fieldOff (P : Program) (s : TypeId) (i : Nat) : Option Nat :=
  match P.underlying s with
  | some (.struct fs) => match fs[i]? with
    | some f => match P.info? f.type with
      | some ti => if ti.size = 0 then none else some f.offset
      | none => none
    | none => none
  | _ => none
theorem run_fieldAt {s i n b o : Nat} (hf : fieldOff P s i = some n) (w : World) : (Instr.fieldAt s (.pointer (some ⟨b, o, none⟩)) i).run P w = .ok (.pointer (some ⟨b, o + n, none⟩)) w := by
  unfold fieldOff at hf
  split at hf
  · rename_i fs hu
    split at hf
    · rename_i f hfi
      split at hf
      · rename_i ti hti
        split at hf
        · cases hf
        · rename_i hne
          cases hf
          have hadd : (⟨b, o, none⟩ : Addr).add f.offset = ⟨b, o + f.offset, none⟩ := by unfold Addr.add; split <;> simp_all
          simp [Instr.fieldAt, run_underlying hu, hfi, Instr.sureAddr, fieldPlace, sizeOf, typeInfo, hti, hne, hadd]
      · cases hf
    · cases hf
  · cases hf
theorem op_fieldAddr {s i n b o : Nat} (hx : see e x = some (.pointer (some ⟨b, o, none⟩))) (hf : fieldOff P s i = some n) : OpV P e ⟨dst, .fieldAddr s x i, t, pos, aft, g⟩ (.pointer (some ⟨b, o + n, none⟩)) := fun ρ hρ w => by
  simp [execOp, hρ x _ hx, run_fieldAt hf]
/-- A field of a struct by value: where it stands, how many cells it has, whether it is a struct itself. -/
def fieldPart (P : Program) (s : TypeId) (i : Nat) : Option (Nat × Nat × Bool) :=
  match P.underlying s with
  | some (.struct fs) => match fs[i]? with
    | some f => match P.info? f.type, P.underlying f.type with
      | some ti, some d => some (f.offset, ti.size, match d with | .struct _ | .array _ _ => true | _ => false)
      | _, _ => none
    | none => none
  | _ => none
theorem op_field {s i n c : Nat} {ls : List Value} (hx : see e x = some (.agg ⟨ls⟩)) (hf : fieldPart P s i = some (n, c, false)) (hv' : nth ls n = some v) : OpV P e ⟨dst, .field s x i, t, pos, aft, g⟩ v := fun ρ hρ w => by
  obtain ⟨cs, hcs⟩ : ∃ cs : Array Value, cs = ⟨ls⟩ := ⟨_, rfl⟩
  have hv : cs[n]? = some v := by subst hcs; rw [nth_eq] at hv'; simpa using hv'
  rw [← hcs] at hx
  unfold fieldPart at hf
  split at hf
  · rename_i fs hu
    split at hf
    · rename_i f hfi
      split at hf
      · rename_i ti d hti hd
        simp only [Option.some.injEq, Prod.mk.injEq] at hf
        obtain ⟨rfl, rfl, h3⟩ := hf
        have hag : (isAgg f.type).run P w = .ok false w := by
          unfold isAgg
          cases d <;> simp_all [run_underlying hd]
        simp [execOp, hρ x _ hx, Instr.field, run_underlying hu, hfi, asAgg, part, hag, hv]
      · cases hf
    · cases hf
  · cases hf
theorem op_field_agg {s i n c : Nat} {ls ms : List Value} (hx : see e x = some (.agg ⟨ls⟩)) (hf : fieldPart P s i = some (n, c, true)) (hc : (ls.drop n).take c = ms) : OpV P e ⟨dst, .field s x i, t, pos, aft, g⟩ (.agg ⟨ms⟩) := fun ρ hρ w => by
  obtain ⟨cs, hcs⟩ : ∃ cs : Array Value, cs = ⟨ls⟩ := ⟨_, rfl⟩
  have hm : (⟨ms⟩ : Array Value) = cs.extract n (n + c) := by subst hcs; subst hc; simp [List.extract_eq_take_drop]
  rw [← hcs] at hx
  rw [hm]
  unfold fieldPart at hf
  split at hf
  · rename_i fs hu
    split at hf
    · rename_i f hfi
      split at hf
      · rename_i ti d hti hd
        simp only [Option.some.injEq, Prod.mk.injEq] at hf
        obtain ⟨rfl, rfl, h3⟩ := hf
        have hag : (isAgg f.type).run P w = .ok true w := by
          unfold isAgg
          cases d <;> simp_all [run_underlying hd]
        simp [execOp, hρ x _ hx, Instr.field, run_underlying hu, hfi, asAgg, part, hag, sizeOf, typeInfo, hti]
      · cases hf
    · cases hf
  · cases hf
theorem op_makeFunc {f : Fn} {as bs : Array Operand} {vs us : Array Value} (ha : as.toList.map (see e) = vs.toList.map some) (hb : bs.toList.map (see e) = us.toList.map some) : OpV P e ⟨dst, .makeFunc f as bs, t, pos, aft, g⟩ (.func f vs us) := fun ρ hρ w => by
  have key : ∀ (xs : List Operand) (ys : List Value), xs.map (see e) = ys.map some → xs.map ρ = ys := by
    intro xs
    induction xs with
    | nil => intro ys h; cases ys <;> simp_all
    | cons x xs ih =>
      intro ys h
      cases ys with
      | nil => simp at h
      | cons y ys =>
        simp only [List.map_cons, List.cons.injEq] at h
        simp only [List.map_cons, hρ x y h.1, ih ys h.2]
  have h1 : as.map ρ = vs := by apply Array.ext'; simpa using key _ _ ha
  have h2 : bs.map ρ = us := by apply Array.ext'; simpa using key _ _ hb
  simp [execOp, Instr.makeFunc, h1, h2]
theorem op_makeInterface {xt : TypeId} (hc : P.concrete xt = true) (hx : see e x = some v) : OpV P e ⟨dst, .makeInterface xt x, t, pos, aft, g⟩ (.iface xt v) := fun ρ hρ w => by
  simp [execOp, hρ x _ hx, run_makeInterface w xt v hc]
theorem op_build {t' : TypeId} {ps : Array (Nat × Operand)} {vs : List (Nat × Value)} {cs : Array Value} (hp : ps.toList.map (fun q => (q.1, see e q.2)) = vs.map fun q => (q.1, some q.2)) (hb : P.built t' vs = some cs) : OpV P e ⟨dst, .build t' ps, t, pos, aft, g⟩ (.agg cs) := fun ρ hρ w => by
  have key : ∀ (xs : List (Nat × Operand)) (ys : List (Nat × Value)), xs.map (fun q => (q.1, see e q.2)) = ys.map (fun q => (q.1, some q.2)) → xs.map (fun q => (q.1, ρ q.2)) = ys := by
    intro xs
    induction xs with
    | nil => intro ys h; cases ys <;> simp_all
    | cons x xs ih =>
      intro ys h
      cases ys with
      | nil => simp at h
      | cons y ys =>
        simp only [List.map_cons, List.cons.injEq, Prod.mk.injEq] at h
        simp only [List.map_cons, hρ x.2 y.2 h.1.2, ih ys h.2, h.1.1]
  have h1 : (ps.map fun (i, x) => (i, ρ x)).toList = vs := by simpa using key _ _ hp
  have h2 := run_build (P := P) w t' (ps.map fun (i, x) => (i, ρ x)) cs (by rw [h1]; exact hb)
  simp [execOp, h2]
end
end
end Go.Sb
attribute [irreducible] Go.Sb.bop
