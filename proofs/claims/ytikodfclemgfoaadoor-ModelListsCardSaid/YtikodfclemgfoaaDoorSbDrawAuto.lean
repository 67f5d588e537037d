/- Quiet operations in regions of a drawn order: one word a step. Printed by gendraw.py. -/
import Derived.Test.YtikodfclemgfoaaDoorSbDraw
import Derived.Test.YtikodfclemgfoaaDoorSbMap
set_option linter.all false
set_option linter.unusedVariables false
namespace Go.Sb
open Go.RowKit
attribute [local irreducible] Go.wpList Go.Code.wp Go.Exit.then Go.Exit.inBlock Go.Sb.Ends Go.Sb.VC Go.Sb.VA
section
variable {P : Program} {N : Nat} {ops : Array Oper} {Q : Exit → Act → World → Prop} {e : Slots} {l m nn : List Asrt} {w0 : World} {done : List Nat} {pend pend' : List (Nat × Value)} {rest : List (Nat × Oper)}
variable {d : Nat} {op : Op} {t : TypeId} {pos : String} {aft : Array Edge} {g : Option (Nat × Bool)} {v : Value}
theorem OpV.unguard (ho : OpV P e ⟨some d, op, t, pos, aft, none⟩ v) : OpV P e ⟨some d, op, t, pos, aft, g⟩ v := ho
theorem q_pure (ho : OpV P e ⟨some d, op, t, pos, aft, g⟩ v := by
    first
      | (apply gA; first | exact op_move rfl | exact op_assign rfl | exact op_fieldAddr rfl KFieldOff.out | exact op_nilCheck rfl | exact op_extract rfl rfl | exact op_field rfl KField1.out rfl | exact op_field_agg rfl KFieldA.out (by first | (simp only [List.drop, List.take]; done) | (simp only [List.drop, List.take]; rfl)) | exact op_not rfl | exact op_inv rfl rfl | exact op_convert_int KSome.out KUnd.out rfl | exact op_pick_t rfl rfl | exact op_pick_f rfl rfl | exact op_pick rfl rfl rfl | exact op_makeInterface KConc.out rfl | exact op_makeFuncL rfl rfl)
      | (apply gO; first | exact op_lt rfl rfl | exact op_le rfl rfl | exact op_gt rfl rfl | exact op_ge rfl rfl | exact op_str_lt rfl rfl)
      | (apply gE; first | exact op_eq rfl rfl | exact op_ne rfl rfl | exact op_str_eq rfl rfl | exact op_str_ne rfl rfl | exact op_ptr_eq_nil KUnd.out rfl rfl | exact op_ptr_ne_nil KUnd.out rfl rfl | exact op_map_eq_nil KUnd.out rfl rfl | exact op_map_ne_nil KUnd.out rfl rfl | exact op_slice_eq_nil KSlice.und rfl rfl | exact op_slice_ne_nil KSlice.und rfl rfl | exact op_bool_eq KUnd.out rfl rfl | exact op_bool_ne KUnd.out rfl rfl)
      | (apply gR; first | exact op_add rfl rfl ⟨by omega, by omega⟩ | exact op_sub rfl rfl ⟨by omega, by omega⟩ | exact op_mul rfl rfl ⟨by omega, by omega⟩ | exact op_quo rfl rfl ⟨by omega, by omega⟩ (by omega) | exact op_rem rfl rfl (by omega) (by omega) | exact op_and rfl rfl | exact op_or rfl rfl | exact op_xor rfl rfl | exact op_shl rfl rfl (by decide) | exact op_shr rfl rfl (by decide) | exact op_addw rfl rfl | exact op_subw rfl rfl | exact op_mulw rfl rfl)
      | (apply gL; first | exact op_len rfl ⟨_, KSlice.und⟩ rfl | exact op_str_len rfl KUnd.out rfl | exact op_slice_none KSlice.out rfl rfl rfl | exact op_str_at KUnd.out rfl rfl ⟨by omega, by omega⟩ | exact op_str_slice_lo KUnd.out rfl rfl ⟨by omega, by omega⟩ | exact op_str_slice_hi KUnd.out rfl rfl ⟨by omega, by omega⟩ | exact op_str_slice KUnd.out rfl rfl rfl ⟨by omega, by omega, by omega⟩)) (hw : Wants ops e ⟨some d, op, t, pos, aft, g⟩ true := by first | exact wants_none | exact wants_some rfl rfl rfl rfl) (hd : Nat.blt d N = true := by rfl) (hlk : look e d = some v := by rfl) : QtO P N ops e l ⟨some d, op, t, pos, aft, g⟩ v := qt_pure ho hw hd hlk
theorem q_skip (hw : Wants ops e ⟨some d, op, t, pos, aft, g⟩ false := by exact wants_some rfl rfl rfl rfl) (hd : Nat.blt d N = true := by rfl) (hl : look e d = some undef := by rfl) : QtO P N ops e l ⟨some d, op, t, pos, aft, g⟩ undef := qt_skip hw hd hl
section
variable {x y : Operand} {b off n k j c E T : Nat} {cs ls ls' : List Value} {v : Value} {α : Type} {R : Rel α} {a : Option Addr} {xs : List α} {q : α} {i : Int} {kk : IntKind}
theorem q_load [KOne P T] (hx : see e x = some (.pointer (some ⟨b, off, none⟩)) := by rfl)
    (ht : Take (blk b E ls) l m := by repeat (first | exact Take.here | apply Take.there)) (hv : ls[off]? = some v := by rfl) (hb : Takes l (blk b E ls :: m) nn := by repeat (first | exact Takes.nil | (apply Takes.cons; repeat (first | exact Take.keep | exact Take.here | exact take_rd_nil | exact take_own_nil | apply Take.there)))) (hw : Wants ops e ⟨some d, .load T x, t, pos, aft, g⟩ true := by first | exact wants_none | exact wants_some rfl rfl rfl rfl) (hd : Nat.blt d N = true := by rfl) (hlk : look e d = some (v) := by rfl) : QtO P N ops e l ⟨some d, .load T x, t, pos, aft, g⟩ v :=
  qt_read (op_load KOne.out hx hv) (.cons ht .nil) hb hw hd hlk
theorem q_load_ro [KOne P T] (hx : see e x = some (.pointer (some ⟨b, off, none⟩)) := by rfl)
    (ht : Take (rblk b E ls) l m := by repeat (first | exact Take.keep | apply Take.there)) (hv : ls[off]? = some v := by rfl) (hb : Takes l (m) nn := by repeat (first | exact Takes.nil | (apply Takes.cons; repeat (first | exact Take.keep | exact Take.here | exact take_rd_nil | exact take_own_nil | apply Take.there)))) (hw : Wants ops e ⟨some d, .load T x, t, pos, aft, g⟩ true := by first | exact wants_none | exact wants_some rfl rfl rfl rfl) (hd : Nat.blt d N = true := by rfl) (hlk : look e d = some (v) := by rfl) : QtO P N ops e l ⟨some d, .load T x, t, pos, aft, g⟩ v :=
  qt_read (op_load_ro KOne.out hx hv) (.cons ht .nil) hb hw hd hlk
theorem q_load_rdc [KOne P T] (hx : see e x = some (.pointer (some ⟨b, off + k, none⟩)) := by rfl)
    (ht : Take (rdc b off ls) l m := by repeat (first | exact Take.keep | apply Take.there)) (hv : ls[k]? = some v := by rfl) (hb : Takes l (m) nn := by repeat (first | exact Takes.nil | (apply Takes.cons; repeat (first | exact Take.keep | exact Take.here | exact take_rd_nil | exact take_own_nil | apply Take.there)))) (hw : Wants ops e ⟨some d, .load T x, t, pos, aft, g⟩ true := by first | exact wants_none | exact wants_some rfl rfl rfl rfl) (hd : Nat.blt d N = true := by rfl) (hlk : look e d = some (v) := by rfl) : QtO P N ops e l ⟨some d, .load T x, t, pos, aft, g⟩ v :=
  qt_read (op_load_rdc KOne.out hx hv) (.cons ht .nil) hb hw hd hlk
theorem q_load_rdc0 [KOne P T] (hx : see e x = some (.pointer (some ⟨b, off, none⟩)) := by rfl)
    (ht : Take (rdc b off ls) l m := by repeat (first | exact Take.keep | apply Take.there)) (hv : ls[0]? = some v := by rfl) (hb : Takes l (m) nn := by repeat (first | exact Takes.nil | (apply Takes.cons; repeat (first | exact Take.keep | exact Take.here | exact take_rd_nil | exact take_own_nil | apply Take.there)))) (hw : Wants ops e ⟨some d, .load T x, t, pos, aft, g⟩ true := by first | exact wants_none | exact wants_some rfl rfl rfl rfl) (hd : Nat.blt d N = true := by rfl) (hlk : look e d = some (v) := by rfl) : QtO P N ops e l ⟨some d, .load T x, t, pos, aft, g⟩ v :=
  qt_read (op_load_rdc0 KOne.out hx hv) (.cons ht .nil) hb hw hd hlk
theorem q_loada_rdc [KAgg P T n] (hx : see e x = some (.pointer (some ⟨b, off + k, none⟩)) := by rfl)
    (ht : Take (rdc b off ls) l m := by repeat (first | exact Take.keep | apply Take.there)) (hk : Nat.ble (k + n) ls.length = true := by rfl) (hn : 0 < n := by decide) (hv : cut ls k n = cs := by first | (simp only [cut, List.drop, List.take]; done) | (simp only [cut, List.drop, List.take]; rfl) | rfl) (hb : Takes l (m) nn := by repeat (first | exact Takes.nil | (apply Takes.cons; repeat (first | exact Take.keep | exact Take.here | exact take_rd_nil | exact take_own_nil | apply Take.there)))) (hw : Wants ops e ⟨some d, .load T x, t, pos, aft, g⟩ true := by first | exact wants_none | exact wants_some rfl rfl rfl rfl) (hd : Nat.blt d N = true := by rfl) (hlk : look e d = some (.agg ⟨cs⟩) := by rfl) : QtO P N ops e l ⟨some d, .load T x, t, pos, aft, g⟩ (.agg ⟨cs⟩) :=
  qt_read (op_load_rdc_agg KAgg.out hx hk hn hv) (.cons ht .nil) hb hw hd hlk
theorem q_loada_rdc0 [KAgg P T n] (hx : see e x = some (.pointer (some ⟨b, off, none⟩)) := by rfl)
    (ht : Take (rdc b off ls) l m := by repeat (first | exact Take.keep | apply Take.there)) (hk : Nat.ble n ls.length = true := by rfl) (hn : 0 < n := by decide) (hv : cut ls 0 n = cs := by first | (simp only [cut, List.drop, List.take]; done) | (simp only [cut, List.drop, List.take]; rfl) | rfl) (hb : Takes l (m) nn := by repeat (first | exact Takes.nil | (apply Takes.cons; repeat (first | exact Take.keep | exact Take.here | exact take_rd_nil | exact take_own_nil | apply Take.there)))) (hw : Wants ops e ⟨some d, .load T x, t, pos, aft, g⟩ true := by first | exact wants_none | exact wants_some rfl rfl rfl rfl) (hd : Nat.blt d N = true := by rfl) (hlk : look e d = some (.agg ⟨cs⟩) := by rfl) : QtO P N ops e l ⟨some d, .load T x, t, pos, aft, g⟩ (.agg ⟨cs⟩) :=
  qt_read (op_load_rdc_agg0 KAgg.out hx hk hn hv) (.cons ht .nil) hb hw hd hlk
theorem q_loada [KAgg P T n] (hx : see e x = some (.pointer (some ⟨b, off, none⟩)) := by rfl)
    (ht : Take (blk b E ls) l m := by repeat (first | exact Take.here | apply Take.there)) (hl : Nat.ble (off + n) ls.length = true := by rfl) (hv : cut ls off n = cs := by first | (simp only [cut, List.drop, List.take]; done) | (simp only [cut, List.drop, List.take]; rfl) | rfl) (hb : Takes l (blk b E ls :: m) nn := by repeat (first | exact Takes.nil | (apply Takes.cons; repeat (first | exact Take.keep | exact Take.here | exact take_rd_nil | exact take_own_nil | apply Take.there)))) (hw : Wants ops e ⟨some d, .load T x, t, pos, aft, g⟩ true := by first | exact wants_none | exact wants_some rfl rfl rfl rfl) (hd : Nat.blt d N = true := by rfl) (hlk : look e d = some (.agg ⟨cs⟩) := by rfl) : QtO P N ops e l ⟨some d, .load T x, t, pos, aft, g⟩ (.agg ⟨cs⟩) :=
  qt_read (op_load_agg KAgg.out hx hl hv) (.cons ht .nil) hb hw hd hlk
theorem q_loada_ro [KAgg P T n] (hx : see e x = some (.pointer (some ⟨b, off, none⟩)) := by rfl)
    (ht : Take (rblk b E ls) l m := by repeat (first | exact Take.keep | apply Take.there)) (hl : Nat.ble (off + n) ls.length = true := by rfl) (hv : cut ls off n = cs := by first | (simp only [cut, List.drop, List.take]; done) | (simp only [cut, List.drop, List.take]; rfl) | rfl) (hb : Takes l (m) nn := by repeat (first | exact Takes.nil | (apply Takes.cons; repeat (first | exact Take.keep | exact Take.here | exact take_rd_nil | exact take_own_nil | apply Take.there)))) (hw : Wants ops e ⟨some d, .load T x, t, pos, aft, g⟩ true := by first | exact wants_none | exact wants_some rfl rfl rfl rfl) (hd : Nat.blt d N = true := by rfl) (hlk : look e d = some (.agg ⟨cs⟩) := by rfl) : QtO P N ops e l ⟨some d, .load T x, t, pos, aft, g⟩ (.agg ⟨cs⟩) :=
  qt_read (op_load_agg_ro KAgg.out hx hl hv) (.cons ht .nil) hb hw hd hlk
theorem q_index_rd [KSlice P T E n] (hx : see e x = some (.slice a xs.length c) := by rfl) (hy : see e y = some (.int kk i) := by rfl)
    (ht : Take (rd R a c xs) l m := by repeat (first | exact Take.keep | apply Take.there)) (hi : 0 ≤ i ∧ i < xs.length := by omega) (hb : Takes l (m) nn := by repeat (first | exact Takes.nil | (apply Takes.cons; repeat (first | exact Take.keep | exact Take.here | exact take_rd_nil | exact take_own_nil | apply Take.there)))) (hw : Wants ops e ⟨some d, .indexAddr T x y, t, pos, aft, g⟩ true := by first | exact wants_none | exact wants_some rfl rfl rfl rfl) (hd : Nat.blt d N = true := by rfl) (hlk : look e d = some (.pointer (some ⟨bk a, of a + i.toNat * n, none⟩)) := by rfl) : QtO P N ops e l ⟨some d, .indexAddr T x y, t, pos, aft, g⟩ (.pointer (some ⟨bk a, of a + i.toNat * n, none⟩)) :=
  qt_read (op_index_rd KSlice.out hx hy hi) (.cons ht .nil) hb hw hd hlk
theorem q_index_own [KSlice P T E n] (hx : see e x = some (.slice a xs.length c) := by rfl) (hy : see e y = some (.int kk i) := by rfl)
    (ht : Take (own R E a c xs) l m := by repeat (first | exact Take.here | apply Take.there)) (hi : 0 ≤ i ∧ i < xs.length := by omega) (hb : Takes l (own R E a c xs :: m) nn := by repeat (first | exact Takes.nil | (apply Takes.cons; repeat (first | exact Take.keep | exact Take.here | exact take_rd_nil | exact take_own_nil | apply Take.there)))) (hw : Wants ops e ⟨some d, .indexAddr T x y, t, pos, aft, g⟩ true := by first | exact wants_none | exact wants_some rfl rfl rfl rfl) (hd : Nat.blt d N = true := by rfl) (hlk : look e d = some (.pointer (some ⟨bk a, of a + i.toNat * n, none⟩)) := by rfl) : QtO P N ops e l ⟨some d, .indexAddr T x y, t, pos, aft, g⟩ (.pointer (some ⟨bk a, of a + i.toNat * n, none⟩)) :=
  qt_read (op_index_own KSlice.out hx hy hi) (.cons ht .nil) hb hw hd hlk
theorem q_load_rd [KOne P T] (hx : see e x = some (.pointer (some ⟨bk a, of a + j * n + k, none⟩)) := by rfl) (ht : Take (rd R a c xs) l m := by repeat (first | exact Take.keep | apply Take.there))
    (hn : R.n = n := by rfl) (hq : xs[j]? = some q := by assumption) (hv : ∀ f c, R.rel f q c → c[k]? = some v := by intro f c h; cases h; rfl) (hb : Takes l (m) nn := by repeat (first | exact Takes.nil | (apply Takes.cons; repeat (first | exact Take.keep | exact Take.here | exact take_rd_nil | exact take_own_nil | apply Take.there)))) (hw : Wants ops e ⟨some d, .load T x, t, pos, aft, g⟩ true := by first | exact wants_none | exact wants_some rfl rfl rfl rfl) (hd : Nat.blt d N = true := by rfl) (hlk : look e d = some (v) := by rfl) : QtO P N ops e l ⟨some d, .load T x, t, pos, aft, g⟩ v :=
  qt_read (op_load_rd KOne.out (by rw [hn]; exact hx) hq hv) (.cons ht .nil) hb hw hd hlk
theorem q_load_rd0 [KOne P T] (hx : see e x = some (.pointer (some ⟨bk a, of a + j * n, none⟩)) := by rfl) (ht : Take (rd R a c xs) l m := by repeat (first | exact Take.keep | apply Take.there))
    (hn : R.n = n := by rfl) (hq : xs[j]? = some q := by assumption) (hv : ∀ f c, R.rel f q c → c[0]? = some v := by intro f c h; cases h; rfl) (hb : Takes l (m) nn := by repeat (first | exact Takes.nil | (apply Takes.cons; repeat (first | exact Take.keep | exact Take.here | exact take_rd_nil | exact take_own_nil | apply Take.there)))) (hw : Wants ops e ⟨some d, .load T x, t, pos, aft, g⟩ true := by first | exact wants_none | exact wants_some rfl rfl rfl rfl) (hd : Nat.blt d N = true := by rfl) (hlk : look e d = some (v) := by rfl) : QtO P N ops e l ⟨some d, .load T x, t, pos, aft, g⟩ v :=
  qt_read (op_load_rd0 KOne.out (by rw [hn]; exact hx) hq hv) (.cons ht .nil) hb hw hd hlk
theorem q_load_own [KOne P T] (hx : see e x = some (.pointer (some ⟨bk a, of a + j * n + k, none⟩)) := by rfl) (ht : Take (own R E a c xs) l m := by repeat (first | exact Take.here | apply Take.there))
    (hn : R.n = n := by rfl) (hq : xs[j]? = some q := by assumption) (hv : ∀ f c, R.rel f q c → c[k]? = some v := by intro f c h; cases h; rfl) (hb : Takes l (own R E a c xs :: m) nn := by repeat (first | exact Takes.nil | (apply Takes.cons; repeat (first | exact Take.keep | exact Take.here | exact take_rd_nil | exact take_own_nil | apply Take.there)))) (hw : Wants ops e ⟨some d, .load T x, t, pos, aft, g⟩ true := by first | exact wants_none | exact wants_some rfl rfl rfl rfl) (hd : Nat.blt d N = true := by rfl) (hlk : look e d = some (v) := by rfl) : QtO P N ops e l ⟨some d, .load T x, t, pos, aft, g⟩ v :=
  qt_read (op_load_own KOne.out (by rw [hn]; exact hx) hq hv) (.cons ht .nil) hb hw hd hlk
theorem q_load_own0 [KOne P T] (hx : see e x = some (.pointer (some ⟨bk a, of a + j * n, none⟩)) := by rfl) (ht : Take (own R E a c xs) l m := by repeat (first | exact Take.here | apply Take.there))
    (hn : R.n = n := by rfl) (hq : xs[j]? = some q := by assumption) (hv : ∀ f c, R.rel f q c → c[0]? = some v := by intro f c h; cases h; rfl) (hb : Takes l (own R E a c xs :: m) nn := by repeat (first | exact Takes.nil | (apply Takes.cons; repeat (first | exact Take.keep | exact Take.here | exact take_rd_nil | exact take_own_nil | apply Take.there)))) (hw : Wants ops e ⟨some d, .load T x, t, pos, aft, g⟩ true := by first | exact wants_none | exact wants_some rfl rfl rfl rfl) (hd : Nat.blt d N = true := by rfl) (hlk : look e d = some (v) := by rfl) : QtO P N ops e l ⟨some d, .load T x, t, pos, aft, g⟩ v :=
  qt_read (op_load_own0 KOne.out (by rw [hn]; exact hx) hq hv) (.cons ht .nil) hb hw hd hlk
theorem q_loada_rd [KAgg P T n] (hx : see e x = some (.pointer (some ⟨bk a, of a + j * n, none⟩)) := by rfl) (ht : Take (rd R a c xs) l m := by repeat (first | exact Take.keep | apply Take.there))
    (hn : R.n = n := by rfl) (hq : xs[j]? = some q := by assumption) (hv : ∀ f c, R.rel f q c → cut c 0 n = cs := by intro f c h; cases h; first | (simp only [cut, List.drop, List.take]; done) | (simp only [cut, List.drop, List.take]; rfl) | rfl) (hb : Takes l (m) nn := by repeat (first | exact Takes.nil | (apply Takes.cons; repeat (first | exact Take.keep | exact Take.here | exact take_rd_nil | exact take_own_nil | apply Take.there)))) (hw : Wants ops e ⟨some d, .load T x, t, pos, aft, g⟩ true := by first | exact wants_none | exact wants_some rfl rfl rfl rfl) (hd : Nat.blt d N = true := by rfl) (hlk : look e d = some (.agg ⟨cs⟩) := by rfl) : QtO P N ops e l ⟨some d, .load T x, t, pos, aft, g⟩ (.agg ⟨cs⟩) :=
  qt_read (op_load_rd_agg0 KAgg.out (by rw [hn]; exact hx) hq (by omega) hv) (.cons ht .nil) hb hw hd hlk
theorem q_loada_rdk {n' : Nat} [KAgg P T n'] (hx : see e x = some (.pointer (some ⟨bk a, of a + j * n + k, none⟩)) := by rfl) (ht : Take (rd R a c xs) l m := by repeat (first | exact Take.keep | apply Take.there))
    (hn : R.n = n := by rfl) (hq : xs[j]? = some q := by assumption) (hk : Nat.ble (k + n') n = true := by rfl) (hv : ∀ f c, R.rel f q c → cut c k n' = cs := by intro f c h; cases h; first | (simp only [cut, List.drop, List.take]; done) | (simp only [cut, List.drop, List.take]; rfl) | rfl) (hb : Takes l (m) nn := by repeat (first | exact Takes.nil | (apply Takes.cons; repeat (first | exact Take.keep | exact Take.here | exact take_rd_nil | exact take_own_nil | apply Take.there)))) (hw : Wants ops e ⟨some d, .load T x, t, pos, aft, g⟩ true := by first | exact wants_none | exact wants_some rfl rfl rfl rfl) (hd : Nat.blt d N = true := by rfl) (hlk : look e d = some (.agg ⟨cs⟩) := by rfl) : QtO P N ops e l ⟨some d, .load T x, t, pos, aft, g⟩ (.agg ⟨cs⟩) :=
  qt_read (op_load_rd_agg KAgg.out (by rw [hn]; exact hx) hq (by rw [hn]; exact Nat.le_of_ble_eq_true hk) hv) (.cons ht .nil) hb hw hd hlk
theorem q_lookup {enc : α → Value} {D : List (Txt × α)} {K : TypeId} {zv : Value} {kt : Txt} {b : Nat} [KUnd P T (.map K E)] [KUnd P K .string] [KZero P E zv] (hx : see e x = some (.map (some b)) := by rfl) (hy : see e y = some (str kt) := by rfl)
    (ht : Take (mp (MRel.ofEnc enc) b D) l m := by repeat (first | exact Take.here | apply Take.there)) (hf : findA D kt = some q := by assumption) (hb : Takes l (mp (MRel.ofEnc enc) b D :: m) nn := by repeat (first | exact Takes.nil | (apply Takes.cons; repeat (first | exact Take.keep | exact Take.here | exact take_rd_nil | exact take_own_nil | apply Take.there))))
    (hw : Wants ops e ⟨some d, .lookup T x y false, t, pos, aft, g⟩ true := by first | exact wants_none | exact wants_some rfl rfl rfl rfl) (hd : Nat.blt d N = true := by rfl) (hlk : look e d = some v := by rfl) (hvv : enc q = v := by rfl) : QtO P N ops e l ⟨some d, .lookup T x y false, t, pos, aft, g⟩ v := by
  subst hvv
  exact qt_read (op_lookup_some (KUnd.out) KUnd.out KZero.out hf hx hy) (.cons ht .nil) hb hw hd hlk
theorem q_build {z cs0 : List Value} {pl : List (Nat × Nat)} [KStruct P T z pl] {ps : Array (Nat × Operand)} {vs : List (Nat × Value)} (hp : seePs e ps.toList = some vs := by rfl) (hbb : fillL pl z vs = some cs0 := by rfl)
    (hn : cs0 = cs := by first | (simp only [cellsL, lay, List.take, List.drop, List.append, List.length, List.cons_append, List.nil_append]; rfl) | rfl) (hw : Wants ops e ⟨some d, .build T ps, t, pos, aft, g⟩ true := by first | exact wants_none | exact wants_some rfl rfl rfl rfl) (hd : Nat.blt d N = true := by rfl) (hlk : look e d = some (.agg ⟨cs⟩) := by rfl) : QtO P N ops e l ⟨some d, .build T ps, t, pos, aft, g⟩ (.agg ⟨cs⟩) :=
  qt_pure (op_build (seePs_eq hp) (hn ▸ built_of KStruct.out hbb)) hw hd hlk
end
/-- A quiet step. -/
theorem dq {i : Nat} {o : Oper} (h : VA P N ops Q done ((i, v) :: pend) rest ((d, v) :: e) l w0) (hod : o.dst = some d := by rfl) (hq : QtO P N ops ((d, v) :: e) l o v := by
    first | exact q_skip | exact q_pure | exact q_load | exact q_load_ro | exact q_load_rdc | exact q_load_rdc0 | exact q_loada_rdc | exact q_loada_rdc0 | exact q_loada | exact q_loada_ro | exact q_index_rd | exact q_index_own | exact q_load_rd | exact q_load_rd0 | exact q_load_own | exact q_load_own0 | exact q_loada_rd | exact q_loada_rdk | exact q_lookup | exact q_build) (hn : look e d = none := by rfl) (hwt : readOk (dstsOf (numbered 0 ops.toList)) i d (numbered 0 ops.toList) = true := by rfl) : VA P N ops Q done pend ((i, o) :: rest) e l w0 := va_quiet hq h hod hn (waits_of hwt)
/-- A bool parts. -/
theorem va_b {i : Nat} {b : Bool} (ht : b = true → VA P N ops Q done ((i, .bool true) :: pend) rest ((d, .bool true) :: e) l w0) (hf : b = false → VA P N ops Q done ((i, .bool false) :: pend) rest ((d, .bool false) :: e) l w0) :
    VA P N ops Q done ((i, .bool b) :: pend) rest ((d, .bool b) :: e) l w0 := by
  cases b
  · exact hf rfl
  · exact ht rfl
theorem va_dec {i : Nat} {p : Prop} [Decidable p] (ht : p → VA P N ops Q done ((i, .bool true) :: pend) rest ((d, .bool true) :: e) l w0) (hf : ¬ p → VA P N ops Q done ((i, .bool false) :: pend) rest ((d, .bool false) :: e) l w0) :
    VA P N ops Q done ((i, .bool (decide p)) :: pend) rest ((d, .bool (decide p)) :: e) l w0 := va_b (fun h => ht (of_decide_eq_true h)) (fun h => hf (of_decide_eq_false h))
inductive Left (anc : List Nat) : List (Nat × Value) → List (Nat × Value) → Prop
  | nil : Left anc [] []
  | drop {p : Nat × Value} {l l' : List (Nat × Value)} : memN p.1 anc = true → Left anc l l' → Left anc (p :: l) l'
  | keep {p : Nat × Value} {l l' : List (Nat × Value)} : memN p.1 anc = false → Left anc l l' → Left anc (p :: l) (p :: l')
theorem Left.eq {anc : List Nat} {l l' : List (Nat × Value)} (h : Left anc l l') : leftP anc l = l' := by
  induction h with
  | nil => rfl
  | drop h _ ih => simp [leftP, h, ih]
  | keep h _ ih => simp [leftP, h, ih]
inductive AllQ (P : Program) (N : Nat) (ops : Array Oper) (e : Slots) (l : List Asrt) : List (Nat × Value) → Prop
  | nil : AllQ P N ops e l []
  | cons {i : Nat} {v : Value} {o : Oper} {ps : List (Nat × Value)} (hi : ops[i]? = some o) (h : QtO P N ops e l o v) : AllQ P N ops e l ps → AllQ P N ops e l ((i, v) :: ps)
theorem AllQ.all {ps : List (Nat × Value)} (h : AllQ P N ops e l ps) : ∀ p ∈ ps, Qt P N ops e l p := by
  induction h with
  | nil => intro p hp; cases hp
  | cons hi h _ ih =>
    intro p hp
    rcases List.mem_cons.1 hp with rfl | hp
    · exact ⟨_, hi, h⟩
    · exact ih p hp
theorem noned {o : Oper} (h : (match o.dst with | some d => (look e d).isNone | none => true) = true) : ∀ d, o.dst = some d → look e d = none := fun d hd => by
  rw [hd] at h
  simpa using h
/-- Something is done; all others wait for it. -/
theorem de {i : Nat} {A : List Asrt} {α : Type} {val : α → Value} {pu : α → Prop} {res : α → List Asrt}
    (ho : OpE P e ⟨some d, op, t, pos, aft, g⟩ A val pu res)
    (h : ∀ x, pu x → AllQ P N ops ((d, val x) :: e) (res x ++ m) pend' ∧ VA P N ops Q (i :: (inP (anc2 ops.toList (aftersL aft.toList)) pend ++ done)) pend' rest ((d, val x) :: e) (res x ++ m) w0)
    (hl : Left (anc2 ops.toList (aftersL aft.toList)) pend pend' := by repeat (first | exact Left.nil | (apply Left.drop; rfl) | (apply Left.keep; rfl)))
    (ht : Takes A l m := by repeat (first | exact Takes.nil | (apply Takes.cons; repeat (first | exact Take.keep | exact Take.here | exact take_rd_nil | exact take_own_nil | apply Take.there))))
    (hb : blocked done pend rest = true := by rfl)
    (hg : Wants ops e ⟨some d, op, t, pos, aft, g⟩ true := by first | exact wants_none | exact wants_some rfl rfl rfl rfl) (hd : Nat.blt d N = true := by rfl) :
    VA P N ops Q done pend ((i, ⟨some d, op, t, pos, aft, g⟩) :: rest) e l w0 := by
  have he := hl.eq
  exact va_eff ho ht hg hd hb (fun x hx p hp => (h x hx).1.all p (he ▸ hp)) (fun x hx => he.symm ▸ (h x hx).2)
theorem de0 {i : Nat} {A : List Asrt} {α : Type} {val : α → Value} {pu : α → Prop} {res : α → List Asrt}
    (ho : OpE P e ⟨none, op, t, pos, aft, g⟩ A val pu res)
    (h : ∀ x, pu x → AllQ P N ops e (res x ++ m) pend' ∧ VA P N ops Q (i :: (inP (anc2 ops.toList (aftersL aft.toList)) pend ++ done)) pend' rest e (res x ++ m) w0)
    (hl : Left (anc2 ops.toList (aftersL aft.toList)) pend pend' := by repeat (first | exact Left.nil | (apply Left.drop; rfl) | (apply Left.keep; rfl)))
    (ht : Takes A l m := by repeat (first | exact Takes.nil | (apply Takes.cons; repeat (first | exact Take.keep | exact Take.here | exact take_rd_nil | exact take_own_nil | apply Take.there))))
    (hb : blocked done pend rest = true := by rfl)
    (hg : Wants ops e ⟨none, op, t, pos, aft, g⟩ true := by first | exact wants_none | exact wants_some rfl rfl rfl rfl) :
    VA P N ops Q done pend ((i, ⟨none, op, t, pos, aft, g⟩) :: rest) e l w0 := by
  have he := hl.eq
  exact va_eff ho ht hg rfl hb (fun x hx p hp => (h x hx).1.all p (he ▸ hp)) (fun x hx => he.symm ▸ (h x hx).2)
theorem without_not {j : Nat} {l : List (Nat × Oper)} (h : ∀ q ∈ l, q.1 ≠ j) : without j l = l := by
  induction l with
  | nil => rfl
  | cons q l ih =>
    have h1 := h q List.mem_cons_self
    have h2 : Nat.beq q.1 j = false := by
      cases hb : Nat.beq q.1 j with
      | true => exact absurd (Nat.eq_of_beq_eq_true hb) h1
      | false => rfl
    simp only [without, h2, ih (fun q hq => h q (List.mem_cons_of_mem _ hq))]
/-- Two that do something, in whichever order; both have a value. -/
theorem de2 {i j d' : Nat} {op' : Op} {t' : TypeId} {pos' : String} {aft' : Array Edge} {g' : Option (Nat × Bool)} {A B m' : List Asrt} {α β : Type} {val : α → Value} {pu : α → Prop} {res : α → List Asrt} {val' : β → Value} {pu' : β → Prop} {res' : β → List Asrt} {pend'' : List (Nat × Value)}
    (ho : OpE P e ⟨some d, op, t, pos, aft, g⟩ A val pu res)
    (ho' : OpE P e ⟨some d', op', t', pos', aft', g'⟩ B val' pu' res')
    (h : ∀ x, pu x → AllQ P N ops ((d, val x) :: e) (res x ++ m) pend' ∧ VA P N ops Q (i :: (inP (anc2 ops.toList (aftersL aft.toList)) pend ++ done)) pend' ((j, ⟨some d', op', t', pos', aft', g'⟩) :: rest) ((d, val x) :: e) (res x ++ m) w0)
    (h' : ∀ x, pu' x → AllQ P N ops ((d', val' x) :: e) (res' x ++ m') pend'' ∧ VA P N ops Q (j :: (inP (anc2 ops.toList (aftersL aft'.toList)) pend ++ done)) pend'' ((i, ⟨some d, op, t, pos, aft, g⟩) :: rest) ((d', val' x) :: e) (res' x ++ m') w0)
    (hl : Left (anc2 ops.toList (aftersL aft.toList)) pend pend' := by repeat (first | exact Left.nil | (apply Left.drop; rfl) | (apply Left.keep; rfl)))
    (hl' : Left (anc2 ops.toList (aftersL aft'.toList)) pend pend'' := by repeat (first | exact Left.nil | (apply Left.drop; rfl) | (apply Left.keep; rfl)))
    (ht : Takes A l m := by repeat (first | exact Takes.nil | (apply Takes.cons; repeat (first | exact Take.keep | exact Take.here | exact take_rd_nil | exact take_own_nil | apply Take.there))))
    (ht' : Takes B l m' := by repeat (first | exact Takes.nil | (apply Takes.cons; repeat (first | exact Take.keep | exact Take.here | exact take_rd_nil | exact take_own_nil | apply Take.there))))
    (hb : blocked done pend rest = true := by rfl)
    (hg : Wants ops e ⟨some d, op, t, pos, aft, g⟩ true := by first | exact wants_none | exact wants_some rfl rfl rfl rfl) (hd : Nat.blt d N = true := by rfl)
    (hg' : Wants ops e ⟨some d', op', t', pos', aft', g'⟩ true := by first | exact wants_none | exact wants_some rfl rfl rfl rfl) (hd' : Nat.blt d' N = true := by rfl) :
    VA P N ops Q done pend ((i, ⟨some d, op, t, pos, aft, g⟩) :: (j, ⟨some d', op', t', pos', aft', g'⟩) :: rest) e l w0 := by
  refine va_stat fun hst => ?_
  have hj : ∀ q ∈ rest, q.1 ≠ j := fun q hq => ((List.pairwise_cons.1 (List.pairwise_cons.1 hst.nd).2).1 q hq).symm
  have hw : without j ((j, ⟨some d', op', t', pos', aft', g'⟩) :: rest) = rest := by
    have h2 : Nat.beq j j = true := Nat.beq_refl j
    simp only [without, h2, without_not hj]
  have he := hl.eq
  have he' := hl'.eq
  exact va_two List.mem_cons_self (by rw [hw]; exact hb) ho ht hg hd (fun x hx p hp => (h x hx).1.all p (he ▸ hp)) (fun x hx => he.symm ▸ (h x hx).2)
    ho' ht' hg' hd' (fun x hx p hp => (h' x hx).1.all p (he' ▸ hp)) (fun x hx => by rw [hw]; exact he'.symm ▸ (h' x hx).2)
section
variable {x y : Operand} {b off n k j c E T : Nat} {cs ls ls' : List Value} {v : Value}
theorem d_store {i : Nat} [KSize P T 1]
    (h : AllQ P N ops e (blk b E ls' :: m) pend' ∧ VA P N ops Q (i :: (inP (anc2 ops.toList (aftersL aft.toList)) pend ++ done)) pend' rest e (blk b E ls' :: m) w0)
    (hx : see e x = some (.pointer (some ⟨b, off, none⟩)) := by rfl) (hy : see e y = some v := by rfl)
    (ht : Take (blk b E ls) l m := by repeat (first | exact Take.here | apply Take.there)) (hc : v.cells = #[v] := by rfl) (hv : v.oneCell' = true := by rfl) (hl : Nat.blt off ls.length = true := by rfl) (hl' : setl ls off v = ls' := by first | (simp only [setl]; done) | (simp only [setl]; rfl) | rfl)
    (hL : Left (anc2 ops.toList (aftersL aft.toList)) pend pend' := by repeat (first | exact Left.nil | (apply Left.drop; rfl) | (apply Left.keep; rfl)))
    (hb : blocked done pend rest = true := by rfl)
    (hg : Wants ops e ⟨none, .store T x y, t, pos, aft, g⟩ true := by first | exact wants_none | exact wants_some rfl rfl rfl rfl) :
    VA P N ops Q done pend ((i, ⟨none, .store T x y, t, pos, aft, g⟩) :: rest) e l w0 := de0 (op_store KSize.out hx hy hc hv hl hl') (fun _ _ => h) hL (.cons ht .nil) hb hg
theorem d_storea {i : Nat} [KSize P T n]
    (h : AllQ P N ops e (blk b E ls' :: m) pend' ∧ VA P N ops Q (i :: (inP (anc2 ops.toList (aftersL aft.toList)) pend ++ done)) pend' rest e (blk b E ls' :: m) w0)
    (hx : see e x = some (.pointer (some ⟨b, off, none⟩)) := by rfl) (hy : see e y = some (.agg ⟨cs⟩) := by rfl)
    (ht : Take (blk b E ls) l m := by repeat (first | exact Take.here | apply Take.there)) (hn : cs.length = n := by rfl) (hv : cs.all (·.oneCell') = true := by rfl) (hl : Nat.ble (off + cs.length) ls.length = true := by rfl) (hl' : lay ls off cs = ls' := by first | (simp only [lay, List.take, List.drop, List.append, List.length, List.nil_append, List.cons_append, List.append_nil]; done) | (simp only [lay, List.take, List.drop, List.append, List.length, List.nil_append, List.cons_append, List.append_nil]; rfl) | rfl)
    (hL : Left (anc2 ops.toList (aftersL aft.toList)) pend pend' := by repeat (first | exact Left.nil | (apply Left.drop; rfl) | (apply Left.keep; rfl)))
    (hb : blocked done pend rest = true := by rfl)
    (hg : Wants ops e ⟨none, .store T x y, t, pos, aft, g⟩ true := by first | exact wants_none | exact wants_some rfl rfl rfl rfl) :
    VA P N ops Q done pend ((i, ⟨none, .store T x y, t, pos, aft, g⟩) :: rest) e l w0 := de0 (op_store_agg (by rw [hn]; exact KSize.out) hx hy hv hl hl') (fun _ _ => h) hL (.cons ht .nil) hb hg
end
/-- A variable is set anew. -/
theorem dv {i : Nat} 
    (h : AllQ P N ops ((d, v) :: e) l pend' ∧ VA P N ops Q (i :: (inP (anc2 ops.toList (aftersL aft.toList)) pend ++ done)) pend' rest ((d, v) :: e) l w0)
    (ho : OpV P e ⟨some d, op, t, pos, aft, g⟩ v := by first | exact op_assign rfl | exact op_move rfl)
    (hl : Left (anc2 ops.toList (aftersL aft.toList)) pend pend' := by repeat (first | exact Left.nil | (apply Left.drop; rfl) | (apply Left.keep; rfl)))
    (hb : blocked done pend rest = true := by rfl)
    (hg : Wants ops e ⟨some d, op, t, pos, aft, g⟩ true := by first | exact wants_none | exact wants_some rfl rfl rfl rfl) (hd : Nat.blt d N = true := by rfl) :
    VA P N ops Q done pend ((i, ⟨some d, op, t, pos, aft, g⟩) :: rest) e l w0 := de ho.d (fun _ _ => h) hl .nil hb hg hd
/-- All that is pending stays quiet. -/
theorem aq {ps : List (Nat × Value)} (h : AllQ P N ops e l ps := by
    repeat (first | exact AllQ.nil | (apply AllQ.cons; rfl; first | exact q_skip | exact q_pure | exact q_load | exact q_load_ro | exact q_load_rdc | exact q_load_rdc0 | exact q_loada_rdc | exact q_loada_rdc0 | exact q_loada | exact q_loada_ro | exact q_index_rd | exact q_index_own | exact q_load_rd | exact q_load_rd0 | exact q_load_own | exact q_load_own0 | exact q_loada_rd | exact q_loada_rdk | exact q_lookup | exact q_build))) : AllQ P N ops e l ps := h
end
end Go.Sb
