/- Contracts 7: what is the same. -/
import Derived.Test.YtikodfclemgfoaaDoorSbK6
set_option linter.all false
set_option linter.unusedVariables false
set_option linter.unusedSimpArgs false
namespace Go.Proofs.YtikodfclemgfoaaDoor
open Go.Sb
attribute [local irreducible] Go.wpList Go.Code.wp Go.Exit.then Go.Exit.inBlock Go.Sb.Ends Go.Sb.VC Go.Sb.VA Go.Sb.OpV Go.Sb.OpE Go.Sb.OpD
set_option maxHeartbeats 1000000
/-- What an equality of structs needs of a field. -/
def fkeys (P : Go.Program) (t : Nat) : List (Bool × Nat × Nat) := (P.fieldsOf t).toList.map fun f => (f.name == "_", f.type, f.offset)
def eqFl (d : Nat) (xs ys : Array Value) : List (Bool × Nat × Nat) → Sem Bool
  | [] => Pure.pure true
  | f :: fs => if f.1 = false then do
      let a ← part f.2.1 xs f.2.2
      let b ← part f.2.1 ys f.2.2
      let r ← Op.equalIn d f.2.1 a b
      if (!r) = true then Pure.pure false else eqFl d xs ys fs
    else eqFl d xs ys fs
theorem eqFl_eq (d : Nat) (xs ys : Array Value) : ∀ fs : List Field, Op.eqFields d xs ys fs = eqFl d xs ys (fs.map fun f => (f.name == "_", f.type, f.offset))
  | [] => rfl
  | f :: fs => by
    simp only [Op.eqFields, eqFl, List.map_cons, eqFl_eq d xs ys fs]
    by_cases h : f.name = "_" <;> simp [h]
theorem run_part_one {P : Go.Program} {t : Nat} (h : one1 P t) {xs : Array Value} {o : Nat} {v : Value} (hv : xs[o]? = some v) (w : World) : (part t xs o).run P w = .ok v w := by
  simp [part, h.isAgg, hv]
theorem run_part_agg {P : Go.Program} {t n : Nat} (h : agg1 P t n) {xs : Array Value} {o : Nat} (w : World) : (part t xs o).run P w = .ok (.agg (xs.extract o (o + n))) w := by
  simp [part, h.isAgg]
theorem ver_eq (x y : Ver) : decide (x = y) = (x.id == y.id && (x.mark == y.mark && (x.size == y.size && x.sum == y.sum))) := by
  cases x; cases y; rw [Bool.eq_iff_iff]; simp
theorem run_eqVer (d : Nat) (x y : Ver) (w : World) : (Op.equalIn (d + 2) 36 (.agg ⟨x.cells⟩) (.agg ⟨y.cells⟩)).run Tryd.prog w = .ok (decide (x = y)) w := by
  have hS : Tryd.prog.underlying 36 = some (.struct (Tryd.prog.fieldsOf 36)) := by kernel_rfl
  have hp : Tryd.prog.stoodInHeld 36 = false := by kernel_rfl
  have hk : fkeys Tryd.prog 36 = [(false, 3, 0), (false, 4, 1), (false, 3, 2), (false, 34, 3)] := by kernel_rfl
  rw [run_equalIn_agg w (d + 1) _ _ _ hS hp, eqFl_eq]
  have hk' : ((Tryd.prog.fieldsOf 36).toList.map fun f => (f.name == "_", f.type, f.offset)) = _ := hk
  rw [hk', ver_eq]
  have ui : Tryd.prog.underlying 3 = some (.int .i64) := KUnd.out
  have ub : Tryd.prog.underlying 4 = some .bool := KUnd.out
  have uu : Tryd.prog.underlying 34 = some (.int .u32) := KUnd.out
  have oi : one1 Tryd.prog 3 := KOne.out
  have ob : one1 Tryd.prog 4 := KOne.out
  have ou : one1 Tryd.prog 34 := KOne.out
  simp only [eqFl, if_true, Sem.run_bind, Result.andThen_ok, run_part_one oi (xs := ⟨x.cells⟩) (o := 0) (v := .int .i64 x.id) rfl, run_part_one oi (xs := ⟨y.cells⟩) (o := 0) (v := .int .i64 y.id) rfl, run_equalIn_int _ d _ _ _ _ _ ui]
  cases (x.id == y.id)
  · simp
  simp only [Bool.not_true, Bool.false_eq_true, if_false, Sem.run_bind, Result.andThen_ok, run_part_one ob (xs := ⟨x.cells⟩) (o := 1) (v := .bool x.mark) rfl, run_part_one ob (xs := ⟨y.cells⟩) (o := 1) (v := .bool y.mark) rfl, run_equalIn_bool' _ d _ _ _ ub]
  cases (x.mark == y.mark)
  · simp
  simp only [Bool.not_true, Bool.false_eq_true, if_false, Sem.run_bind, Result.andThen_ok, run_part_one oi (xs := ⟨x.cells⟩) (o := 2) (v := .int .i64 x.size) rfl, run_part_one oi (xs := ⟨y.cells⟩) (o := 2) (v := .int .i64 y.size) rfl, run_equalIn_int _ d _ _ _ _ _ ui]
  cases (x.size == y.size)
  · simp
  simp only [Bool.not_true, Bool.false_eq_true, if_false, Sem.run_bind, Result.andThen_ok, run_part_one ou (xs := ⟨x.cells⟩) (o := 3) (v := .int .u32 x.sum) rfl, run_part_one ou (xs := ⟨y.cells⟩) (o := 3) (v := .int .u32 y.sum) rfl, run_equalIn_int _ d _ _ _ _ _ uu]
  cases (x.sum == y.sum) <;> simp
theorem op_eqVer {e : Slots} {x y : Operand} {dst : Option Tmp} {t yt : TypeId} {pos : String} {aft : Array Edge} {g : Option (Nat × Bool)} {u v : Ver} (hx : see e x = some (.agg ⟨u.cells⟩)) (hy : see e y = some (.agg ⟨v.cells⟩)) :
    OpV Tryd.prog e ⟨dst, .binOp .eql 36 x y yt, t, pos, aft, g⟩ (.bool (decide (u = v))) :=
  op_eq_of (by kernel_rfl) (fun w => by rw [run_eql_struct, show (10000 : Nat) = 9998 + 2 from rfl, run_eqVer]; rfl) hx hy
theorem op_neVer {e : Slots} {x y : Operand} {dst : Option Tmp} {t yt : TypeId} {pos : String} {aft : Array Edge} {g : Option (Nat × Bool)} {u v : Ver} (hx : see e x = some (.agg ⟨u.cells⟩)) (hy : see e y = some (.agg ⟨v.cells⟩)) :
    OpV Tryd.prog e ⟨dst, .binOp .neq 36 x y yt, t, pos, aft, g⟩ (.bool (!decide (u = v))) :=
  op_ne_of (by kernel_rfl) (fun w => by rw [run_neq_struct, show (10000 : Nat) = 9998 + 2 from rfl, run_eqVer]; rfl) hx hy
theorem kept_eq (q r : Kept) : decide (q = r) = (decide (q.v = r.v) && decide (q.data = r.data)) := by
  cases q; cases r; rw [Bool.eq_iff_iff]; simp
theorem c_Same1 (q r : Kept) (cs ds : List Value) : Does Tryd.prog 30 [.agg ⟨cs⟩, .agg ⟨ds⟩].toArray [hold rKept q cs, hold rKept r ds] (fun _ : Unit => .bool (decide (q = r))) (fun _ => True) (fun _ => []) := by
  refine spec_of Tryd.func30 rfl Tryd.ntmps30 rfl fun R w0 => ?_
  refine vc_kept fun a c hc => ?_
  subst hc
  refine vc_take (A := hold rKept r ds) (by repeat (first | exact Take.here | apply Take.there)) ?_
  refine vc_kept fun a' c' hc => ?_
  subst hc
  repeat refine sy ?_
  refine s_box (fun bq => ?_)
  refine s_box (fun br => ?_)
  repeat refine sy ?_
  refine sv ?_ (op_eqVer (u := q.v) (v := r.v) rfl rfl)
  repeat refine sy ?_
  refine vd (fun h => ?_) (fun h => ?_)
  · repeat refine sy ?_
    refine cd (c_BEqual a c q.data a' c' r.data) ?_
    repeat refine sy ?_
    exact en () trivial (hv := by rw [kept_eq]; simp [tup, h])
  · repeat refine sy ?_
    exact en () trivial (hv := by rw [kept_eq]; simp [tup, h])
end Go.Proofs.YtikodfclemgfoaaDoor
