/- Contracts 34: Head of what is listed; entries held against each other. -/
import Derived.Test.YtikodfclemgfoaaDoorSbK33
set_option linter.all false
set_option linter.unusedVariables false
namespace Go.Proofs.YtikodfclemgfoaaDoor
open Go.Sb
set_option maxHeartbeats 2000000
set_option maxRecDepth 10000
theorem idxOf_at {p : Kept → Bool} : ∀ {l : List Kept} {i : Nat} {s : Int} {x : Kept}, l[i]? = some x → p x = true → (∀ j y, j < i → l[j]? = some y → p y = false) → idxOf p l s = s + i
  | [], _, _, _, h, _, _ => by simp at h
  | q :: l, 0, s, x, h, hp, _ => by
    simp only [List.getElem?_cons_zero, Option.some.injEq] at h
    subst h
    unfold idxOf; rw [if_pos hp]; simp
  | q :: l, i + 1, s, x, h, hp, hn => by
    have h0 := hn 0 q (by omega) rfl
    unfold idxOf
    rw [if_neg (by rw [h0]; decide), idxOf_at (l := l) (i := i) (s := s + 1) (by simpa using h) hp fun j y hj hy => hn (j + 1) y (by omega) (by simpa using hy)]
    omega
theorem findR_id {σ : St} {n : Nat} (h : Inv σ n) {k : Txt} {i : Nat} {x : Kept} (hx : (σ.v tABC k)[i]? = some x) : findR σ tABC k x.v.id 0 true true = (x, (i : Int), 0) := by
  have hm := List.mem_of_getElem? hx
  have h1 := (h.rises k).2 x hm
  have hl : 0 < (σ.v tABC k).length := List.length_pos_of_mem hm
  have hv : verErr σ tABC k = 0 := by unfold verErr; rw [h.has, if_pos rfl, if_neg (by omega)]
  have hi : idxOf (fun q => decide (q.v.id = x.v.id)) (σ.v tABC k) 0 = (i : Int) := by
    rw [idxOf_at hx (by simp) fun j y hj hy => ?_]
    · simp
    · have := rises_at (h.rises k) hy hx hj
      rw [decide_eq_false_iff_not]; omega
  unfold findR
  rw [if_neg (by decide), if_neg (by omega), if_neg (by rw [hv]; decide)]
  simp only [ne_eq, show ¬ x.v.id = 0 by omega, not_false_eq_true, if_true]
  rw [hi, if_neg (by omega)]
  simp [List.getD_eq_getElem?_getD, hx]
theorem findR_0 {σ : St} {n : Nat} (h : Inv σ n) {k : Txt} {x : Kept} (hx : (σ.v tABC k)[(σ.v tABC k).length - 1]? = some x) : (findR σ tABC k 0 0 true true).1 = x ∧ (findR σ tABC k 0 0 true true).2.2 = 0 := by
  have hm := List.mem_of_getElem? hx
  have hl : 0 < (σ.v tABC k).length := List.length_pos_of_mem hm
  have hv : verErr σ tABC k = 0 := by unfold verErr; rw [h.has, if_pos rfl, if_neg (by omega)]
  unfold findR
  rw [if_neg (by decide), if_neg (by omega), if_neg (by rw [hv]; decide)]
  simp only [ne_eq, not_true_eq_false, if_false]
  rw [if_neg (by omega)]
  simp [List.getD_eq_getElem?_getD, show ((((σ.v tABC k).length : Int) - 1).toNat) = (σ.v tABC k).length - 1 by omega, hx]
/-- Head of a version that is listed, and of its key. -/
theorem head_listed {σ : St} {n : Nat} (h : Inv σ n) {I : Keys} (hI : Lies σ tABC I) {e : Entr} (he : e ∈ entsI I) :
    ((getR σ tABC e.key e.v.id true true).1 = e.v ∧ (getR σ tABC e.key e.v.id true true).2.2 = if e.v.mark then 16 else 0) ∧
    ∃ w : Ver, (getR σ tABC e.key 0 true true).1 = w ∧ (getR σ tABC e.key 0 true true).2.2 = (if w.mark then 16 else 0) ∧ decide (w = e.v) = e.latest := by
  obtain ⟨i, hi, hee⟩ := (mem_entsI hI).1 he
  obtain ⟨x, hx⟩ := get_some hi
  obtain ⟨z, hz⟩ := get_some (xs := σ.v tABC e.key) (k := (σ.v tABC e.key).length - 1) (by omega)
  have e1 : e.v = x.v := by
    have := congrArg Entr.v hee
    rw [this]; simp [entAt, List.getD_eq_getElem?_getD, hx]
  have e2 : e.latest = decide (i + 1 = (σ.v tABC e.key).length) := congrArg Entr.latest hee
  obtain ⟨z1, z2⟩ := findR_0 h hz
  constructor
  · unfold getR
    rw [e1, findR_id h hx]
    simp only [ne_eq, not_true_eq_false, if_false]
    cases x.v.mark <;> simp
  · refine ⟨z.v, ?_, ?_, ?_⟩
    · unfold getR
      simp only [z1, z2, ne_eq, not_true_eq_false, if_false]
      cases z.v.mark <;> simp
    · unfold getR
      simp only [z1, z2, ne_eq, not_true_eq_false, if_false]
      cases z.v.mark <;> simp
    · rw [e2, e1, decide_eq_decide]
      constructor
      · intro hw
        have := rises_inj (h.rises e.key) hz hx (by rw [hw])
        omega
      · intro hw
        have : i = (σ.v tABC e.key).length - 1 := by omega
        subst this
        rw [hx] at hz
        rw [Option.some.inj hz]
theorem ent_eq (x y : Entr) : decide (x = y) = (decide (x.key = y.key) && (decide (x.v = y.v) && (x.latest == y.latest))) := by
  cases x; cases y; rw [Bool.eq_iff_iff]; simp
theorem run_eqEnt (d : Nat) (x y : Entr) (w : World) : (Op.equalIn (d + 3) 49 (.agg ⟨x.cells⟩) (.agg ⟨y.cells⟩)).run Tryd.prog w = .ok (decide (x = y)) w := by
  have hS : Tryd.prog.underlying 49 = some (.struct (Tryd.prog.fieldsOf 49)) := by kernel_rfl
  have hp : Tryd.prog.stoodInHeld 49 = false := by kernel_rfl
  have hk : fkeys Tryd.prog 49 = [(false, 9, 0), (false, 36, 1), (false, 4, 5)] := by kernel_rfl
  rw [run_equalIn_agg w (d + 2) _ _ _ hS hp, eqFl_eq]
  have hk' : ((Tryd.prog.fieldsOf 49).toList.map fun f => (f.name == "_", f.type, f.offset)) = _ := hk
  rw [hk', ent_eq]
  have us : Tryd.prog.underlying 9 = some .string := KUnd.out
  have ub : Tryd.prog.underlying 4 = some .bool := KUnd.out
  have os : one1 Tryd.prog 9 := KOne.out
  have ob : one1 Tryd.prog 4 := KOne.out
  have ov : agg1 Tryd.prog 36 4 := KAgg.out
  have hstr : (Op.equalIn (d + 2) 9 (str x.key) (str y.key)).run Tryd.prog w = .ok (decide (x.key = y.key)) w := by
    rw [Op.equalIn]
    simp only [us]
    show Result.ok ((⟨⟨x.key⟩⟩ : ByteArray) == ⟨⟨y.key⟩⟩) w = _
    congr 1
    rw [Bool.eq_iff_iff, MapKept.bytes_beq, decide_eq_true_iff]
    exact ⟨fun h => by injection h with h; injection h, fun h => by rw [h]⟩
  simp only [eqFl, if_true, Sem.run_bind, Result.andThen_ok, run_part_one os (xs := ⟨x.cells⟩) (o := 0) (v := str x.key) rfl, run_part_one os (xs := ⟨y.cells⟩) (o := 0) (v := str y.key) rfl, hstr]
  cases (decide (x.key = y.key))
  · simp
  simp only [Bool.not_true, Bool.false_eq_true, if_false, Sem.run_bind, Result.andThen_ok, run_part_agg ov]
  have h1 : (Op.equalIn (d + 2) 36 (.agg ((⟨x.cells⟩ : Array Value).extract 1 (1 + 4))) (.agg ((⟨y.cells⟩ : Array Value).extract 1 (1 + 4)))).run Tryd.prog w = .ok (decide (x.v = y.v)) w := run_eqVer d x.v y.v w
  rw [h1]
  simp only [Result.andThen_ok]
  cases (decide (x.v = y.v))
  · simp
  simp only [Bool.not_true, Bool.false_eq_true, if_false, Sem.run_bind, Result.andThen_ok, run_part_one ob (xs := ⟨x.cells⟩) (o := 5) (v := .bool x.latest) rfl, run_part_one ob (xs := ⟨y.cells⟩) (o := 5) (v := .bool y.latest) rfl, run_equalIn_bool' _ (d + 1) _ _ _ ub]
  cases (x.latest == y.latest) <;> simp
theorem op_neEnt {e : Slots} {x y : Operand} {dst : Option Tmp} {t yt : TypeId} {pos : String} {aft : Array Edge} {g : Option (Nat × Bool)} {u v : Entr} (hx : see e x = some (.agg ⟨u.cells⟩)) (hy : see e y = some (.agg ⟨v.cells⟩)) :
    OpV Tryd.prog e ⟨dst, .binOp .neq 49 x y yt, t, pos, aft, g⟩ (.bool (!decide (u = v))) :=
  op_ne_of (by kernel_rfl) (fun w => by rw [run_neq_struct, show (10000 : Nat) = 9997 + 3 from rfl, run_eqEnt]; rfl) hx hy
end Go.Proofs.YtikodfclemgfoaaDoor
