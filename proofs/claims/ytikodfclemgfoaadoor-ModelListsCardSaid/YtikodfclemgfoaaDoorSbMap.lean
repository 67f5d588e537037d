/- Maps whose keys are strings: what they hold, and the operations on them; ranges over maps. -/
import Derived.Test.YtikodfclemgfoaaDoorSbAuto
import Derived.Maps.RangeRun
set_option linter.all false
set_option linter.unusedVariables false
set_option linter.unusedSimpArgs false
namespace Go.Sb
open Go.RowKit
open Go.ChangeMaps (setBlock)
attribute [local irreducible] Go.wpList Go.Code.wp Go.Exit.then Go.Exit.inBlock Go.Sb.Ends Go.Sb.VC

/-! ### 1. Rows of pairs -/
abbrev Txt := List UInt8
section
variable {α : Type}
def findA : List (Txt × α) → Txt → Option α
  | [], _ => none
  | (n, x) :: l, k => if n = k then some x else findA l k
def setA : List (Txt × α) → Txt → α → List (Txt × α)
  | [], k, x => [(k, x)]
  | (n, y) :: l, k, x => if n = k then (n, x) :: l else (n, y) :: setA l k x
def delA : List (Txt × α) → Txt → List (Txt × α)
  | [], _ => []
  | (n, y) :: l, k => if n = k then l else (n, y) :: delA l k
theorem findA_none {D : List (Txt × α)} {k : Txt} : findA D k = none ↔ k ∉ D.map (·.1) := by
  induction D with
  | nil => simp [findA]
  | cons p D ih =>
    obtain ⟨n, x⟩ := p
    simp only [findA, List.map_cons, List.mem_cons, not_or]
    by_cases h : n = k
    · simp [h]
    · rw [if_neg h, ih]; exact ⟨fun h' => ⟨Ne.symm h, h'⟩, fun h' => h'.2⟩
theorem findA_mem {D : List (Txt × α)} {k : Txt} {x : α} (h : findA D k = some x) : (k, x) ∈ D := by
  induction D with
  | nil => cases h
  | cons p D ih =>
    obtain ⟨n, y⟩ := p
    simp only [findA] at h
    split at h
    · rename_i e; subst e; cases h; exact List.mem_cons_self
    · exact List.mem_cons_of_mem _ (ih h)
theorem findA_of_mem {D : List (Txt × α)} {k : Txt} {x : α} (hn : (D.map (·.1)).Nodup) (h : (k, x) ∈ D) : findA D k = some x := by
  induction D with
  | nil => cases h
  | cons p D ih =>
    obtain ⟨n, y⟩ := p
    simp only [List.map_cons, List.nodup_cons] at hn
    simp only [findA]
    rcases List.mem_cons.1 h with h | h
    · cases h; simp
    · have : n ≠ k := fun e => hn.1 (List.mem_map.2 ⟨_, h, e.symm⟩)
      simp [this, ih hn.2 h]
theorem findA_setA {D : List (Txt × α)} {k j : Txt} {x : α} : findA (setA D k x) j = if k = j then some x else findA D j := by
  induction D with
  | nil => simp [setA, findA]
  | cons p D ih =>
    obtain ⟨n, y⟩ := p
    simp only [setA]
    by_cases h : n = k
    · subst h; by_cases hj : n = j <;> simp [findA, hj]
    · simp only [if_neg h, findA]
      by_cases hj : n = j
      · subst hj; simp [Ne.symm h]
      · simp [hj, ih]
theorem findA_delA {D : List (Txt × α)} {k j : Txt} (hn : (D.map (·.1)).Nodup) : findA (delA D k) j = if k = j then none else findA D j := by
  induction D with
  | nil => simp [delA, findA]
  | cons p D ih =>
    obtain ⟨n, y⟩ := p
    simp only [List.map_cons, List.nodup_cons] at hn
    simp only [delA]
    by_cases h : n = k
    · subst h
      by_cases hj : n = j
      · subst hj; simp [findA_none, hn.1]
      · simp [findA, hj]
    · simp only [if_neg h, findA]
      by_cases hj : n = j
      · subst hj; simp [Ne.symm h]
      · simp [hj, ih hn.2]
theorem setA_keys {D : List (Txt × α)} {k : Txt} {x : α} : (setA D k x).map (·.1) = if k ∈ D.map (·.1) then D.map (·.1) else D.map (·.1) ++ [k] := by
  induction D with
  | nil => simp [setA]
  | cons p D ih =>
    obtain ⟨n, y⟩ := p
    simp only [setA]
    by_cases h : n = k
    · subst h; simp
    · simp only [if_neg h, List.map_cons, ih, List.mem_cons, Ne.symm h, false_or]
      split <;> simp
theorem setA_nodup {D : List (Txt × α)} {k : Txt} {x : α} (hn : (D.map (·.1)).Nodup) : ((setA D k x).map (·.1)).Nodup := by
  rw [setA_keys]
  split
  · exact hn
  · rename_i h
    rw [List.nodup_append]
    refine ⟨hn, by simp, fun a ha b hb => ?_⟩
    simp at hb; subst hb
    rintro rfl; exact h ha
theorem delA_sub {D : List (Txt × α)} {k : Txt} {p : Txt × α} (h : p ∈ delA D k) : p ∈ D := by
  induction D with
  | nil => exact h
  | cons q D ih =>
    obtain ⟨n, y⟩ := q
    simp only [delA] at h
    split at h
    · exact List.mem_cons_of_mem _ h
    · rcases List.mem_cons.1 h with rfl | h
      · exact List.mem_cons_self
      · exact List.mem_cons_of_mem _ (ih h)
theorem delA_sublist {D : List (Txt × α)} {k : Txt} : (delA D k).Sublist D := by
  induction D with
  | nil => exact List.Sublist.refl _
  | cons q D ih =>
    obtain ⟨n, y⟩ := q
    simp only [delA]
    split
    · exact List.sublist_cons_self _ _
    · exact ih.cons_cons _
theorem delA_nodup {D : List (Txt × α)} {k : Txt} (hn : (D.map (·.1)).Nodup) : ((delA D k).map (·.1)).Nodup := hn.sublist (delA_sublist.map _)
theorem setA_length {D : List (Txt × α)} {k : Txt} {x : α} : (setA D k x).length = if (findA D k).isSome then D.length else D.length + 1 := by
  induction D with
  | nil => rfl
  | cons q D ih =>
    obtain ⟨n, y⟩ := q
    by_cases h : n = k
    · simp [setA, findA, h]
    · simp only [setA, findA, if_neg h, List.length_cons, ih]
      split <;> rfl
theorem delA_none {D : List (Txt × α)} {k : Txt} (h : k ∉ D.map (·.1)) : delA D k = D := by
  induction D with
  | nil => rfl
  | cons q D ih =>
    obtain ⟨n, y⟩ := q
    simp only [List.map_cons, List.mem_cons, not_or] at h
    simp [delA, Ne.symm h.1, ih h.2]
end

/-! ### 2. The chunk -/
structure MRel (α : Type) where
  rel : PHeap → α → Value → Prop
  mono : ∀ {f f' : PHeap} {x : α} {v : Value}, f.le f' → rel f x v → rel f' x v
/-- An element is held so. -/
def hv {α : Type} (V : MRel α) (x : α) (v : Value) : Asrt := rof (fun f => V.rel f x v) (fun y h => V.mono y h)
instance {α : Type} (V : MRel α) (x : α) (v : Value) : Pers (hv V x v) := ⟨fun _ _ h => h⟩
/-- Elements that are told by their value. -/
def MRel.ofEnc {α : Type} (enc : α → Value) : MRel α := ⟨fun _ x v => v = enc x, fun _ h => h⟩
inductive Mats {α : Type} (V : MRel α) (f : PHeap) : List (Txt × α) → List MapEntry → Prop
  | nil : Mats V f [] []
  | cons {k : Txt} {x : α} {v : Value} {born : Nat} {D : List (Txt × α)} {es : List MapEntry} : V.rel f x v → Mats V f D es → Mats V f ((k, x) :: D) (⟨str k, v, born⟩ :: es)
structure Mat {α : Type} (V : MRel α) (f : PHeap) (D : List (Txt × α)) (es : Array MapEntry) (clock : Nat) : Prop where
  m : Mats V f D es.toList
  nd : (D.map (·.1)).Nodup
  bn : (es.toList.map (·.born)).Nodup
  lt : ∀ e ∈ es.toList, e.born < clock
section
variable {α : Type} {V : MRel α} {f f' : PHeap} {D D' : List (Txt × α)} {es : List MapEntry} {ea : Array MapEntry} {k : Txt} {x : α} {v : Value} {clock : Nat}
theorem Mats.mono (hf : f.le f') (h : Mats V f D es) : Mats V f' D es := by
  induction h with
  | nil => exact .nil
  | cons h _ ih => exact .cons (V.mono hf h) ih
theorem Mat.mono (hf : f.le f') (h : Mat V f D ea clock) : Mat V f' D ea clock := ⟨h.m.mono hf, h.nd, h.bn, h.lt⟩
theorem Mats.len (h : Mats V f D es) : D.length = es.length := by
  induction h with
  | nil => rfl
  | cons _ _ ih => simp [ih]
theorem str_beq (a b : Txt) : ((⟨⟨a⟩⟩ : ByteArray) == ⟨⟨b⟩⟩) = decide (a = b) := by
  show ((⟨a⟩ : Array UInt8) == ⟨b⟩) = decide (a = b)
  rw [Bool.eq_iff_iff, beq_iff_eq, decide_eq_true_eq]
  constructor
  · intro h; injection h
  · rintro rfl; rfl
theorem findNow_mats (h : Mats V f D es) : ∀ i, (findA D k = none → Instr.findNow .string (str k) es i = some none) ∧
    (∀ x, findA D k = some x → ∃ j e, Instr.findNow .string (str k) es i = some (some (i + j, e.val)) ∧ es[j]? = some e ∧ V.rel f x e.val ∧ e.key = str k ∧
      (∀ v' , V.rel f x v' → True) ∧ (∀ y v', V.rel f y v' → Mats V f (setA D k y) (es.modify j fun e => { e with key := str k, val := v' })) ∧ Mats V f (delA D k) (es.eraseIdx j)) := by
  induction h with
  | nil => exact fun i => ⟨fun _ => rfl, fun x hx => by cases hx⟩
  | @cons n y v born D es hr hm ih =>
    intro i
    have hb : ((⟨⟨k⟩⟩ : ByteArray) == ⟨⟨n⟩⟩) = decide (k = n) := str_beq k n
    by_cases hn : n = k
    · subst hn
      refine ⟨fun h => by simp [findA] at h, fun x hx => ?_⟩
      simp only [findA, if_true, Option.some.injEq] at hx
      subst hx
      refine ⟨0, ⟨str n, v, born⟩, ?_, rfl, hr, rfl, fun _ _ => trivial, fun y v' h' => ?_, ?_⟩
      · simp only [Instr.findNow, Instr.sameNow, hb, decide_true, Nat.add_zero]
      · simp only [setA, if_true, List.modify_zero_cons]
        exact .cons h' hm
      · simp only [delA, if_true, List.eraseIdx_zero, List.tail_cons]
        exact hm
    · have hb' : ((⟨⟨k⟩⟩ : ByteArray) == ⟨⟨n⟩⟩) = false := by rw [hb]; simpa using Ne.symm hn
      have step : Instr.findNow .string (str k) (⟨str n, v, born⟩ :: es) i = Instr.findNow .string (str k) es (i + 1) := by
        simp only [Instr.findNow, Instr.sameNow, str, hb']
      refine ⟨fun h => ?_, fun x hx => ?_⟩
      · simp only [findA, if_neg hn] at h
        rw [step]; exact (ih (i + 1)).1 h
      · simp only [findA, if_neg hn] at hx
        obtain ⟨j, e, h1, h2, h3, h4, h5, h6, h7⟩ := (ih (i + 1)).2 x hx
        refine ⟨j + 1, e, ?_, by simpa using h2, h3, h4, h5, fun y v' h' => ?_, ?_⟩
        · rw [step, h1]; congr 3; omega
        · simp only [setA, if_neg hn, List.modify_succ_cons]
          exact .cons hr (h6 y v' h')
        · simp only [delA, if_neg hn, List.eraseIdx_cons_succ]
          exact .cons hr h7
end
/-- Block b is a map that holds D, and whoever holds this may write it. -/
def mp {α : Type} (V : MRel α) (b : Nat) (D : List (Txt × α)) : Asrt :=
  ⟨fun h f => ∃ es clock, h b = some (.map es clock) ∧ Mat V f D es clock, fun x y ⟨es, c, a, m⟩ => ⟨es, c, x _ _ a, m.mono y⟩⟩
section
variable {α : Type} {V : MRel α} {D D' : List (Txt × α)} {b : Nat} {l m : List Asrt} {w : World}
theorem Sat.rof_and {p q : PHeap → Prop} {hp hq} (h : Sat (Sb.rof p hp :: Sb.rof q hq :: l) w) : Sat (Sb.rof (fun f => p f ∧ q f) (fun y h => ⟨hp y h.1, hq y h.2⟩) :: l) w := by
  refine h.ent ?_
  rintro a f ⟨h1, h2, x, y, d, r, h3, h4, x', y', d', r', s⟩
  exact ⟨PHeap.emp, h4, PHeap.emp_le _, PHeap.le_trans y' y, PHeap.emp_disj _, ⟨r, r'⟩, s⟩
theorem Sat.rof_map {p q : PHeap → Prop} {hp hq} (h : Sat (Sb.rof p hp :: l) w) (hpq : ∀ f, p f → q f) : Sat (Sb.rof q hq :: l) w :=
  h.ent (star_mono (fun _ f h => hpq f h) (Ent.refl _))
theorem Sat.mp_open (h : Sat (mp V b D :: l) w) : ∃ es clock, Sat (Sb.pts b (.map es clock) :: Sb.rof (fun f => Mat V f D es clock) (fun y h => h.mono y) :: l) w := by
  obtain ⟨a, f, d, x, y, h1, h2, p, q, r, ⟨es, clock, s, t⟩, u⟩ := h
  exact ⟨es, clock, a, f, d, x, y, h1, h2, p, q, r, s, PHeap.emp, h2, PHeap.emp_le _, PHeap.le_refl _, PHeap.emp_disj _, t, u⟩
theorem Sat.mp_close {es : Array MapEntry} {clock : Nat} {p : PHeap → Prop} {hp} (h : Sat (Sb.pts b (.map es clock) :: Sb.rof p hp :: l) w) (hm : ∀ f, p f → Mat V f D es clock) : Sat (mp V b D :: l) w := by
  obtain ⟨a, f, d, x, y, h1, h2, p', q, r, s, h3, h4, p'', q'', r'', t, u⟩ := h
  exact ⟨a, f, d, x, y, h1, h4, p', PHeap.le_trans q'' q, PHeap.disj_le r (PHeap.le_refl _) q'', ⟨es, clock, s, hm f t⟩, u⟩
theorem Sat.mp_len (h : Sat (mp V b D :: l) w) : ∃ es clock, w.heap[b]? = some (.map es clock) ∧ ∃ f, Mat V f D es clock := by
  obtain ⟨es, clock, h⟩ := h.mp_open
  exact ⟨es, clock, h.pts, _, h.tail.rof⟩
end

/-! ### 3. Operations -/
section
variable {P : Program} {e : Slots} {x y z : Operand} {u v : Value} {dst : Option Tmp} {t : TypeId} {pos : String} {aft : Array Edge} {g : Option (Nat × Bool)} {b n : Nat} {T E K : TypeId} {α : Type} {V : MRel α} {D : List (Txt × α)} {k : Txt}
theorem op_makeMap {r : Option Operand} (hr : r = none) : OpE P e ⟨dst, .makeMap T r, t, pos, aft, g⟩ [] (fun b : Nat => .map (some b)) (fun _ => True) (fun b => [mp V b []]) := fun ρ hρ R w hs => by
  subst hr
  simp only [execOp, Option.map_none, Instr.makeMap, Sem.run_bind, Result.andThen_ok, Sem.run_pure, run_newObj]
  have h1 := (hs.alloc (.map #[] 0))
  exact ⟨w.heap.size, rfl, trivial, Sat.mp_close (p := fun _ => True) (hp := fun _ h => h) ((h1.add_pure (p := True) trivial).swap) (fun f _ => (⟨.nil, List.nodup_nil, List.nodup_nil, fun e he => by cases he⟩ : Mat V f [] #[] 0)), ⟨rfl, rfl, rfl⟩⟩
theorem run_checkKey_str (hk : P.underlying K = some .string) (c : Bool) (w : World) : (Instr.checkKey c 10000 K (str k)).run P w = .ok () w := by
  rw [show (10000 : Nat) = 9999 + 1 from rfl, Instr.checkKey]
  simp only [Sem.run_bind, run_underlying hk, Result.andThen_ok, Sem.run_pure]
theorem run_findKey_str (hk : P.underlying K = some .string) {es : List MapEntry} {r : Option (Nat × Value)} (h : Instr.findNow .string (str k) es 0 = some r) (w : World) : (Instr.findKey K (str k) es).run P w = .ok r w := by
  simp [Instr.findKey, run_underlying hk, h, Result.andThen]
/-- What a look-up hands out. -/
def lk (V : MRel α) (zv : Value) (o : Option α) (v : Value) : Asrt := rof (fun f => match o with | none => v = zv | some x => V.rel f x v) (fun y h => by cases o <;> simp only at h ⊢; exact h; exact V.mono y h)
instance (V : MRel α) (zv : Value) (o : Option α) (v : Value) : Pers (lk V zv o v) := ⟨fun _ _ h => h⟩
theorem run_zero {zv : Value} (hz : (P.info? E).map (·.zero) = some (some zv)) (w : World) : (zeroValue E).run P w = .ok zv w := by
  cases hi : P.info? E with
  | none => simp [hi] at hz
  | some i => simp only [hi, Option.map_some, Option.some.injEq] at hz; simp [zeroValue, typeInfo, hi, hz, Result.andThen]
theorem lookup_core {zv : Value} {R : Asrt} {w : World} (hk : P.underlying K = some .string) (hs : Sat (mp V b D :: [R]) w) :
    ∃ es clock r, w.heap[b]? = some (.map es clock) ∧ Instr.findNow .string (str k) es.toList 0 = some r ∧ (r.isSome = (findA D k).isSome) ∧ Sat (lk V zv (findA D k) ((r.map (·.2)).getD zv) :: mp V b D :: [R]) w := by
  obtain ⟨es, clock, h1⟩ := hs.mp_open
  obtain ⟨f0, hm0⟩ : ∃ f, Mat V f D es clock := ⟨_, h1.tail.rof⟩
  have hp := h1.pts
  cases hf : findA D k with
  | none =>
    refine ⟨es, clock, none, hp, (findNow_mats (k := k) hm0.m 0).1 hf, rfl, ?_⟩
    have h4 := hs.add_pure (p := True) trivial
    exact h4.ent (star_mono (fun _ f _ => rfl) (Ent.refl _))
  | some x0 =>
    have hex : ∃ j ev, Instr.findNow .string (str k) es.toList 0 = some (some (j, ev)) ∧ ∀ f, Mat V f D es clock → V.rel f x0 ev := by
      obtain ⟨j, e0, h2, h3, _⟩ := (findNow_mats (k := k) hm0.m 0).2 x0 hf
      refine ⟨_, _, h2, fun f hm => ?_⟩
      obtain ⟨j', e', h2', h3', h4', _⟩ := (findNow_mats (k := k) hm.m 0).2 x0 hf
      rw [h2'] at h2
      simp only [Option.some.injEq, Prod.mk.injEq] at h2
      rw [← h2.2]; exact h4'
    obtain ⟨j, ev, h2, h3⟩ := hex
    refine ⟨es, clock, some (j, ev), hp, h2, rfl, ?_⟩
    refine Sat.swap (Sat.mp_close (p := fun f => Mat V f D es clock) (hp := fun y h => h.mono y) (es := es) (clock := clock) ?_ (fun f h => h))
    refine h1.ent (star_mono (Ent.refl _) ?_)
    rintro a f ⟨h1, h2, x, y, d, r, s⟩
    exact ⟨PHeap.emp, a, PHeap.emp_le _, PHeap.le_refl _, PHeap.emp_disj _, r, h1, h2, x, y, d, h3 f r, s⟩
/-- A key is looked up. -/
theorem op_lookup {zv : Value} (ht : P.underlying T = some (.map K E)) (hk : P.underlying K = some .string) (hz : (P.info? E).map (·.zero) = some (some zv))
    (hx : see e x = some (.map (some b))) (hy : see e y = some (str k)) : OpE P e ⟨dst, .lookup T x y false, t, pos, aft, g⟩ [mp V b D] (fun v : Value => v) (fun _ => True) (fun v => [lk V zv (findA D k) v, mp V b D]) := fun ρ hρ R w hs => by
  obtain ⟨es, clock, r, hp, h2, h3, h4⟩ := lookup_core (k := k) (zv := zv) hk hs
  simp only [execOp, hρ x _ hx, hρ y _ hy, Instr.lookup, Sem.run_bind, run_underlying ht, Result.andThen_ok, MapKept.run_getObj_map hp, Sem.run_pure, run_checkKey_str hk, run_findKey_str hk h2, Bool.false_eq_true, if_false]
  cases r with
  | none =>
    simp only [Sem.run_bind, run_zero hz, Result.andThen_ok, Sem.run_pure]
    exact ⟨zv, rfl, trivial, h4, Env.refl w⟩
  | some q => exact ⟨q.2, rfl, trivial, h4, Env.refl w⟩
/-- 'v, ok := m[k]' -/
theorem op_lookup_ok {zv : Value} (ht : P.underlying T = some (.map K E)) (hk : P.underlying K = some .string) (hz : (P.info? E).map (·.zero) = some (some zv))
    (hx : see e x = some (.map (some b))) (hy : see e y = some (str k)) : OpE P e ⟨dst, .lookup T x y true, t, pos, aft, g⟩ [mp V b D] (fun v : Value => .tuple #[v, .bool (findA D k).isSome]) (fun _ => True) (fun v => [lk V zv (findA D k) v, mp V b D]) := fun ρ hρ R w hs => by
  obtain ⟨es, clock, r, hp, h2, h3, h4⟩ := lookup_core (k := k) (zv := zv) hk hs
  simp only [execOp, hρ x _ hx, hρ y _ hy, Instr.lookup, Sem.run_bind, run_underlying ht, Result.andThen_ok, MapKept.run_getObj_map hp, Sem.run_pure, run_checkKey_str hk, run_findKey_str hk h2, if_true]
  rw [← h3]
  cases r with
  | none =>
    simp only [Sem.run_bind, run_zero hz, Result.andThen_ok, Sem.run_pure]
    exact ⟨zv, rfl, trivial, h4, Env.refl w⟩
  | some q => exact ⟨q.2, rfl, trivial, h4, Env.refl w⟩
/-- Where an element is told by its value. -/
theorem op_lookup_enc {enc : α → Value} {zv : Value} (ht : P.underlying T = some (.map K E)) (hk : P.underlying K = some .string) (hz : (P.info? E).map (·.zero) = some (some zv))
    (hx : see e x = some (.map (some b))) (hy : see e y = some (str k)) : OpD P e ⟨dst, .lookup T x y false, t, pos, aft, g⟩ [mp (MRel.ofEnc enc) b D] (match findA D k with | some q => enc q | none => zv) [mp (MRel.ofEnc enc) b D] := fun ρ hρ R w hs => by
  refine uponV.mono (op_lookup (V := MRel.ofEnc enc) (dst := dst) (t := t) (pos := pos) (aft := aft) (g := g) ht hk hz hx hy ρ hρ R w hs) ?_
  rintro v w' ⟨x, rfl, _, hs', he⟩
  refine ⟨(), ?_, trivial, hs'.tail, he⟩
  have := Sat.rof hs'
  cases hf : findA D k with
  | none => rw [hf] at this; exact this
  | some q => rw [hf] at this; exact this
/-- A key that is there. -/
theorem op_lookup_some {enc : α → Value} {q : α} (ht : P.underlying T = some (.map K E)) (hk : P.underlying K = some .string) {zv : Value} (hz : (P.info? E).map (·.zero) = some (some zv)) (hf : findA D k = some q)
    (hx : see e x = some (.map (some b))) (hy : see e y = some (str k)) : OpD P e ⟨dst, .lookup T x y false, t, pos, aft, g⟩ [mp (MRel.ofEnc enc) b D] (enc q) [mp (MRel.ofEnc enc) b D] := by
  have h := op_lookup_enc (dst := dst) (t := t) (pos := pos) (aft := aft) (g := g) (enc := enc) (D := D) ht hk hz hx hy
  rw [hf] at h
  exact h
theorem modify_born {es : List MapEntry} {j : Nat} {kk vv : Value} : (es.modify j fun e => { e with key := kk, val := vv }).map (·.born) = es.map (·.born) := by
  apply List.ext_getElem?
  intro i
  simp only [List.getElem?_map, List.getElem?_modify]
  by_cases h : j = i
  · subst h; cases es[j]? <;> simp
  · simp [h]
theorem Mats.push {f : PHeap} {es : List MapEntry} {v : Value} {born : Nat} {y : α} (h : Mats V f D es) (hn : findA D k = none) (hy : V.rel f y v) : Mats V f (setA D k y) (es ++ [⟨str k, v, born⟩]) := by
  induction h with
  | nil => exact .cons hy .nil
  | @cons n x v' b' D es hr hm ih =>
    simp only [findA] at hn
    split at hn
    · cases hn
    · rename_i hne
      simp only [setA, if_neg hne, List.cons_append]
      exact .cons hr (ih hn)
/-- A key is set. -/
theorem op_mapUpdate {q : α} (ht : P.underlying T = some (.map K E)) (hk : P.underlying K = some .string) (hx : see e x = some (.map (some b))) (hy : see e y = some (str k)) (hz : see e z = some v) :
    OpE P e ⟨none, .mapUpdate T x y z, t, pos, aft, g⟩ [mp V b D, hv V q v] (fun _ : Unit => undef) (fun _ => True) (fun _ => [mp V b (setA D k q)]) := fun ρ hρ R w hs => by
  obtain ⟨es, clock, h1⟩ := hs.mp_open
  have h1' : Sat (Sb.pts b (.map es clock) :: Sb.rof (fun f => Mat V f D es clock ∧ V.rel f q v) (fun y h => ⟨h.1.mono y, V.mono y h.2⟩) :: [R]) w :=
    (Sat.rof_and (l := [Sb.pts b (.map es clock), R]) (hp := fun y h => Mat.mono y h) (hq := fun y h => V.mono y h) ((h1.ent (Ent.trans (star_swap _ _ _) (star_mono (Ent.refl _) (star_swap _ _ _)))))).swap
  obtain ⟨f0, hm0, hq0⟩ : ∃ f, Mat V f D es clock ∧ V.rel f q v := ⟨_, h1'.tail.rof⟩
  have hp := h1.pts
  have hlt : b < w.heap.size := (Array.getElem?_eq_some_iff.1 hp).1
  have fin : ∀ es' clock', (∀ f, Mat V f D es clock → V.rel f q v → Mat V f (setA D k q) es' clock') → Sat (mp V b (setA D k q) :: [R]) (setBlock w b (.map es' clock')) := fun es' clock' hm => by
    refine Sat.mp_close (es := es') (clock := clock') (h1'.write (w' := setBlock w b (.map es' clock')) (o' := .map es' clock') ?_ ?_) (fun f h => hm f h.1 h.2)
    · simp [setBlock, hlt]
    · intro j hj _; simp [setBlock, Ne.symm hj]
  cases hf : findA D k with
  | none =>
    have h2 := ((findNow_mats (k := k) hm0.m 0).1 hf)
    simp only [execOp, hρ x _ hx, hρ y _ hy, hρ z _ hz, Instr.mapUpdate, Sem.run_bind, run_underlying ht, Result.andThen_ok, MapKept.run_getObj_map hp, run_checkKey_str hk, run_findKey_str hk h2, MapKept.run_setObj_map _ hp, Sem.run_pure]
    refine ⟨(), rfl, trivial, fin _ _ (fun f hm hq => ⟨?_, setA_nodup hm.nd, ?_, ?_⟩), ⟨rfl, rfl, rfl⟩⟩
    · rw [Array.toList_push]; exact hm.m.push hf hq
    · rw [Array.toList_push, List.map_append, List.nodup_append]
      refine ⟨hm.bn, by simp, fun a ha c hc => ?_⟩
      obtain ⟨e', he', rfl⟩ := List.mem_map.1 ha
      have := hm.lt e' he'
      simp at hc
      omega
    · intro e' he'
      rw [Array.toList_push] at he'
      rcases List.mem_append.1 he' with h | h
      · have := hm.lt e' h; omega
      · simp at h; subst h; simp
  | some x0 =>
    obtain ⟨j, e0, h2, h3, h4, h5, _, h6, _⟩ := (findNow_mats (k := k) hm0.m 0).2 x0 hf
    have hj : es[j]? = some e0 := by simpa using h3
    have hst : (Instr.keyThatStays e0.key (str k)).run P w = .ok (str k) w := by
      rw [h5]; exact MapKept.run_keyThatStays (d := .string) trivial
    simp only [execOp, hρ x _ hx, hρ y _ hy, hρ z _ hz, Instr.mapUpdate, Sem.run_bind, run_underlying ht, Result.andThen_ok, MapKept.run_getObj_map hp, run_checkKey_str hk, run_findKey_str hk h2, Nat.zero_add, hj, Option.map_some, Option.getD_some, hst, MapKept.run_setObj_map _ hp, Sem.run_pure]
    refine ⟨(), rfl, trivial, fin _ _ (fun f hm hq => ⟨?_, setA_nodup hm.nd, ?_, ?_⟩), ⟨rfl, rfl, rfl⟩⟩
    · obtain ⟨j', e', h2', h3', _, _, _, h6', _⟩ := (findNow_mats (k := k) hm.m 0).2 x0 hf
      have hjj : j' = j := by
        rw [h2'] at h2
        simp only [Option.some.injEq, Prod.mk.injEq] at h2
        omega
      subst hjj
      rw [Array.toList_modify]
      exact h6' q v hq
    · rw [Array.toList_modify, modify_born]; exact hm.bn
    · intro e' he'
      have : e'.born ∈ (es.modify j fun e => { e with key := str k, val := v }).toList.map (·.born) := List.mem_map.2 ⟨e', he', rfl⟩
      rw [Array.toList_modify, modify_born] at this
      obtain ⟨e2, h7, h8⟩ := List.mem_map.1 this
      rw [← h8]; exact hm.lt e2 h7
theorem take_hv {enc : α → Value} {q : α} {l : List Asrt} : Take (hv (MRel.ofEnc enc) q (enc q)) l l := fun h f p => ⟨PHeap.emp, h, PHeap.emp_le _, PHeap.le_refl _, PHeap.emp_disj _, rfl, p⟩
/-- A key is taken away. -/
theorem op_delete {ts : Array TypeId} (hts : ts[0]? = some T) (ht : P.underlying T = some (.map K E)) (hk : P.underlying K = some .string) (hx : see e x = some (.map (some b))) (hy : see e y = some (str k)) :
    OpE P e ⟨dst, .call ⟨.builtin .delete, #[x, y], ts⟩, t, pos, aft, g⟩ [mp V b D] (fun _ : Unit => .tuple #[]) (fun _ => True) (fun _ => [mp V b (delA D k)]) := fun ρ hρ R w hs => by
  obtain ⟨es, clock, h1⟩ := hs.mp_open
  obtain ⟨f0, hm0⟩ : ∃ f, Mat V f D es clock := ⟨_, h1.tail.rof⟩
  have hp := h1.pts
  have hlt : b < w.heap.size := (Array.getElem?_eq_some_iff.1 hp).1
  have fin : ∀ es', (∀ f, Mat V f D es clock → Mat V f (delA D k) es' clock) → Sat (mp V b (delA D k) :: [R]) (setBlock w b (.map es' clock)) := fun es' hm => by
    refine Sat.mp_close (es := es') (clock := clock) (h1.write (w' := setBlock w b (.map es' clock)) (o' := .map es' clock) ?_ ?_) (fun f h => hm f h)
    · simp [setBlock, hlt]
    · intro j hj _; simp [setBlock, Ne.symm hj]
  have hrun : ∀ c, (execOp ρ ⟨dst, .call ⟨.builtin .delete, #[x, y], ts⟩, t, pos, aft, g⟩).run P c = ((Builtin.delete_ ts t #[ρ x, ρ y]).run P c).andThen fun v w => .ok (.value v) w := fun c => by
    simp [execOp, resolve, invoke, builtin]
  rw [hrun]
  cases hf : findA D k with
  | none =>
    have h2 := ((findNow_mats (k := k) hm0.m 0).1 hf)
    have hdel : (Builtin.delete_ ts t #[.map (some b), str k]).run P w = .ok (.tuple #[]) (setBlock w b (.map (es) clock)) := by
      simp [Builtin.delete_, hts, run_underlying ht, MapKept.run_getObj_map hp, run_checkKey_str hk, run_findKey_str hk h2, MapKept.run_setObj_map _ hp, Result.andThen, setBlock]
    rw [hρ x _ hx, hρ y _ hy, hdel]
    refine ⟨(), rfl, trivial, fin _ (fun f hm => ?_), ⟨rfl, rfl, rfl⟩⟩
    rw [delA_none (findA_none.1 hf)]; exact hm
  | some x0 =>
    obtain ⟨j, e0, h2, h3, h4, h5, _, h6, h7⟩ := (findNow_mats (k := k) hm0.m 0).2 x0 hf
    have hdel : (Builtin.delete_ ts t #[.map (some b), str k]).run P w = .ok (.tuple #[]) (setBlock w b (.map (es.eraseIdxIfInBounds (0 + j)) clock)) := by
      simp [Builtin.delete_, hts, run_underlying ht, MapKept.run_getObj_map hp, run_checkKey_str hk, run_findKey_str hk h2, MapKept.run_setObj_map _ hp, Result.andThen, setBlock]
    rw [hρ x _ hx, hρ y _ hy, hdel]
    refine ⟨(), rfl, trivial, fin _ (fun f hm => ?_), ⟨rfl, rfl, rfl⟩⟩
    obtain ⟨j', e', h2', h3', _, _, _, _, h7'⟩ := (findNow_mats (k := k) hm.m 0).2 x0 hf
    have hjj : j' = j := by
      rw [h2'] at h2
      simp only [Option.some.injEq, Prod.mk.injEq] at h2
      omega
    subst hjj
    have hlt' : j' < es.size := by have := (List.getElem?_eq_some_iff.1 h3').1; simpa using this
    have hee : (es.eraseIdxIfInBounds (0 + j')).toList = es.toList.eraseIdx j' := by
      simp [Array.eraseIdxIfInBounds, hlt']
    refine ⟨by rw [hee]; exact h7', delA_nodup hm.nd, ?_, ?_⟩
    · rw [hee]; exact hm.bn.sublist ((List.eraseIdx_sublist _ _).map _)
    · intro e' he'; rw [hee] at he'; exact hm.lt e' ((List.eraseIdx_sublist _ _).subset he')
theorem op_map_len {ts : Array TypeId} (hts : ts = #[T]) (ht : P.underlying T = some (.map K E)) (hx : see e x = some (.map (some b))) :
    OpD P e ⟨dst, .call ⟨.builtin .len, #[x], ts⟩, t, pos, aft, g⟩ [mp V b D] (.int .i64 D.length) [mp V b D] := fun ρ hρ => by
  intro R w hs
  obtain ⟨es, clock, hp, f, hm⟩ := hs.mp_len
  subst hts
  have : D.length = es.size := by rw [hm.m.len]; simp
  have hr : (execOp ρ ⟨dst, .call ⟨.builtin .len, #[x], #[T]⟩, t, pos, aft, g⟩).run P w = .ok (.value (.int .i64 D.length)) w := by
    simp [execOp, resolve, invoke, builtin, Builtin.len_, run_underlying ht, hρ x _ hx, goInt, MapKept.run_getObj_map hp, Result.andThen, this]
  rw [hr]
  exact ⟨(), rfl, trivial, hs, Env.refl w⟩
theorem op_map_len_nil {ts : Array TypeId} (hts : ts = #[T]) (ht : P.underlying T = some (.map K E)) (hx : see e x = some (.map none)) :
    OpV P e ⟨dst, .call ⟨.builtin .len, #[x], ts⟩, t, pos, aft, g⟩ (.int .i64 0) := fun ρ hρ w => by
  subst hts
  simp [execOp, resolve, invoke, builtin, Builtin.len_, run_underlying ht, hρ x _ hx, goInt]
theorem op_lookup_nil {zv : Value} (ht : P.underlying T = some (.map K E)) (hk : P.underlying K = some .string) (hz : (P.info? E).map (·.zero) = some (some zv))
    (hx : see e x = some (.map none)) (hy : see e y = some (str k)) : OpV P e ⟨dst, .lookup T x y false, t, pos, aft, g⟩ zv := fun ρ hρ w => by
  have hz' : (zeroValue E).run P w = .ok zv w := by
    cases hi : P.info? E with
    | none => simp [hi] at hz
    | some i => simp only [hi, Option.map_some, Option.some.injEq] at hz; simp [zeroValue, typeInfo, hi, hz, Result.andThen]
  have h2 : Instr.findNow .string (str k) [] 0 = some none := rfl
  simp only [execOp, hρ x _ hx, hρ y _ hy, Instr.lookup, Sem.run_bind, run_underlying ht, Result.andThen_ok, Sem.run_pure, run_checkKey_str hk, run_findKey_str hk h2, hz', Bool.false_eq_true, if_false]
end
end Go.Sb
