/- Ranges over maps: each entry comes once, in whichever order. -/
import Derived.Test.YtikodfclemgfoaaDoorSbMap
set_option linter.all false
set_option linter.unusedVariables false
set_option linter.unusedSimpArgs false
namespace Go.Sb
open Go.RowKit
open Go.ChangeMaps (setBlock)
open Go.Maps
attribute [local irreducible] Go.wpList Go.Code.wp Go.Exit.then Go.Exit.inBlock Go.Sb.Ends Go.Sb.VC
section
variable {α : Type} {V : MRel α} {f : PHeap} {D : List (Txt × α)} {es : List MapEntry}
def restOf (seen : Array Nat) : List (Txt × α) → List MapEntry → List (Txt × α)
  | p :: D, e :: es => if seen.contains e.born then restOf seen D es else p :: restOf seen D es
  | _, _ => []
theorem restOf_none (h : Mats V f D es) : restOf #[] D es = D := by
  induction h with
  | nil => rfl
  | cons _ _ ih => simp [restOf, ih]
theorem restOf_mem {seen : Array Nat} {p : Txt × α} (h : p ∈ restOf seen D es) : p ∈ D := by
  induction D generalizing es with
  | nil => simp [restOf] at h
  | cons q D ih =>
    cases es with
    | nil => simp [restOf] at h
    | cons e es =>
      simp only [restOf] at h
      split at h
      · exact List.mem_cons_of_mem _ (ih h)
      · rcases List.mem_cons.1 h with rfl | h
        · exact List.mem_cons_self
        · exact List.mem_cons_of_mem _ (ih h)
theorem restOf_left (h : Mats V f D es) (seen : Array Nat) (h0 : es.filter (fun e => !seen.contains e.born) = []) : restOf seen D es = [] := by
  induction h with
  | nil => rfl
  | @cons k x v born D es _ _ ih =>
    simp only [List.filter_cons] at h0
    split at h0
    · cases h0
    · rename_i hb
      simp only [restOf]
      rw [if_pos (by simpa using hb)]
      exact ih h0
theorem restOf_other {seen : Array Nat} {n : Nat} (hn : ∀ e ∈ es, e.born ≠ n) : restOf (seen.push n) D es = restOf seen D es := by
  induction D generalizing es with
  | nil => rfl
  | cons q D ih =>
    cases es with
    | nil => rfl
    | cons e es =>
      simp only [restOf]
      have h1 : (seen.push n).contains e.born = seen.contains e.born := by
        have := hn e List.mem_cons_self
        rw [Bool.eq_iff_iff]; simp [this]
      rw [h1, ih fun e he => hn e (List.mem_cons_of_mem _ he)]
/-- One entry that is left comes out. -/
theorem restOf_step (h : Mats V f D es) (seen : Array Nat) (hn : (D.map (·.1)).Nodup) (hb : (es.map (·.born)).Nodup) {e : MapEntry} (he : e ∈ es) (hs : seen.contains e.born = false) :
    ∃ k x, (k, x) ∈ restOf seen D es ∧ e.key = str k ∧ V.rel f x e.val ∧ restOf (seen.push e.born) D es = delA (restOf seen D es) k ∧ (k, x) ∈ D ∧ k ∉ (restOf (seen.push e.born) D es).map (·.1) := by
  induction h with
  | nil => cases he
  | @cons k x v born D es hr hm ih =>
    simp only [List.map_cons, List.nodup_cons] at hn hb
    rcases List.mem_cons.1 he with rfl | he
    · have ho : restOf (seen.push born) D es = restOf seen D es := restOf_other fun e he hx => hb.1 (List.mem_map.2 ⟨e, he, hx⟩)
      refine ⟨k, x, ?_, rfl, hr, ?_, List.mem_cons_self, ?_⟩
      · simp only [restOf, hs]; simp
      · simp only [restOf, hs]
        simp [delA, ho]
      · simp only [restOf]
        simp only [Array.contains_push, BEq.rfl, Bool.or_true, if_true, ho]
        rintro h
        obtain ⟨p, hp, hpe⟩ := List.mem_map.1 h
        exact hn.1 (List.mem_map.2 ⟨p, restOf_mem hp, hpe⟩)
    · obtain ⟨k', x', h1, h2, h3, h4, h5, h6⟩ := ih hn.2 hb.2 he
      have hne : born ≠ e.born := fun hx => hb.1 (List.mem_map.2 ⟨e, he, hx.symm⟩)
      have hk : k ≠ k' := fun hx => hn.1 (List.mem_map.2 ⟨_, h5, hx.symm⟩)
      have hc : (seen.push e.born).contains born = seen.contains born := by rw [Bool.eq_iff_iff]; simp [hne]
      refine ⟨k', x', ?_, h2, h3, ?_, List.mem_cons_of_mem _ h5, ?_⟩
      · simp only [restOf]; split
        · exact h1
        · exact List.mem_cons_of_mem _ h1
      · simp only [restOf, hc]
        split
        · exact h4
        · simp [delA, hk, h4]
      · simp only [restOf, hc]
        split
        · exact h6
        · simp only [List.map_cons, List.mem_cons, not_or]
          exact ⟨Ne.symm hk, h6⟩
theorem restOf_del (h : Mats V f D es) (seen : Array Nat) (hn : (D.map (·.1)).Nodup) {k : Txt} {j : Nat} {e : MapEntry} (hj : es[j]? = some e) (he : e.key = str k) : restOf seen (delA D k) (es.eraseIdx j) = delA (restOf seen D es) k := by
  induction h generalizing j with
  | nil => cases hj
  | @cons n x v born D es hr hm ih =>
    simp only [List.map_cons, List.nodup_cons] at hn
    cases j with
    | zero =>
      simp only [List.getElem?_cons_zero, Option.some.injEq] at hj
      subst hj
      have hnk : n = k := by simpa using he
      subst hnk
      simp only [delA, if_true, List.eraseIdx_zero, List.tail_cons, restOf]
      have hno : delA (restOf seen D es) n = restOf seen D es := delA_none fun h => by
        obtain ⟨p, hp, hpe⟩ := List.mem_map.1 h
        exact hn.1 (List.mem_map.2 ⟨p, restOf_mem hp, hpe⟩)
      split
      · exact hno.symm
      · simp [delA]
    | succ j =>
      have hj' : es[j]? = some e := by simpa using hj
      have hnk : n ≠ k := by
        rintro rfl
        have : n ∈ D.map (·.1) := by
          clear ih hn
          induction hm generalizing j with
          | nil => cases hj'
          | @cons n2 x2 v2 b2 D2 es2 _ _ ih2 =>
            cases j with
            | zero =>
              simp only [List.getElem?_cons_zero, Option.some.injEq] at hj'
              subst hj'
              have : n2 = n := by simpa using he
              simp [this]
            | succ j => exact List.mem_cons_of_mem _ (ih2 (j := j) (by simpa using hj) (by simpa using hj'))
        exact hn.1 this
      simp only [delA, if_neg hnk, List.eraseIdx_cons_succ, restOf]
      split
      · exact ih hn.2 hj'
      · simp [delA, hnk, ih hn.2 hj']
end
/-- Of map b's entries D those in 'rest' are to come; the last one that came is 'last'. -/
def itm {α : Type} (V : MRel α) (b r : Nat) (D rest : List (Txt × α)) (last : Option (Txt × α)) : Asrt :=
  ⟨fun h f => ∃ es clock seen, h b = some (.map es clock) ∧ h r = some (.mapIter (some b) clock seen clock) ∧ r ≠ b ∧ Mat V f D es clock ∧ rest = restOf seen D es.toList ∧
      (∀ k x, last = some (k, x) → ∃ e sn, e ∈ es.toList ∧ seen = Array.push sn e.born ∧ e.key = str k ∧ V.rel f x e.val),
   fun x y ⟨es, c, s, a, b, n, m, r, q⟩ => ⟨es, c, s, x _ _ a, x _ _ b, n, m.mono y, r, fun k u h => let ⟨e, sn, h1, h2, h3, h4⟩ := q k u h; ⟨e, sn, h1, h2, h3, V.mono y h4⟩⟩⟩
section
variable {α : Type} {V : MRel α} {D rest : List (Txt × α)} {last : Option (Txt × α)} {b r : Nat} {l m : List Asrt} {w : World}
def Itm {α : Type} (V : MRel α) (f : PHeap) (b r : Nat) (D rest : List (Txt × α)) (last : Option (Txt × α)) (es : Array MapEntry) (clock : Nat) (seen : Array Nat) : Prop :=
  Mat V f D es clock ∧ rest = restOf seen D es.toList ∧ (∀ k x, last = some (k, x) → ∃ e sn, e ∈ es.toList ∧ seen = Array.push sn e.born ∧ e.key = str k ∧ V.rel f x e.val)
theorem Itm.mono {f f' : PHeap} {es : Array MapEntry} {clock : Nat} {seen : Array Nat} (y : f.le f') (h : Itm V f b r D rest last es clock seen) : Itm V f' b r D rest last es clock seen :=
  ⟨h.1.mono y, h.2.1, fun k u hl => let ⟨e, sn, h1, h2, h3, h4⟩ := h.2.2 k u hl; ⟨e, sn, h1, h2, h3, V.mono y h4⟩⟩
theorem Sat.itm_open (h : Sat (itm V b r D rest last :: l) w) : ∃ es clock seen, r ≠ b ∧ Sat (Sb.pts b (.map es clock) :: Sb.pts r (.mapIter (some b) clock seen clock) :: Sb.rof (fun f => Itm V f b r D rest last es clock seen) (fun y h => h.mono y) :: l) w := by
  obtain ⟨a, f, d, x, y, h1, h2, p, q, r', ⟨es, clock, seen, s1, s2, s3, s4⟩, u⟩ := h
  refine ⟨es, clock, seen, s3, a, f, d, x, y, (fun k => if k = b then h1 k else none), (fun k => if k = b then h2 k else PHeap.or h1 h2 k), ?_, ?_, ?_, by simp [Sb.pts, s1], (fun k => if k = r then h1 k else none), h2, ?_, ?_, ?_, by simp [Sb.pts, s2], PHeap.emp, h2, PHeap.emp_le _, PHeap.le_refl _, PHeap.emp_disj _, s4, u⟩
  · intro k o e
    by_cases hk : k = b
    · simp only [hk, if_true] at e; rw [hk]; exact p _ _ e
    · simp [hk] at e
  · intro k o e
    by_cases hk : k = b
    · simp only [hk, if_true] at e; rw [hk]; exact q _ _ e
    · simp only [hk, if_false] at e; exact PHeap.or_le p q _ _ e
  · intro k o o' e e'
    by_cases hk : k = b
    · simp only [hk, if_true] at e e'; exact r' _ _ _ e e'
    · simp [hk] at e
  · intro k o e
    by_cases hk : k = r
    · subst hk
      have e' : h1 k = some o := by simpa using e
      simp only [s3, if_false, PHeap.or]
      rw [e']
    · simp [hk] at e
  · intro k o e
    by_cases hk : k = b
    · simp only [hk, if_true]; rw [← hk]; exact e
    · simp only [hk, if_false]; exact PHeap.or_right r' _ _ e
  · intro k o o' e e'
    by_cases hk : k = r
    · have e2 : h1 k = some o := by simpa [hk] using e
      exact r' _ _ _ e2 e'
    · simp [hk] at e
theorem Sat.itm_close {es : Array MapEntry} {clock : Nat} {seen : Array Nat} {p : PHeap → Prop} {hp} (h : Sat (Sb.pts b (.map es clock) :: Sb.pts r (.mapIter (some b) clock seen clock) :: Sb.rof p hp :: l) w)
    (hm : ∀ f, p f → Itm V f b r D rest last es clock seen) : Sat (itm V b r D rest last :: l) w := by
  have hne : b ≠ r := h.ne
  obtain ⟨a, f, d, x, y, h1, h2, p', q, r', s, h3, h4, p2, q2, r2, s2, h5, h6, p3, q3, r3, t, u⟩ := h
  obtain ⟨m1, m2, m3⟩ := hm f t
  have le4 : h6.le h2 := PHeap.le_trans q3 q2
  refine ⟨a, f, d, x, y, h1.or h3, h6, PHeap.or_le p' (PHeap.le_trans p2 q), PHeap.le_trans le4 q, PHeap.disj_or (PHeap.disj_le r' (PHeap.le_refl _) le4) (PHeap.disj_le r2 (PHeap.le_refl _) q3), ⟨es, clock, seen, PHeap.or_left _ _ _ _ s, PHeap.or_right (PHeap.disj_le r' (PHeap.le_refl _) p2) _ _ s2, hne.symm, m1, m2, m3⟩, u⟩
/-- The range is given up. -/
theorem itm_end : Ent (itm V b r D rest last) (mp V b D) := fun _ _ ⟨es, c, _, h1, _, _, h2, _⟩ => ⟨es, c, h1, h2⟩
end
section
variable {P : Program} {e : Slots} {x y z : Operand} {u v : Value} {dst : Option Tmp} {t : TypeId} {pos : String} {aft : Array Edge} {g : Option (Nat × Bool)} {b r n : Nat} {T E K : TypeId} {α : Type} {V : MRel α} {D rest : List (Txt × α)} {last : Option (Txt × α)} {k : Txt}
theorem op_range (ht : P.underlying T = some (.map K E)) (hx : see e x = some (.map (some b))) :
    OpE P e ⟨dst, .range T x, t, pos, aft, g⟩ [mp V b D] (fun r : Nat => .pointer (some ⟨r, 0, none⟩)) (fun _ => True) (fun r => [itm V b r D D none]) := fun ρ hρ R w hs => by
  obtain ⟨es, clock, h1⟩ := hs.mp_open
  have hp := h1.pts
  obtain ⟨f0, hm0⟩ : ∃ f, Mat V f D es clock := ⟨_, h1.tail.rof⟩
  simp only [execOp, hρ x _ hx, Instr.range, Sem.run_bind, run_underlying ht, Result.andThen_ok, MapKept.run_getObj_map hp, Sem.run_pure, run_newObj]
  have h2 := h1.alloc (.mapIter (some b) clock #[] clock)
  refine ⟨w.heap.size, rfl, trivial, Sat.itm_close (p := fun f => Mat V f D es clock) (hp := fun y h => h.mono y) h2.swap (fun f h => ⟨h, (restOf_none h.m).symm, fun _ _ h => by cases h⟩), ⟨rfl, rfl, rfl⟩⟩
theorem op_range_nil (ht : P.underlying T = some (.map K E)) (hx : see e x = some (.map none)) :
    OpE P e ⟨dst, .range T x, t, pos, aft, g⟩ [] (fun r : Nat => .pointer (some ⟨r, 0, none⟩)) (fun _ => True) (fun r => [pts r (.mapIter none 0 #[] 0)]) := fun ρ hρ R w hs => by
  simp only [execOp, hρ x _ hx, Instr.range, Sem.run_bind, run_underlying ht, Result.andThen_ok, Sem.run_pure, run_newObj]
  exact ⟨w.heap.size, rfl, trivial, hs.alloc _, ⟨rfl, rfl, rfl⟩⟩
theorem op_next_nil {T' : TypeId} (hx : see e x = some (.pointer (some ⟨r, 0, none⟩))) :
    OpD P e ⟨dst, .next x false, t, pos, aft, g⟩ [pts r (.mapIter none 0 #[] 0)] (.tuple #[.bool false]) [pts r (.mapIter none 0 #[] 0)] := fun ρ hρ => by
  intro R w hs
  have hp := hs.pts
  have hrun : (Instr.next (.pointer (some ⟨r, 0, none⟩)) false t).run P w = .ok (.tuple #[.bool false]) w := by
    simp only [Instr.next, getObj, Sem.run_bind, Sem.run, hp, Result.andThen]
    rfl
  simp only [execOp, hρ x _ hx, Sem.run_bind, hrun, Result.andThen_ok, Sem.run_pure]
  exact ⟨(), rfl, trivial, hs, Env.refl w⟩
def nextVal {α : Type} : Option (Txt × α × Value) → Value
  | none => .tuple #[.bool false]
  | some (k, _, v) => .tuple #[.bool true, str k, v]
def nextPu {α : Type} (D rest : List (Txt × α)) : Option (Txt × α × Value) → Prop
  | none => rest = []
  | some (k, x, _) => (k, x) ∈ rest ∧ (k, x) ∈ D ∧ k ∉ (delA rest k).map (·.1)
def nextRes {α : Type} (V : MRel α) (b r : Nat) (D rest : List (Txt × α)) : Option (Txt × α × Value) → List Asrt
  | none => [itm V b r D rest none]
  | some (k, x, v) => [hv V x v, itm V b r D (delA rest k) (some (k, x))]
theorem op_next (hx : see e x = some (.pointer (some ⟨r, 0, none⟩))) :
    OpE P e ⟨dst, .next x false, t, pos, aft, g⟩ [itm V b r D rest last] nextVal (nextPu D rest) (nextRes V b r D rest) := fun ρ hρ R w hs => by
  obtain ⟨es, clock, seen, hne, h1⟩ := hs.itm_open
  have hb := h1.pts
  have hr := h1.tail.pts
  obtain ⟨f0, hm0⟩ : ∃ f, Itm V f b r D rest last es clock seen := ⟨_, h1.tail.tail.rof⟩
  have hlt : r < w.heap.size := (Array.getElem?_eq_some_iff.1 hr).1
  rcases run_next_at (P := P) w t r b clock clock seen es clock hr hb (fun x hx => hm0.1.lt x hx) (Nat.le_refl _) with ⟨h0, hrun⟩ | ⟨en, hen, w1, hw1, hrun⟩
  · simp only [execOp, hρ x _ hx, Sem.run_bind, hrun, Result.andThen_ok, Sem.run_pure]
    refine ⟨none, rfl, ?_, ?_, Env.refl w⟩
    · show rest = []
      rw [hm0.2.1]
      refine restOf_left hm0.1.m seen ?_
      have : (leftOf es seen) = #[] := Array.eq_empty_of_size_eq_zero h0
      have h2 := congrArg Array.toList this
      simpa [leftOf] using h2
    · exact Sat.itm_close h1 (fun f h => ⟨h.1, h.2.1, fun _ _ h => by cases h⟩)
  · have hmem : en ∈ es.toList ∧ seen.contains en.born = false := by simpa [leftOf] using hen
    obtain ⟨k, q, h2, h3, h4, h5, h6, h7⟩ := restOf_step hm0.1.m seen hm0.1.nd hm0.1.bn hmem.1 hmem.2
    obtain ⟨ekey, eval, eborn⟩ := en
    simp only at h3 h4 h5 h7 hrun
    subst h3
    simp only [execOp, hρ x _ hx, Sem.run_bind, hrun, Result.andThen_ok, Sem.run_pure]
    have hs1 : Sat (Sb.pts b (.map es clock) :: Sb.pts r (.mapIter (some b) clock seen clock) :: Sb.rof (fun f => Itm V f b r D rest last es clock seen) (fun y h => h.mono y) :: [R]) w1 := by
      rcases hw1 with rfl | rfl
      · exact h1
      · exact h1.drew
    have hlt1 : r < w1.heap.size := by rcases hw1 with rfl | rfl <;> exact hlt
    have hs2 := hs1.swap.write (w' := setBlock w1 r (.mapIter (some b) clock (seen.push eborn) clock)) (o' := .mapIter (some b) clock (seen.push eborn) clock) (by simp [setBlock, hlt1]) (fun j hj _ => by simp [setBlock, Ne.symm hj])
    have hrel : ∀ f, Itm V f b r D rest last es clock seen → V.rel f q eval ∧ Itm V f b r D (delA rest k) (some (k, q)) es clock (seen.push eborn) := fun f hf => by
      obtain ⟨k', q', g2, g3, g4, g5, g6, g7⟩ := restOf_step hf.1.m seen hf.1.nd hf.1.bn hmem.1 hmem.2
      have hk : k' = k := by simp only [Value.string.injEq, ByteArray.mk.injEq, Array.mk.injEq] at g3; exact g3.symm
      subst hk
      have hq : q' = q := by
        have e1 := findA_of_mem hf.1.nd g6
        have e2 := findA_of_mem hf.1.nd h6
        rw [e1] at e2; exact Option.some.inj e2
      subst hq
      refine ⟨g4, hf.1, ?_, fun k2 x2 h => ?_⟩
      · rw [hf.2.1]; exact g5.symm
      · cases h; exact ⟨_, seen, hmem.1, rfl, rfl, g4⟩
    refine ⟨some (k, q, eval), rfl, ⟨by rw [hm0.2.1]; exact h2, h6, ?_⟩, ?_, ?_⟩
    · rw [hm0.2.1, ← h5]; exact h7
    · have hs3 : Sat (itm V b r D (delA rest k) (some (k, q)) :: hv V q eval :: [R]) (setBlock w1 r (.mapIter (some b) clock (seen.push eborn) clock)) := by
        refine Sat.itm_close (p := fun f => Itm V f b r D rest last es clock seen) (hp := fun y h => h.mono y) ?_ (fun f h => (hrel f h).2)
        refine hs2.swap.ent (star_mono (Ent.refl _) (star_mono (Ent.refl _) ?_))
        rintro a f ⟨g1, g2, x, y, d, r, s⟩
        exact ⟨PHeap.emp, a, PHeap.emp_le _, PHeap.le_refl _, PHeap.emp_disj _, r, g1, g2, x, y, d, (hrel f r).1, s⟩
      exact hs3.swap
    · rcases hw1 with rfl | rfl <;> exact ⟨rfl, rfl, rfl⟩
/-- What the last step handed out, read once more. -/
theorem op_entry {q : α} (hx : see e x = some (.pointer (some ⟨r, 0, none⟩))) :
    OpE P e ⟨dst, .entry x, t, pos, aft, g⟩ [itm V b r D rest (some (k, q))] (fun v : Value => .tuple #[str k, v]) (fun _ => True) (fun v => [hv V q v, itm V b r D rest (some (k, q))]) := fun ρ hρ R w hs => by
  obtain ⟨es, clock, seen, hne, h1⟩ := hs.itm_open
  have hb := h1.pts
  have hr := h1.tail.pts
  obtain ⟨f0, hm0⟩ : ∃ f, Itm V f b r D rest (some (k, q)) es clock seen := ⟨_, h1.tail.tail.rof⟩
  obtain ⟨en, sn, he, hsn, hek, hrel⟩ := hm0.2.2 k q rfl
  subst hsn
  have hrun := run_entry_at (P := P) w r b clock sn es clock en hr hb he hm0.1.bn
  simp only [execOp, hρ x _ hx, Sem.run_bind, hrun, Result.andThen_ok, Sem.run_pure]
  have hv' : ∀ f, Itm V f b r D rest (some (k, q)) es clock (sn.push en.born) → V.rel f q en.val := fun f hf => by
    obtain ⟨en2, sn2, he2, hsn2, _, hrel2⟩ := hf.2.2 k q rfl
    have hb2 : en2.born = en.born := by
      have := congrArg Array.back? hsn2
      simpa using this.symm
    have : en2 = en := born_eq hf.1.bn he2 he hb2
    rw [← this]; exact hrel2
  refine ⟨en.val, by rw [hek], trivial, ?_, Env.refl w⟩
  have hs3 : Sat (itm V b r D rest (some (k, q)) :: hv V q en.val :: [R]) w := by
    refine Sat.itm_close (p := fun f => Itm V f b r D rest (some (k, q)) es clock (sn.push en.born)) (hp := fun y h => h.mono y) ?_ (fun f h => h)
    refine h1.ent (star_mono (Ent.refl _) (star_mono (Ent.refl _) ?_))
    rintro a f ⟨g1, g2, x, y, d, r, s⟩
    exact ⟨PHeap.emp, a, PHeap.emp_le _, PHeap.le_refl _, PHeap.emp_disj _, r, g1, g2, x, y, d, hv' f r, s⟩
  exact hs3.swap
  where
  born_eq {l : List MapEntry} (hn : (l.map (·.born)).Nodup) {a c : MapEntry} (ha : a ∈ l) (hc : c ∈ l) (h : a.born = c.born) : a = c := by
    induction l with
    | nil => cases ha
    | cons p l ih =>
      simp only [List.map_cons, List.nodup_cons] at hn
      rcases List.mem_cons.1 ha with e1 | e1
      · rcases List.mem_cons.1 hc with e2 | e2
        · rw [e1, e2]
        · subst e1; exact (hn.1 (List.mem_map.2 ⟨c, e2, h.symm⟩ : a.born ∈ l.map (·.born))).elim
      · rcases List.mem_cons.1 hc with e2 | e2
        · subst e2; exact (hn.1 (List.mem_map.2 ⟨a, e1, h⟩ : c.born ∈ l.map (·.born))).elim
        · exact ih hn.2 e1 e2
end
end Go.Sb
