/- Contracts 9: maps held against each other; Same. -/
import Derived.Test.YtikodfclemgfoaaDoorSbK8
set_option linter.all false
set_option linter.unusedVariables false
set_option linter.unusedSimpArgs false
namespace Go.Proofs.YtikodfclemgfoaaDoor
open Go.Sb
attribute [local irreducible] Go.wpList Go.Code.wp Go.Exit.then Go.Exit.inBlock Go.Sb.Ends Go.Sb.VC Go.Sb.VA Go.Sb.OpV Go.Sb.OpE Go.Sb.OpD
set_option maxHeartbeats 1000000
section
variable {α : Type} {D rest : List (Txt × α)} {k : Txt} {x : α}
theorem delA_length (h : (k, x) ∈ D) : (delA D k).length < D.length := by
  induction D with
  | nil => cases h
  | cons p D ih =>
    obtain ⟨n, y⟩ := p
    by_cases hn : n = k
    · simp [delA, hn]
    · simp only [delA, if_neg hn, List.length_cons]
      rcases List.mem_cons.1 h with e | e
      · cases e; exact absurd rfl hn
      · have := ih e; omega
theorem mem_delA_of {p : Txt × α} (h : p ∈ D) (hk : p.1 ≠ k) : p ∈ delA D k := by
  induction D with
  | nil => cases h
  | cons q D ih =>
    obtain ⟨n, y⟩ := q
    by_cases hn : n = k
    · simp only [delA, if_pos hn]
      rcases List.mem_cons.1 h with e | e
      · subst e; exact absurd hn hk
      · exact e
    · simp only [delA, if_neg hn]
      rcases List.mem_cons.1 h with e | e
      · exact List.mem_cons.2 (.inl e)
      · exact List.mem_cons.2 (.inr (ih e))
theorem key_of_mem_delA {p : Txt × α} (hn : (D.map (·.1)).Nodup) (h : p ∈ delA D k) : p.1 ≠ k := by
  intro e
  have h1 := findA_of_mem (delA_nodup (k := k) hn) (show (p.1, p.2) ∈ delA D k from h)
  rw [findA_delA hn, if_pos e.symm] at h1
  cases h1
theorem eq_of_key {y : α} (hn : (D.map (·.1)).Nodup) (h : (k, x) ∈ D) (h' : (k, y) ∈ D) : x = y := by
  have h1 := findA_of_mem hn h
  rw [findA_of_mem hn h'] at h1
  exact (Option.some.inj h1).symm
theorem all_delA {q : Txt × α → Bool} (h : (k, x) ∈ rest) (hk : k ∉ (delA rest k).map (·.1)) : rest.all q = (q (k, x) && (delA rest k).all q) := by
  induction rest with
  | nil => cases h
  | cons p D ih =>
    obtain ⟨n, y⟩ := p
    by_cases hn : n = k
    · subst hn
      simp only [delA, if_pos] at hk ⊢
      rcases List.mem_cons.1 h with e | e
      · cases e; rfl
      · exact absurd (List.mem_map.2 ⟨_, e, rfl⟩) hk
    · simp only [delA, if_neg hn] at hk ⊢
      rcases List.mem_cons.1 h with e | e
      · cases e; exact absurd rfl hn
      · rw [List.all_cons, List.all_cons, ih e (fun hm => hk (by simp only [List.map_cons, List.mem_cons]; exact .inr hm))]
        cases q (n, y) <;> cases q (k, x) <;> rfl
theorem filter_delA {q : Txt × α → Bool} (hn : (D.map (·.1)).Nodup) (h : (k, x) ∈ D) (hq : q (k, x) = false) : (delA D k).filter q = D.filter q := by
  induction D with
  | nil => cases h
  | cons p D ih =>
    obtain ⟨n, y⟩ := p
    simp only [List.map_cons, List.nodup_cons] at hn
    by_cases hk : n = k
    · subst hk
      simp only [delA, if_pos]
      rcases List.mem_cons.1 h with e | e
      · cases e; simp [hq]
      · exact absurd (List.mem_map.2 ⟨_, e, rfl⟩) hn.1
    · simp only [delA, if_neg hk]
      rcases List.mem_cons.1 h with e | e
      · cases e; exact absurd rfl hk
      · simp only [List.filter_cons, ih hn.2 e]
end
def ne0 (p : Txt × List Kept) : Bool := decide (p.2 ≠ [])
def fullK (I : Keys) : Keys := I.filter ne0
abbrev fFull1 : Value := .func (.func 55) #[] #[]
theorem mp_nodup {α : Type} {V : MRel α} {b : Nat} {D : List (Txt × α)} {l : List Asrt} {w : World} (h : Sat (mp V b D :: l) w) : (D.map (·.1)).Nodup := by
  obtain ⟨es, clock, _, f, hm⟩ := Sat.mp_len h
  exact hm.nd
theorem c_DeleteFunc (b : Nat) (D : Keys) : Does Tryd.prog 54 [.map (some b), fFull1].toArray [mp rV b D] (fun _ : Unit => .tuple ⟨[]⟩) (fun _ => True) (fun _ => [mp rV b (fullK D)]) := by
  refine spec_of Tryd.func54 rfl Tryd.ntmps54 rfl fun R w0 => ?_
  refine vc_know (fun w hs => mp_nodup hs) fun hnd => ?_
  repeat refine sy ?_
  refine so (op_range (V := rV) (D := D) KUnd.out rfl) fun r _ => ?_
  repeat refine sy ?_
  refine lp (ι := Keys × Keys × Option (Txt × List Kept)) (fun i => (i.1.map (·.1)).Nodup ∧ i.1.filter ne0 = fullK D ∧ ∀ p ∈ i.1, p ∉ i.2.1 → ne0 p = true) (fun _ => [(7, .pointer (some ⟨r, 0, none⟩)), (0, .map (some b)), (1, fFull1)]) (fun i => [itm rV b r i.1 i.2.1 i.2.2, R]) (fun i => i.2.1.length) (D, D, none) ⟨hnd, rfl, fun p h1 h2 => absurd h1 h2⟩ ?_
  rintro ⟨D', rest, last⟩ ⟨h1, h2, h3⟩
  dsimp only at h1 h2 h3 ⊢
  repeat refine sy ?_
  refine so (op_next (V := rV) (D := D') (rest := rest) (last := last) rfl) fun o hp => ?_
  rcases o with _ | ⟨k, x, v⟩
  · repeat refine sy ?_
    refine vc_cond_f rfl ?_
    repeat refine sy ?_
    have hr : rest = [] := hp
    subst hr
    have hD : D' = fullK D := by
      rw [← h2]; exact (List.filter_eq_self.2 (fun p hp => h3 p hp (by simp))).symm
    subst hD
    exact en () trivial (ht := Takes.cons (Ent.trans (Take.here (l := [R])) (star_mono itm_end (Ent.refl _))) (Takes.cons Take.here Takes.nil))
  · obtain ⟨hp1, hp2, hp3⟩ := hp
    repeat refine sy ?_
    refine vc_cond_t rfl ?_
    repeat refine sy ?_
    refine so (op_entry (V := rV) (k := k) (q := x) rfl) (fun v' _ => ?_) (Takes.cons (Take.there Take.here) Takes.nil)
    repeat refine sy ?_
    refine so (op_callv (first := []) (capt := []) (vs := [str k, v']) rfl (c_full1 k x v') KCall.out rfl) fun _ _ => ?_
    repeat refine sy ?_
    have hlen := delA_length hp1
    refine vc_cond_dec rfl (fun h => ?_) (fun h => ?_)
    · repeat refine sy ?_
      refine so0 (op_delete_itm (V := rV) (T := 63) rfl KUnd.out KUnd.out rfl rfl) (fun _ _ => ?_)
      repeat refine sy ?_
      have hq : ne0 (k, x) = false := by simp [ne0, h]
      have hdd : delA (delA rest k) k = delA rest k := delA_none hp3
      refine ag (delA D' k, delA rest k, none) ⟨delA_nodup h1, by rw [filter_delA h1 hp2 hq]; exact h2, fun p hp hnp => ?_⟩ hlen (ht := by rw [hdd]; exact Takes.cons Take.here (Takes.cons (by repeat (first | exact Take.here | apply Take.there)) Takes.nil))
      exact h3 p (delA_sub hp) (fun hm => hnp (mem_delA_of hm (key_of_mem_delA h1 hp)))
    · repeat refine sy ?_
      refine ag (D', delA rest k, some (k, x)) ⟨h1, h2, fun p hp hnp => ?_⟩ hlen
      by_cases hk : p.1 = k
      · obtain ⟨n, y⟩ := p
        simp only at hk
        subst hk
        have : y = x := eq_of_key h1 hp hp2
        subst this
        simp [ne0, h]
      · exact h3 p hp (fun hm => hnp (mem_delA_of hm hk))
theorem c_MClone (b : Nat) (D : Keys) : Does Tryd.prog 53 [.map (some b)].toArray [mp rV b D] (fun n : Nat => .map (some n)) (fun _ => True) (fun n => [mp rV b D, mp rV n D]) := by
  refine spec_of Tryd.func53 rfl Tryd.ntmps53 rfl fun R w0 => ?_
  repeat refine sy ?_
  refine vc_cond_f rfl ?_
  repeat refine sy ?_
  repeat refine sy ?_
  refine so (op_clone (V := rV) (D := D) (b := b) (T := 63) (fn := Tryd.f66) (by kernel_rfl) (by kernel_rfl) (by kernel_rfl) (by kernel_rfl) (by kernel_rfl) rfl) fun n _ => ?_
  repeat refine sy ?_
  refine sv ?_ (op_typeAssert_map rfl KUnd.out)
  repeat refine sy ?_
  exact en n trivial
theorem c_full (b : Nat) (D : Keys) : Does Tryd.prog 37 [.map (some b)].toArray [mp rV b D] (fun n : Nat => .map (some n)) (fun _ => True) (fun n => [mp rV b D, mp rV n (fullK D)]) := by
  refine spec_of Tryd.func37 rfl Tryd.ntmps37 rfl fun R w0 => ?_
  repeat refine sy ?_
  refine ca (c_MClone b D) fun n _ => ?_
  repeat refine sy ?_
  refine cd (c_DeleteFunc n D) ?_
  repeat refine sy ?_
  exact en n trivial
end Go.Proofs.YtikodfclemgfoaaDoor
