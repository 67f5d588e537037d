/- Contracts 33: what lists tell (plain). -/
import Derived.Test.YtikodfclemgfoaaDoorSbK32
set_option linter.all false
set_option linter.unusedVariables false
namespace Go.Proofs.YtikodfclemgfoaaDoor
open Go.Sb
set_option maxHeartbeats 2000000
set_option maxRecDepth 10000
theorem findA_mem {α : Type} {D : List (Txt × α)} {k : Txt} {x : α} (h : findA D k = some x) : (k, x) ∈ D := by
  induction D with
  | nil => cases h
  | cons p D ih =>
    obtain ⟨j, y⟩ := p
    simp only [findA] at h
    split at h
    · rename_i hj; subst hj; cases h; simp
    · exact List.mem_cons_of_mem _ (ih h)
theorem Lies.at_ {σ : St} {b : Txt} {I : Keys} (h : Lies σ b I) {p : Txt × List Kept} (hp : p ∈ I) : p.2 = σ.v b p.1 := by
  rw [h.2, findA_of_mem h.1 hp]; rfl
theorem entsI_len {σ : St} {b : Txt} : ∀ {I : Keys}, (∀ p ∈ I, p.2 = σ.v b p.1) → (entsI I).length = ((I.map (·.1)).map fun k => (σ.v b k).length).sum
  | [], _ => rfl
  | p :: I, h => by
    have h1 := h p (by simp)
    have h2 := entsI_len (I := I) fun q hq => h q (by simp [hq])
    simp only [entsI, List.flatMap_cons, List.length_append, entsK_len, List.map_cons, List.sum_cons] at h2 ⊢
    rw [h1, h2]
theorem Inv.small {σ : St} {n : Nat} (h : Inv σ n) (hn : n ≤ 1000000) : Small σ tABC := by
  intro I hI
  rw [entsI_len (fun p hp => hI.at_ hp)]
  exact Nat.le_trans (h.total _ hI.1) hn
theorem Inv.few {σ : St} {n : Nat} (h : Inv σ n) {I : Keys} (hI : Lies σ tABC I) : (entsI I).length ≤ n := by
  rw [entsI_len (fun p hp => hI.at_ hp)]
  exact h.total _ hI.1
theorem mem_entsI {σ : St} {b : Txt} {I : Keys} (h : Lies σ b I) {e : Entr} : e ∈ entsI I ↔ ∃ i, i < (σ.v b e.key).length ∧ e = entAt e.key (σ.v b e.key) i := by
  unfold entsI entsK
  rw [List.mem_flatMap]
  constructor
  · rintro ⟨p, hp, he⟩
    obtain ⟨i, hi, rfl⟩ := List.mem_map.1 he
    have h1 := h.at_ hp
    rw [List.mem_range] at hi
    refine ⟨i, ?_, ?_⟩
    · show i < (σ.v b p.1).length
      rw [← h1]; exact hi
    · show entAt p.1 p.2 i = entAt p.1 (σ.v b p.1) i
      rw [← h1]
  · rintro ⟨i, hi, he⟩
    have hf : findA I e.key = some (σ.v b e.key) := by
      have h2 := h.2 e.key
      cases hc : findA I e.key with
      | none => rw [hc] at h2; rw [h2] at hi; simp at hi
      | some x => rw [hc] at h2; rw [h2]; rfl
    refine ⟨_, findA_mem hf, ?_⟩
    rw [List.mem_map]
    exact ⟨i, List.mem_range.2 hi, he.symm⟩
theorem rises_at {l : List Kept} (h : Rises l) {i j : Nat} {x y : Kept} (hx : l[i]? = some x) (hy : l[j]? = some y) (hij : i < j) : x.v.id < y.v.id := by
  obtain ⟨hi, rfl⟩ := List.getElem?_eq_some_iff.1 hx
  obtain ⟨hj, rfl⟩ := List.getElem?_eq_some_iff.1 hy
  exact List.pairwise_iff_getElem.1 h.1 i j hi hj hij
theorem rises_inj {l : List Kept} (h : Rises l) {i j : Nat} {x y : Kept} (hx : l[i]? = some x) (hy : l[j]? = some y) (he : x.v.id = y.v.id) : i = j := by
  rcases Nat.lt_trichotomy i j with h1 | h1 | h1
  · have := rises_at h hx hy h1; omega
  · exact h1
  · have := rises_at h hy hx h1; omega
/-- An entry of one key and one number is one. -/
theorem ent_tie {σ : St} {n : Nat} (h : Inv σ n) {I J : Keys} (hI : Lies σ tABC I) (hJ : Lies σ tABC J) {e f : Entr} (he : e ∈ entsI I) (hf : f ∈ entsI J) (hk : e.key = f.key) (hid : e.v.id = f.v.id) : e = f := by
  obtain ⟨i, hi, he⟩ := (mem_entsI hI).1 he
  obtain ⟨j, hj, hf⟩ := (mem_entsI hJ).1 hf
  rw [← hk] at hf hj
  obtain ⟨x, hx⟩ := get_some hi
  obtain ⟨y, hy⟩ := get_some hj
  have e1 : e.v = x.v := by
    have := congrArg Entr.v he
    rw [this]; simp [entAt, List.getD_eq_getElem?_getD, hx]
  have f1 : f.v = y.v := by
    have := congrArg Entr.v hf
    rw [this]; simp [entAt, List.getD_eq_getElem?_getD, hy]
  have hij : i = j := rises_inj (h.rises e.key) hx hy (by rw [← e1, ← f1]; exact hid)
  subst hij
  rw [he, hf]
theorem entsK_nodup {k : Txt} {l : List Kept} (h : Rises l) : (entsK k l).Nodup := by
  unfold entsK
  refine (List.pairwise_map.2 ?_)
  refine List.Pairwise.imp_of_mem ?_ (List.nodup_range (n := l.length))
  intro i j hi hj hij he
  rw [List.mem_range] at hi hj
  obtain ⟨x, hx⟩ := get_some hi
  obtain ⟨y, hy⟩ := get_some hj
  have := congrArg (fun e : Entr => e.v.id) he
  simp only [entAt, List.getD_eq_getElem?_getD, hx, hy, Option.getD_some] at this
  exact hij (rises_inj h hx hy this)
theorem entsI_nodup {σ : St} {n : Nat} (h : Inv σ n) : ∀ {I : Keys}, (I.map (·.1)).Nodup → (∀ p ∈ I, p.2 = σ.v tABC p.1) → (entsI I).Nodup
  | [], _, _ => List.Pairwise.nil
  | p :: I, hn, hp => by
    simp only [List.map_cons, List.nodup_cons] at hn
    show (entsK p.1 p.2 ++ entsI I).Nodup
    refine List.nodup_append.2 ⟨?_, entsI_nodup h hn.2 fun q hq => hp q (by simp [hq]), ?_⟩
    · refine entsK_nodup ?_
      rw [hp p (by simp)]; exact h.rises _
    · intro e he f hf hef
      subst hef
      obtain ⟨i, _, rfl⟩ := List.mem_map.1 he
      obtain ⟨q, hq, hf⟩ := List.mem_flatMap.1 hf
      obtain ⟨j, _, hj⟩ := List.mem_map.1 hf
      have : q.1 = p.1 := congrArg Entr.key hj
      exact hn.1 (this ▸ List.mem_map.2 ⟨q, hq, rfl⟩)
theorem Lies.perm {σ : St} {n : Nat} (h : Inv σ n) {I J : Keys} (hI : Lies σ tABC I) (hJ : Lies σ tABC J) : (entsI I).Perm (entsI J) := by
  refine (List.perm_ext_iff_of_nodup (entsI_nodup h hI.1 fun p hp => hI.at_ hp) (entsI_nodup h hJ.1 fun p hp => hJ.at_ hp)).2 fun e => ?_
  rw [mem_entsI hI, mem_entsI hJ]
/-- Rows in order, of the same elements, ties being one: one row. -/
theorem srt_uniq {α : Type} {lt : α → α → Bool} : ∀ {A B : List α}, Srt lt A → Srt lt B → A.Perm B → (∀ x ∈ A, ∀ y ∈ A, lt x y = false → lt y x = false → x = y) → A = B
  | [], B, _, _, hp, _ => by rw [List.nil_perm.1 hp]
  | x :: A, [], _, _, hp, _ => by simp at hp
  | x :: A, y :: B, sA, sB, hp, ht => by
    have hy : y ∈ x :: A := hp.mem_iff.2 (by simp)
    have hx : x ∈ y :: B := hp.mem_iff.1 (by simp)
    have e : x = y := by
      rcases List.mem_cons.1 hy with h | h
      · exact h.symm
      rcases List.mem_cons.1 hx with h' | h'
      · exact h'
      exact ht x (by simp) y hy ((List.pairwise_cons.1 sB).1 x h') ((List.pairwise_cons.1 sA).1 y h)
    subst e
    rw [srt_uniq (List.pairwise_cons.1 sA).2 (List.pairwise_cons.1 sB).2 (List.Perm.cons_inv hp) fun u hu v hv => ht u (by simp [hu]) v (by simp [hv])]
theorem lists_eq {σ : St} {n : Nat} (h : Inv σ n) {I J : Keys} (hI : Lies σ tABC I) (hJ : Lies σ tABC J) {A B : List Entr} (pA : A.Perm (entsI I)) (pB : B.Perm (entsI J)) (sA : SrtE A) (sB : SrtE B) : A = B := by
  refine srt_uniq sA sB (pA.trans ((Lies.perm h hI hJ).trans pB.symm)) fun x hx y hy h1 h2 => ?_
  obtain ⟨h3, h4⟩ := ltE_tie h1 h2
  exact ent_tie h hI hI (pA.mem_iff.1 hx) (pA.mem_iff.1 hy) h3 h4
end Go.Proofs.YtikodfclemgfoaaDoor
