/- Contracts 11: two models have the same. -/
import Derived.Test.YtikodfclemgfoaaDoorSbK10
set_option linter.all false
set_option linter.unusedVariables false
set_option linter.unusedSimpArgs false
namespace Go.Proofs.YtikodfclemgfoaaDoor
open Go.Sb
attribute [local irreducible] Go.wpList Go.Code.wp Go.Exit.then Go.Exit.inBlock Go.Sb.Ends Go.Sb.VC Go.Sb.VA Go.Sb.OpV Go.Sb.OpE Go.Sb.OpD
set_option maxHeartbeats 1000000
theorem nodup_le {l m : List Txt} (hn : l.Nodup) (hs : ∀ x ∈ l, x ∈ m) : l.length ≤ m.length := by
  induction l generalizing m with
  | nil => simp
  | cons x l ih =>
    simp only [List.nodup_cons] at hn
    have hx : x ∈ m := hs x (by simp)
    have := ih (m := m.erase x) hn.2 (fun y hy => by
      have hne : y ≠ x := fun e => hn.1 (e ▸ hy)
      exact (List.mem_erase_of_ne hne).2 (hs y (by simp [hy])))
    rw [List.length_erase_of_mem hx] at this
    have : 0 < m.length := List.length_pos_of_mem hx
    simp only [List.length_cons]; omega
theorem sub_back {l m : List Txt} (hn : l.Nodup) (hs : ∀ x ∈ l, x ∈ m) (hl : m.length ≤ l.length) : ∀ x ∈ m, x ∈ l := by
  intro x hx
  refine Classical.byContradiction fun h => ?_
  have := nodup_le (l := x :: l) (m := m) (by simp [h, hn]) (by
    intro y hy
    rcases List.mem_cons.1 hy with rfl | h'
    · exact hx
    · exact hs y h')
  simp only [List.length_cons] at this; omega
section
variable {α : Type} {D D' : List (Txt × α)} {k : Txt}
theorem mem_keys : k ∈ D.map (·.1) ↔ (findA D k).isSome = true := by
  constructor
  · intro h
    cases hf : findA D k with
    | none => exact absurd h (findA_none.1 hf)
    | some x => rfl
  · intro h
    refine Classical.byContradiction fun hm => ?_
    rw [findA_none.2 hm] at h; cases h
end
theorem fullK_nodup {I : Keys} (hn : (I.map (·.1)).Nodup) : ((fullK I).map (·.1)).Nodup := hn.sublist ((List.filter_sublist).map _)
theorem findA_fullK {I : Keys} {k : Txt} (hn : (I.map (·.1)).Nodup) : findA (fullK I) k = if (findA I k).getD [] = [] then none else findA I k := by
  induction I with
  | nil => rfl
  | cons p I ih =>
    obtain ⟨n, y⟩ := p
    simp only [List.map_cons, List.nodup_cons] at hn
    have ih' := ih hn.2
    unfold fullK at ih' ⊢
    by_cases hk : n = k
    · subst hk
      have hno : findA I n = none := findA_none.2 hn.1
      by_cases hy : y = []
      · subst hy
        simp [List.filter_cons, ne0, findA, ih', hno]
      · simp [List.filter_cons, ne0, findA, hy]
    · by_cases hy : y = []
      · subst hy
        simp [List.filter_cons, ne0, findA, hk, ih']
      · simp [List.filter_cons, ne0, findA, hk, hy, ih']
theorem eqM_iff {D D' : Keys} (hn : (D.map (·.1)).Nodup) (hn' : (D'.map (·.1)).Nodup) : eqM D D' = true ↔ ∀ k, findA D k = findA D' k := by
  unfold eqM
  simp only [Bool.and_eq_true, decide_eq_true_eq, List.all_eq_true]
  constructor
  · rintro ⟨h1, h2⟩ k
    have hs : ∀ x ∈ D.map (·.1), x ∈ D'.map (·.1) := by
      intro x hx
      obtain ⟨p, hp, rfl⟩ := List.mem_map.1 hx
      rw [mem_keys, h2 p hp]; rfl
    have hb := sub_back hn hs (by simp [h1])
    cases hf : findA D k with
    | some x => exact (h2 _ (findA_mem hf)).symm
    | none =>
      cases hf' : findA D' k with
      | none => rfl
      | some y =>
        have : k ∈ D.map (·.1) := hb k (mem_keys.2 (by rw [hf']; rfl))
        rw [mem_keys, hf] at this; cases this
  · intro h
    have e : ∀ x, x ∈ D.map (·.1) ↔ x ∈ D'.map (·.1) := fun x => by rw [mem_keys, mem_keys, h]
    have h1 := nodup_le hn (fun x hx => (e x).1 hx)
    have h2 := nodup_le hn' (fun x hx => (e x).2 hx)
    simp only [List.length_map] at h1 h2
    refine ⟨by omega, fun p hp => ?_⟩
    rw [← h]; exact findA_of_mem hn hp
theorem sameK_iff {I I' : Keys} (hn : (I.map (·.1)).Nodup) (hn' : (I'.map (·.1)).Nodup) : sameK I I' = true ↔ ∀ k, (findA I k).getD [] = (findA I' k).getD [] := by
  unfold sameK
  rw [eqM_iff (fullK_nodup hn) (fullK_nodup hn')]
  constructor
  · intro h k
    have := h k
    rw [findA_fullK hn, findA_fullK hn'] at this
    split at this <;> split at this
    · rename_i a b; rw [a, b]
    · rename_i a b; rw [← this] at b; exact absurd rfl b
    · rename_i a b; rw [this] at a; exact absurd rfl a
    · rw [this]
  · intro h k
    rw [findA_fullK hn, findA_fullK hn', h k]
    split
    · rfl
    · rename_i hk
      have h' := h k
      cases e1 : findA I k <;> cases e2 : findA I' k <;> simp_all
/-- Two models have the same. -/
def SameSt (σ σ' : St) : Prop := ∀ b, σ.has b = σ'.has b ∧ ∀ k, σ.v b k = σ'.v b k
theorem eqO_iff {D D' : Rows0} {σ σ' : St} (hr : Rep D σ) (hr' : Rep D' σ') (hn : (D.map (·.1)).Nodup) (hn' : (D'.map (·.1)).Nodup) (hi : ∀ p ∈ D, (p.2.2.map (·.1)).Nodup) (hi' : ∀ p ∈ D', (p.2.2.map (·.1)).Nodup) : eqO D D' = true ↔ SameSt σ σ' := by
  unfold eqO
  simp only [Bool.and_eq_true, decide_eq_true_eq, List.all_eq_true]
  constructor
  · rintro ⟨h1, h2⟩
    have hs : ∀ x ∈ D.map (·.1), x ∈ D'.map (·.1) := by
      intro x hx
      obtain ⟨p, hp, rfl⟩ := List.mem_map.1 hx
      rw [mem_keys]
      have := h2 p hp
      cases hf : findA D' p.1 with
      | none => rw [hf] at this; cases this
      | some y => rfl
    have hb := sub_back hn hs (by simp [h1])
    intro b
    have hbb : (findA D b).isSome = (findA D' b).isSome := by
      rw [Bool.eq_iff_iff, ← mem_keys, ← mem_keys]; exact ⟨hs b, hb b⟩
    refine ⟨by rw [hr.has, hr'.has, hbb], fun k => ?_⟩
    rw [hr.v, hr'.v, verOf, verOf]
    cases hf : findA D b with
    | none =>
      cases hf' : findA D' b with
      | none => rfl
      | some y => rw [hf, hf'] at hbb; cases hbb
    | some p =>
      cases hf' : findA D' b with
      | none => rw [hf, hf'] at hbb; cases hbb
      | some q =>
        have := h2 _ (findA_mem hf)
        simp only [hf'] at this
        exact (sameK_iff (hi _ (findA_mem hf)) (hi' _ (findA_mem hf'))).1 this k
  · intro h
    have hb : ∀ b, (findA D b).isSome = (findA D' b).isSome := fun b => by rw [← hr.has, ← hr'.has]; exact (h b).1
    have e : ∀ x, x ∈ D.map (·.1) ↔ x ∈ D'.map (·.1) := fun x => by rw [mem_keys, mem_keys, hb]
    have h1 := nodup_le hn (fun x hx => (e x).1 hx)
    have h2 := nodup_le hn' (fun x hx => (e x).2 hx)
    simp only [List.length_map] at h1 h2
    refine ⟨by omega, fun p hp => ?_⟩
    have hf : findA D p.1 = some p.2 := findA_of_mem hn hp
    cases hf' : findA D' p.1 with
    | none => have := hb p.1; rw [hf, hf'] at this; cases this
    | some q =>
      refine (sameK_iff (hi _ hp) (hi' _ (findA_mem hf'))).2 fun k => ?_
      have := (h p.1).2 k
      rw [hr.v, hr'.v, verOf, verOf, hf, hf'] at this
      exact this
theorem inns_nodup {D : Rows0} : ∀ {h f : PHeap}, (inns D).holds h f → ∀ p ∈ D, (p.2.2.map (·.1)).Nodup := by
  induction D with
  | nil => intro h f _ p hp; cases hp
  | cons q D ih =>
    rintro h f ⟨h1, h2, _, _, _, ⟨es, clock, _, hm⟩, h4⟩ p hp
    rcases List.mem_cons.1 hp with rfl | hp
    · exact hm.nd
    · exact ih h4 p hp
theorem Sat.inns_nodup {D : Rows0} {l : List Asrt} {w : World} (h : Sat (inns D :: l) w) : ∀ p ∈ D, (p.2.2.map (·.1)).Nodup := by
  obtain ⟨a, f, _, _, _, h1, h2, _, _, _, h3, _⟩ := h
  exact Go.Proofs.YtikodfclemgfoaaDoor.inns_nodup h3
theorem c_Same (m m' : Nat) (σ σ' : St) : Does Tryd.prog 15 [.pointer (some ⟨m, 0, none⟩), .pointer (some ⟨m', 0, none⟩)].toArray [Mdl m σ, Mdl m' σ'] (fun r : Bool => .bool r) (fun r => r = true ↔ SameSt σ σ') (fun _ => [Mdl m σ, Mdl m' σ']) := by
  refine spec_of Tryd.func15 rfl Tryd.ntmps15 rfl fun R w0 => ?_
  refine vc_mdl fun mb D hr hn => ?_
  refine vc_take (A := Mdl m' σ') (by repeat (first | exact Take.here | apply Take.there)) ?_
  refine vc_mdl fun mb' D' hr' hn' => ?_
  refine vc_take (A := inns D') (by repeat (first | exact Take.here | apply Take.there)) ?_
  refine vc_know (fun w hs => Sat.inns_nodup hs) fun hi' => ?_
  refine vc_take (A := inns D) (by repeat (first | exact Take.here | apply Take.there)) ?_
  refine vc_know (fun w hs => Sat.inns_nodup hs) fun hi => ?_
  repeat refine sy ?_
  refine vc_cond_f rfl ?_
  repeat refine sy ?_
  refine s_alloc (fun bx => ?_)
  repeat refine sy ?_
  repeat refine sy ?_
  refine s_alloc (fun by' => ?_)
  repeat refine sy ?_
  refine vd_start ?_
  repeat refine dq ?_
  refine de (op_call (c_OMapsEq mb mb' bx by' D D') KCall.out rfl) (fun _ _ => ⟨?_, ?_⟩)
  · exact aq
  refine dv ⟨?_, ?_⟩
  · exact aq
  refine va_end ?_
  repeat refine sy ?_
  exact en (eqO D D') (eqO_iff hr hr' hn hn' hi hi') (ht := Takes.cons (take_mdl hr hn) (Takes.cons (take_mdl hr' hn') (Takes.cons (by repeat (first | exact Take.here | apply Take.there)) Takes.nil)))
end Go.Proofs.YtikodfclemgfoaaDoor
