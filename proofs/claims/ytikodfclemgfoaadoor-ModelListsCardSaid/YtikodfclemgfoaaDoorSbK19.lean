/- Contracts 19: names at every text; Head; Copy. -/
import Derived.Test.YtikodfclemgfoaaDoorSbK15
import Derived.Test.YtikodfclemgfoaaDoorSbK18
set_option linter.all false
set_option linter.unusedVariables false
namespace Go.Proofs.YtikodfclemgfoaaDoor
open Go.Sb
attribute [local irreducible] Go.wpList Go.Code.wp Go.Exit.then Go.Exit.inBlock Go.Sb.Ends Go.Sb.VC Go.Sb.VA Go.Sb.OpV Go.Sb.OpE Go.Sb.OpD
set_option maxHeartbeats 1000000
theorem nb_all (b : Txt) (h : b.length ≤ 1000000) : NB b (bucketOk b) := c_Bucket b h
def keyV (k : Txt) : Bool := keyOk k (valid k)
theorem nk_all (k : Txt) (h : k.length ≤ 1000000) : NK k (keyV k) := c_Key k h (valid k) (c_Valid k h)
theorem c_Head (m : Nat) (σ : St) (b k : Txt) (id : Int) (ob ok : Bool) (hb : NB b ob) (hk : NK k ok) (hσ : ∀ x ∈ σ.v b k, x.data.length ≤ 65536) :
    Does Tryd.prog 13 [.pointer (some ⟨m, 0, none⟩), str b, str k, .int .i64 id].toArray [Mdl m σ, TB]
      (fun _ : Unit => .tuple ⟨[.agg ⟨(getR σ b k id ob ok).1.cells⟩, .int .i64 (getR σ b k id ob ok).2.2]⟩) (fun _ => True) (fun _ => [Mdl m σ]) := by
  refine spec_of Tryd.func13 rfl Tryd.ntmps13 rfl fun R w0 => ?_
  repeat refine sy ?_
  refine s_alloc (fun b8 => ?_)
  repeat refine sy ?_
  refine ca (c_Get m σ b k id ob ok hb hk hσ) fun p _ => ?_
  obtain ⟨a, c⟩ := p
  repeat refine sy ?_
  refine s_alloc (fun b10 => ?_)
  repeat refine sy ?_
  exact en () trivial
theorem Sat.head_ent {A B : Asrt} {l : List Asrt} {w : World} (h : Ent A B) (hs : Sat (A :: l) w) : Sat (B :: l) w := hs.ent (star_mono h (Ent.refl _))
/-! ### Copy -/
/-- Two keys' rows hold the same. -/
def SameI (I J : Keys) : Prop := ∀ j, (findA I j).getD [] = (findA J j).getD []
def CopInv (D D2 rest : Rows0) : Prop :=
  (D2.map (·.1)).Nodup ∧ D2.length + rest.length = D.length ∧ ∀ k, (k ∈ rest.map (·.1) → findA D2 k = none) ∧
    (k ∉ rest.map (·.1) → (findA D k = none ∧ findA D2 k = none) ∨ ∃ p q, findA D k = some p ∧ findA D2 k = some q ∧ SameI p.2 q.2)
theorem CopInv.begin {D : Rows0} : CopInv D [] D := by
  refine ⟨List.nodup_nil, by simp, fun k => ⟨fun _ => rfl, fun h => .inl ⟨findA_none.2 h, rfl⟩⟩⟩
theorem CopInv.rep {D D2 : Rows0} {σ : St} (hr : Rep D σ) (h : CopInv D D2 []) : Rep D2 σ := by
  obtain ⟨_, h2, h3⟩ := h
  refine ⟨by rw [hr.n]; simpa using h2.symm, fun b => ?_, fun b k => ?_⟩
  · rw [hr.has]
    rcases (h3 b).2 (by simp) with ⟨a, b⟩ | ⟨p, q, a, b, _⟩
    · rw [a, b]
    · rw [a, b]; rfl
  · rw [hr.v, verOf, verOf]
    rcases (h3 b).2 (by simp) with ⟨a, b⟩ | ⟨p, q, a, b, c⟩
    · rw [a, b]
    · rw [a, b]; exact c k
theorem delA_len {α : Type} {D : List (Txt × α)} {k : Txt} {x : α} (h : (k, x) ∈ D) : (delA D k).length + 1 = D.length := by
  induction D with
  | nil => cases h
  | cons p D ih =>
    obtain ⟨n, y⟩ := p
    by_cases hn : n = k
    · simp [delA, hn]
    · simp only [delA, if_neg hn, List.length_cons]
      rcases List.mem_cons.1 h with e | e
      · cases e; exact absurd rfl hn
      · have := ih e; omega
theorem mem_delA_keys {α : Type} {D : List (Txt × α)} {k j : Txt} (hne : j ≠ k) : j ∈ (delA D k).map (·.1) ↔ j ∈ D.map (·.1) := by
  constructor
  · intro h
    obtain ⟨p, hp, rfl⟩ := List.mem_map.1 h
    exact List.mem_map.2 ⟨p, delA_sub hp, rfl⟩
  · intro h
    obtain ⟨p, hp, rfl⟩ := List.mem_map.1 h
    exact List.mem_map.2 ⟨p, mem_delA_of hp hne, rfl⟩
theorem CopInv.step {D D2 rest : Rows0} {k : Txt} {p q : Nat × Keys} (h : CopInv D D2 rest) (hk : (k, p) ∈ rest) (hkk : k ∉ (delA rest k).map (·.1)) (hf : findA D k = some p) (hs : SameI p.2 q.2) : CopInv D (setA D2 k q) (delA rest k) := by
  obtain ⟨h1, h2, h3⟩ := h
  have hn : findA D2 k = none := (h3 k).1 (List.mem_map.2 ⟨_, hk, rfl⟩)
  have hl := delA_len hk
  refine ⟨setA_nodup h1, by rw [setA_length, hn]; simp; omega, fun j => ?_⟩
  rw [findA_setA]
  by_cases hj : k = j
  · subst hj
    refine ⟨fun hm => absurd hm hkk, fun _ => .inr ⟨p, q, hf, by simp, hs⟩⟩
  · rw [if_neg hj, mem_delA_keys (fun e => hj e.symm)]
    exact h3 j
def InInv (I J rest : Keys) : Prop := ∀ j, findA J j = if j ∈ rest.map (·.1) then none else findA I j
theorem InInv.begin {I : Keys} : InInv I [] I := by
  intro j
  split
  · rfl
  · rename_i h; exact (findA_none.2 h).symm
theorem InInv.step {I J rest : Keys} {k : Txt} {x : List Kept} (h : InInv I J rest) (hkk : k ∉ (delA rest k).map (·.1)) (hf : findA I k = some x) : InInv I (setA J k x) (delA rest k) := by
  intro j
  rw [findA_setA]
  by_cases hj : k = j
  · subst hj; rw [if_pos rfl, if_neg hkk, hf]
  · have hj' : j ≠ k := fun e => hj e.symm
    rw [if_neg hj, h j]
    by_cases hm : j ∈ rest.map (·.1)
    · rw [if_pos hm, if_pos ((mem_delA_keys hj').2 hm)]
    · rw [if_neg hm, if_neg (fun e => hm ((mem_delA_keys hj').1 e))]
theorem InInv.same {I J : Keys} (h : InInv I J []) : SameI I J := by
  intro j; rw [h j]; simp
theorem setA_setA {α : Type} {D : List (Txt × α)} {k : Txt} {x y : α} : setA (setA D k x) k y = setA D k y := by
  induction D with
  | nil => simp [setA]
  | cons p D ih =>
    obtain ⟨n, z⟩ := p
    by_cases hn : n = k
    · simp [setA, hn]
    · simp [setA, hn, ih]
theorem c_Copy (m : Nat) (σ : St) (hσ : Bound σ) : Does Tryd.prog 16 [.pointer (some ⟨m, 0, none⟩)].toArray [Mdl m σ] (fun m2 : Nat => .pointer (some ⟨m2, 0, none⟩)) (fun _ => True) (fun m2 => [Mdl m σ, Mdl m2 σ]) := by
  refine spec_of Tryd.func16 rfl Tryd.ntmps16 rfl fun R w0 => ?_
  repeat refine sy ?_
  refine vc_cond_f rfl ?_
  repeat refine sy ?_
  refine ca c_New fun m2 _ => ?_
  refine vc_mdl fun mb2 E hE hEn => ?_
  have hE0 : E = [] := by have := hE.n; exact List.length_eq_zero_iff.1 this.symm
  subst hE0
  refine vc_take (A := Mdl m σ) (by repeat (first | exact Take.here | apply Take.there)) ?_
  refine vc_mdl fun mb D hr hnd => ?_
  repeat refine sy ?_
  refine so (op_range (V := Vo) (D := D) KUnd.out rfl) fun r _ => ?_
  repeat refine sy ?_
  refine lp (ι := Rows0 × Rows0 × Option (Txt × (Nat × Keys))) (fun i => CopInv D i.1 i.2.1) (fun _ => [(15, .pointer (some ⟨r, 0, none⟩)), (3, .pointer (some ⟨m2, 0, none⟩))])
    (fun i => [itm Vo mb r D i.2.1 i.2.2, blk m 61 [.map (some mb)], inns D, blk m2 61 [.map (some mb2)], mp Vo mb2 i.1, inns i.1, R]) (fun i => i.2.1.length) ([], D, none) CopInv.begin ?_
  rintro ⟨D2, rest, last⟩ hI
  dsimp only at hI ⊢
  repeat refine sy ?_
  refine so (op_next (V := Vo) (D := D) (rest := rest) (last := last) rfl) fun o hp => ?_
  rcases o with _ | ⟨k, p, v⟩
  · repeat refine sy ?_
    refine vc_cond_f rfl ?_
    repeat refine sy ?_
    have hr0 : rest = [] := hp
    subst hr0
    refine vc_take (A := itm Vo mb r D [] none) (by repeat (first | exact Take.here | apply Take.there)) ?_
    refine vc_head itm_end ?_
    exact en m2 trivial (ht := Takes.cons (take_mdl (D := D) (mb := mb) hr hnd) (Takes.cons (take_mdl (D := D2) (mb := mb2) (hI.rep hr) hI.1) Takes.one))
  · obtain ⟨hp1, hp2, hp3⟩ := hp
    have hlen := delA_length hp1
    have hfk : findA D k = some p := findA_of_mem hnd hp2
    have hn2 : findA D2 k = none := (hI.2.2 k).1 (List.mem_map.2 ⟨_, hp1, rfl⟩)
    obtain ⟨ib, I⟩ := p
    repeat refine sy ?_
    refine vc_cond_t rfl ?_
    repeat refine sy ?_
    refine so (op_entry (V := Vo) (k := k) (q := (ib, I)) rfl) (fun v' _ => ?_) (Takes.cons (Take.there Take.here) Takes.nil)
    refine vc_know (p := v' = .map (some ib)) (fun w hs => Sat.rof hs) fun hv => ?_
    subst hv
    repeat refine sy ?_
    refine so (op_makeMap (V := rV) rfl) fun ib2 _ => ?_
    repeat refine sy ?_
    refine so0 (op_mapUpdate (V := Vo) (D := D2) (b := mb2) (q := (ib2, [])) KUnd.out KUnd.out rfl rfl rfl) (fun _ _ => ?_) (Takes.cons (by repeat (first | exact Take.here | apply Take.there)) (Takes.cons take_hv Takes.nil))
    refine vc_take (A := inns D) (by repeat (first | exact Take.here | apply Take.there)) ?_
    refine vc_inns_out hfk ?_
    repeat refine sy ?_
    refine so (op_range (V := rV) (D := I) KUnd.out rfl) fun r2 _ => ?_
    repeat refine sy ?_
    have hset : findA (setA D2 k (ib2, ([] : Keys))) k = some (ib2, []) := by rw [findA_setA]; simp
    have hdel : delA D2 k = D2 := delA_none (findA_none.1 hn2)
    refine vc_know (p := (I.map (·.1)).Nodup) (fun w hs => mp_nodup (Sat.head_ent itm_end hs)) fun hIn => ?_
    refine lp (ι := Keys × Keys × Option (Txt × List Kept)) (fun i => InInv I i.1 i.2.1) (fun _ => [(28, .pointer (some ⟨r2, 0, none⟩)), (15, .pointer (some ⟨r, 0, none⟩)), (3, .pointer (some ⟨m2, 0, none⟩)), (4, str k)])
      (fun i => [itm rV ib r2 I i.2.1 i.2.2, inns (delA D k), itm Vo mb r D (delA rest k) (some (k, (ib, I))), blk m 61 [.map (some mb)], blk m2 61 [.map (some mb2)], mp Vo mb2 (setA D2 k (ib2, [])), mp rV ib2 i.1, inns D2, R]) (fun i => i.2.1.length) ([], I, none) InInv.begin ?_
    rintro ⟨J, rest2, last2⟩ hJ
    dsimp only at hJ ⊢
    repeat refine sy ?_
    refine so (op_next (V := rV) (D := I) (rest := rest2) (last := last2) rfl) fun o hp' => ?_
    rcases o with _ | ⟨j, x, vx⟩
    · repeat refine sy ?_
      refine vc_cond_f rfl ?_
      repeat refine sy ?_
      have hr0 : rest2 = [] := hp'
      subst hr0
      refine vc_take (A := itm rV ib r2 I [] none) (by repeat (first | exact Take.here | apply Take.there)) ?_
      refine vc_head itm_end ?_
      have hstep := CopInv.step (q := (ib2, J)) hI hp1 hp3 hfk hJ.same
      have hmp : Ent (mp Vo mb2 (setA D2 k (ib2, []))) (mp Vo mb2 (setA D2 k (ib2, J))) := by
        have := mp_set (mb := mb2) (I' := J) hset
        rwa [setA_setA] at this
      exact ag (setA D2 k (ib2, J), delA rest k, some (k, (ib, I))) hstep hlen (ht := Takes.cons (by repeat (first | exact Take.here | apply Take.there)) (Takes.cons (by repeat (first | exact Take.here | apply Take.there)) (Takes.cons (take_inns_same (p := (ib, I)) hfk) (Takes.cons (by repeat (first | exact Take.here | apply Take.there)) (Takes.cons (Ent.trans (by repeat (first | exact Take.here | apply Take.there)) (star_mono hmp (Ent.refl _))) (Takes.cons (take_inns (p := (ib2, J)) (by rw [hdel]; exact Takes.cons (by repeat (first | exact Take.here | apply Take.there)) (Takes.cons (by repeat (first | exact Take.here | apply Take.there)) Takes.nil))) Takes.one))))))
    · obtain ⟨hq1, hq2, hq3⟩ := hp'
      have hlen2 := delA_length hq1
      have hfj : findA I j = some x := findA_of_mem hIn hq2
      have hx : x.length ≤ 64 := by
        have := hσ k j
        rw [hr.v, verOf, hfk] at this
        simpa [hfj] using this
      repeat refine sy ?_
      refine vc_cond_t rfl ?_
      repeat refine sy ?_
      refine so (op_entry (V := rV) (k := j) (q := x) rfl) (fun v' _ => ?_) (Takes.cons (Take.there Take.here) Takes.nil)
      refine vc_hv fun a c hc => ?_
      subst hc
      repeat refine sy ?_
      refine vd_start ?_
      repeat refine dq ?_
      refine de (op_call (c_KClone a c x (by omega)) KCall.out rfl) (fun p _ => ⟨?_, ?_⟩)
      · exact aq
      refine de0 (op_put KUnd.out KUnd.out rfl rfl rfl) (fun _ _ => ⟨?_, ?_⟩)
      · exact aq
      refine va_end ?_
      repeat refine sy ?_
      exact ag (setA J j x, delA rest2 j, some (j, x)) (hJ.step hq3 hfj) hlen2
end Go.Proofs.YtikodfclemgfoaaDoor
