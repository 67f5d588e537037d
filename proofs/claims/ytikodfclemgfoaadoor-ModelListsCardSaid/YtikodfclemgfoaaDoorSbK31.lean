/- Contracts 31: Model.part, Model.Versions, Model.Objects. -/
import Derived.Test.YtikodfclemgfoaaDoorSbK30
set_option linter.all false
set_option linter.unusedVariables false
namespace Go.Proofs.YtikodfclemgfoaaDoor
open Go.Sb
attribute [local irreducible] Go.wpList Go.Code.wp Go.Exit.then Go.Exit.inBlock Go.Sb.Ends Go.Sb.VC Go.Sb.VA Go.Sb.OpV Go.Sb.OpE Go.Sb.OpD
set_option maxHeartbeats 4000000
set_option maxRecDepth 10000
def entAt (k : Txt) (x : List Kept) (i : Nat) : Entr := ⟨k, (x.getD i Kept.zero).v, decide (i + 1 = x.length)⟩
/-- A key's entries. -/
def entsK (k : Txt) (x : List Kept) : List Entr := (List.range x.length).map (entAt k x)
def entsI (I : Keys) : List Entr := I.flatMap fun p => entsK p.1 p.2
theorem entsI_app (I J : Keys) : entsI (I ++ J) = entsI I ++ entsI J := List.flatMap_append
theorem entsI_one (k : Txt) (x : List Kept) : entsI [(k, x)] = entsK k x := by simp [entsI]
theorem entsI_perm {I J : Keys} (h : I.Perm J) : (entsI I).Perm (entsI J) := List.Perm.flatMap_right _ h
theorem entsK_len (k : Txt) (x : List Kept) : (entsK k x).length = x.length := by simp [entsK]
/-- A way in which a bucket's keys may lie. -/
def Lies (σ : St) (b : Txt) (I : Keys) : Prop := (I.map (·.1)).Nodup ∧ ∀ k, σ.v b k = (findA I k).getD []
/-- The bucket is small. -/
def Small (σ : St) (b : Txt) : Prop := ∀ I, Lies σ b I → (entsI I).length ≤ 1000000
theorem delA_perm {α : Type} {D : List (Txt × α)} {k : Txt} {x : α} (h : (k, x) ∈ D) (hn : (D.map (·.1)).Nodup) : D.Perm ((k, x) :: delA D k) := by
  induction D with
  | nil => cases h
  | cons p D ih =>
    obtain ⟨j, y⟩ := p
    simp only [List.map_cons, List.nodup_cons] at hn
    by_cases hj : j = k
    · subst hj
      have hy : x = y := by
        rcases List.mem_cons.1 h with h | h
        · exact (Prod.mk.inj h).2
        · exact absurd (List.mem_map.2 ⟨_, h, rfl⟩) hn.1
      subst hy
      have : delA ((j, x) :: D) j = D := by
        simp only [delA, if_true]
      rw [this]
    · have h' : (k, x) ∈ D := by
        rcases List.mem_cons.1 h with h | h
        · exact absurd (Prod.mk.inj h).1.symm hj
        · exact h
      have : delA ((j, y) :: D) k = (j, y) :: delA D k := by
        simp only [delA, if_neg hj]
      rw [this]
      exact (List.Perm.cons _ (ih h' hn.2)).trans (List.Perm.swap _ _ _)
def prtE (σ : St) (b : Txt) (ob : Bool) (q : Ask) : Int := if !ob then 12 else if q.bad then 1 else if σ.has b then 0 else 13
def Ans.none : Ans := ⟨[], false, [], 0⟩
def prtR (f : Ask → List Entr → Ans) (σ : St) (b : Txt) (ob : Bool) (q : Ask) (ys : List Entr) : Ans := if prtE σ b ob q = 0 then f q ys else Ans.none
theorem c_part (g : Nat) [KCall Tryd.prog g] (f : Ask → List Entr → Ans) (hg : ∀ a c xs q, xs.length ≤ 1000000 → Does Tryd.prog g [.slice a xs.length c, .agg ⟨q.cells⟩].toArray [rd rEn a c xs] (fun o : (Option Addr × Nat) × List Entr => .tuple ⟨[partV (f q o.2) o.1, .int .i64 (cutE q)]⟩) (fun o => ¬ q.bad → o.2.Perm xs ∧ SrtE o.2) (fun o => [rd rEn o.1.1 o.1.2 (f q o.2).list]))
    (m : Nat) (σ : St) (b : Txt) (ob : Bool) (hb : Does Tryd.prog 20 [str b].toArray [] (fun _ : Unit => .bool ob) (fun _ => True) (fun _ => [])) (q : Ask) (hN : Small σ b) :
    Does Tryd.prog 27 [.pointer (some ⟨m, 0, none⟩), str b, .agg ⟨q.cells⟩, .func (.func g) #[] #[]].toArray [Mdl m σ] (fun o : (Option Addr × Nat) × List Entr => .tuple ⟨[partV (prtR f σ b ob q o.2) o.1, .int .i64 (prtE σ b ob q)]⟩) (fun o => prtE σ b ob q = 0 → ∃ I, Lies σ b I ∧ o.2.Perm (entsI I) ∧ SrtE o.2) (fun o => [rd rEn o.1.1 o.1.2 (prtR f σ b ob q o.2).list, Mdl m σ]) := by
  refine spec_of Tryd.func27 rfl Tryd.ntmps27 rfl fun R w0 => ?_
  repeat refine sy ?_
  refine s_box (fun b6 => ?_)
  refine s_alloc (fun b8 => ?_)
  repeat refine sy ?_
  refine cd (c_there m σ) ?_
  repeat refine sy ?_
  refine vc_cond_f rfl ?_
  repeat refine sy ?_
  refine cd hb ?_
  repeat refine sy ?_
  have bad : ∀ z : Int, prtE σ b ob q = z → z ≠ 0 → ∀ ys, prtR f σ b ob q ys = ⟨[], false, [], 0⟩ := fun z h1 h2 ys => if_neg (by rw [h1]; exact h2)
  cases ob
  · refine vc_cond_t rfl ?_
    repeat refine sy ?_
    have e1 : prtE σ b false q = 12 := rfl
    have e2 := bad 12 e1 (by decide)
    exact en ((none, 0), []) (fun h => by rw [e1] at h; cases h) (hv := by rw [e1, e2]; rfl) (ht := by
      rw [e2]
      exact Takes.cons take_rd_nil (Takes.cons (by repeat (first | exact Take.here | apply Take.there)) Takes.one))
  refine vc_cond_f rfl ?_
  repeat refine sy ?_
  refine so (op_callv (first := []) (capt := []) (vs := [.slice none 0 0, .agg ⟨q.cells⟩]) rfl (hg none 0 [] q (by simp)) KCall.out rfl) (fun o0 _ => ?_) (Takes.cons take_rd_nil Takes.nil)
  repeat refine sy ?_
  refine s_alloc (fun b10 => ?_)
  repeat refine sy ?_
  refine vc_cond_dec rfl (fun h1 => ?_) (fun h1 => ?_)
  · have hq : q.bad := by
      unfold cutE at h1
      by_cases h : q.bad
      · exact h
      · rw [if_neg h] at h1; exact absurd rfl h1
    have e0 : cutE q = 1 := if_pos hq
    have e1 : prtE σ b true q = 1 := by simp [prtE, hq]
    have e2 := bad 1 e1 (by decide)
    repeat refine sy ?_
    exact en ((none, 0), []) (fun h => by rw [e1] at h; cases h) (hv := by rw [e1, e2, e0]; rfl) (ht := by
      rw [e2]
      exact Takes.cons take_rd_nil (Takes.cons (by repeat (first | exact Take.here | apply Take.there)) Takes.one))
  have hq : ¬ q.bad := by
    intro h
    unfold cutE at h1; rw [if_pos h] at h1
    exact h1 (by decide)
  repeat refine sy ?_
  refine vc_take (A := Mdl m σ) (by repeat (first | exact Take.here | apply Take.there)) ?_
  refine vc_mdl fun mb D hr hn => ?_
  repeat refine sy ?_
  refine sod (op_lookup_enc (D := D) KUnd.out KUnd.out KZero.out rfl rfl) ?_
  cases hf : findA D b with
  | none =>
    have hh : σ.has b = false := by rw [hr.has, hf]; rfl
    have e1 : prtE σ b true q = 13 := by simp [prtE, hq, hh]
    have e2 := bad 13 e1 (by decide)
    repeat refine sy ?_
    refine vc_cond_t rfl ?_
    repeat refine sy ?_
    exact en ((none, 0), []) (fun h => by rw [e1] at h; cases h) (hv := by rw [e1, e2]; rfl) (ht := by
      rw [e2]
      exact Takes.cons take_rd_nil (Takes.cons (take_mdl hr hn) Takes.one))
  | some p =>
  obtain ⟨ib, I⟩ := p
  have hh : σ.has b = true := by rw [hr.has, hf]; rfl
  have hv : ∀ k, σ.v b k = (findA I k).getD [] := fun k => by rw [hr.v, verOf, hf]; rfl
  have e1 : prtE σ b true q = 0 := by simp [prtE, hq, hh]
  have e2 : ∀ ys, prtR f σ b true q ys = f q ys := fun ys => if_pos e1
  repeat refine sy ?_
  refine vc_cond_f rfl ?_
  repeat refine sy ?_
  refine sod (op_lookup_enc (D := D) KUnd.out KUnd.out KZero.out rfl rfl) ?_
  rw [hf]
  repeat refine sy ?_
  refine vc_take (A := inns D) (by repeat (first | exact Take.here | apply Take.there)) ?_
  refine vc_inns_out hf ?_
  repeat refine sy ?_
  refine so (op_range (V := rV) (D := I) KUnd.out rfl) fun r _ => ?_
  repeat refine sy ?_
  refine vc_know (p := (I.map (·.1)).Nodup) (fun w hs => mp_nodup (Sat.head_ent itm_end hs)) fun hIn => ?_
  have hI : Lies σ b I := ⟨hIn, hv⟩
  have hlen := hN I hI
  refine lp (ι := Keys × Keys × Option (Txt × List Kept) × (Option Addr × Nat)) (fun i => (i.1 ++ i.2.1).Perm I) (fun i => [(12, .slice i.2.2.2.1 (entsI i.1).length i.2.2.2.2), (49, .pointer (some ⟨r, 0, none⟩)), (3, .func (.func g) #[] #[]), (6, .pointer (some ⟨b6, 0, none⟩)), (8, .pointer (some ⟨b8, 0, none⟩))])
    (fun i => [itm rV ib r I i.2.1 i.2.2.1, own rEn TE i.2.2.2.1 i.2.2.2.2 (entsI i.1), blk b6 47 q.cells, blk b8 44 [.slice none 0 0, .bool false, str [], .int .i64 0], blk m 61 [.map (some mb)], mp Vo mb D, inns (delA D b), R]) (fun i => i.2.1.length) ([], I, none, (none, 0)) (List.Perm.refl _) ?_
  rintro ⟨J, rest, last, s⟩ hJ
  dsimp only at hJ ⊢
  have hJl := (entsI_perm hJ).length_eq
  rw [entsI_app, List.length_append] at hJl
  repeat refine sy ?_
  refine so (op_next (V := rV) (D := I) (rest := rest) (last := last) rfl) fun o hp => ?_
  rcases o with _ | ⟨k, x, v⟩
  · repeat refine sy ?_
    refine vc_cond_f rfl ?_
    repeat refine sy ?_
    have hr0 : rest = [] := hp
    subst hr0
    rw [List.append_nil] at hJ
    have hJb : (entsI J).length ≤ 1000000 := by
      have := (entsI_perm hJ).length_eq
      omega
    refine vc_take (A := itm rV ib r I [] none) (by repeat (first | exact Take.here | apply Take.there)) ?_
    refine vc_head itm_end ?_
    refine vc_own_freeze' (R := rEn) (xs := entsI J) ?_
    refine so (op_callv (first := []) (capt := []) (vs := [.slice s.1 (entsI J).length s.2, .agg ⟨q.cells⟩]) rfl (hg s.1 s.2 (entsI J) q hJb) KCall.out rfl) (fun o ho => ?_)
    repeat refine sy ?_
    have e0 : cutE q = 0 := if_neg hq
    exact en o (fun _ => ⟨I, hI, (ho hq).1.trans (entsI_perm hJ), (ho hq).2⟩) (hv := by rw [e1, e2, e0]; rfl) (ht := by
      rw [e2]
      exact Takes.cons (by repeat (first | exact Take.here | apply Take.there)) (Takes.cons (take_mdl hr hn (h3 := take_inns_same (p := (ib, I)) hf)) Takes.one))
  · obtain ⟨hp1, hp2, hp3⟩ := hp
    have hdl := delA_length hp1
    have hrn : (rest.map (·.1)).Nodup := by
      have h2 : ((J ++ rest).map (·.1)).Nodup := (hJ.map _).nodup_iff.2 hIn
      rw [List.map_append] at h2
      exact (List.nodup_append.1 h2).2.1
    have hstep : (J ++ [(k, x)] ++ delA rest k).Perm I := by
      refine List.Perm.trans ?_ hJ
      rw [List.append_assoc]
      exact List.Perm.append_left _ (delA_perm hp1 hrn).symm
    have hsl := (entsI_perm hstep).length_eq
    rw [entsI_app, entsI_app, entsI_one, List.length_append, List.length_append, entsK_len] at hsl
    repeat refine sy ?_
    refine vc_cond_t rfl ?_
    repeat refine sy ?_
    refine so (op_entry (V := rV) (k := k) (q := x) rfl) (fun v' _ => ?_) (Takes.cons (Take.there Take.here) Takes.nil)
    refine vc_hv fun a c hc => ?_
    subst hc
    repeat refine sy ?_
    refine lp (ι := Nat × (Option Addr × Nat)) (fun i => i.1 ≤ x.length) (fun i => [(57, .int .i64 i.1), (56, .int .i64 x.length), (55, .slice a x.length c), (14, .slice a x.length c), (13, str k), (12, .slice i.2.1 (entsI J ++ (List.range i.1).map (entAt k x)).length i.2.2), (49, .pointer (some ⟨r, 0, none⟩)), (3, .func (.func g) #[] #[]), (6, .pointer (some ⟨b6, 0, none⟩)), (8, .pointer (some ⟨b8, 0, none⟩))])
      (fun i => [own rEn TE i.2.1 i.2.2 (entsI J ++ (List.range i.1).map (entAt k x)), rd rKept a c x, itm rV ib r I (delA rest k) (some (k, x)), blk b6 47 q.cells, blk b8 44 [.slice none 0 0, .bool false, str [], .int .i64 0], blk m 61 [.map (some mb)], mp Vo mb D, inns (delA D b), R]) (fun i => x.length - i.1) (0, s) (Nat.zero_le _) ?_ (hl := by
        simp only [List.range_zero, List.map_nil, List.append_nil]; exact ⟨rfl, rfl, rfl, rfl, rfl, rfl, rfl, rfl, rfl, rfl, trivial⟩) (ht := by
        simp only [List.range_zero, List.map_nil, List.append_nil]
        repeat (first | exact Takes.nil | (apply Takes.cons; repeat (first | exact Take.keep | exact Take.here | apply Take.there))))
    rintro ⟨i, u9⟩ hi
    dsimp only at hi ⊢
    repeat refine sy ?_
    refine vc_cond_dec rfl (fun h3 => ?_) (fun h3 => ?_)
    · obtain ⟨y, hy⟩ := get_some (xs := x) (k := i) (by omega)
      have hen : entAt k x i = ⟨k, y.v, decide ((i : Int) = (x.length : Int) - 1)⟩ := by
        unfold entAt
        rw [List.getD_eq_getElem?_getD, hy]
        congr 1
        rw [decide_eq_decide]; omega
      have hll : (entsI J ++ (List.range i).map (entAt k x)).length = (entsI J).length + i := by simp
      repeat refine sy ?_
      refine s_loadx_rd (fun cs => ?_)
      refine vc_kept fun a' c' hc => ?_
      subst hc
      repeat refine sy ?_
      refine s_alloc (fun b16 => ?_)
      repeat refine sy ?_
      refine s_buildSlice (fun bb => ?_)
      repeat refine sy ?_
      refine so (op_append_one (R := rEn) (E := TE) (xs := entsI J ++ (List.range i).map (entAt k x)) (q := ⟨k, y.v, decide ((i : Int) = (x.length : Int) - 1)⟩) rfl KUnd.out KInfo.out (by decide) rfl rfl rfl (by omega)) (fun p' _ => ?_) (Takes.cons (by repeat (first | exact Take.here | apply Take.there)) (Takes.cons (by repeat (first | exact Take.here | apply Take.there)) (Takes.cons take_hold_enc Takes.nil)))
      repeat refine sy ?_
      have hnx : entsI J ++ (List.range i).map (entAt k x) ++ [⟨k, y.v, decide ((i : Int) = (x.length : Int) - 1)⟩] = entsI J ++ (List.range (i + 1)).map (entAt k x) := by
        rw [List.range_succ, List.map_append, ← hen]; simp
      rw [hnx]
      exact ag (i + 1, p') (by show i + 1 ≤ x.length; omega) (by show x.length - (i + 1) < x.length - i; omega)
    · have hix : i = x.length := by omega
      subst hix
      repeat refine sy ?_
      rw [show entsI J ++ (List.range x.length).map (entAt k x) = entsI (J ++ [(k, x)]) by rw [entsI_app, entsI_one]; rfl]
      exact ag (J ++ [(k, x)], delA rest k, some (k, x), u9) hstep hdl
theorem c_Versions (m : Nat) (σ : St) (b : Txt) (ob : Bool) (hb : Does Tryd.prog 20 [str b].toArray [] (fun _ : Unit => .bool ob) (fun _ => True) (fun _ => [])) (q : Ask) (hN : Small σ b) :
    Does Tryd.prog 11 [.pointer (some ⟨m, 0, none⟩), str b, .agg ⟨q.cells⟩].toArray [Mdl m σ] (fun o : (Option Addr × Nat) × List Entr => .tuple ⟨[partV (prtR verR σ b ob q o.2) o.1, .int .i64 (prtE σ b ob q)]⟩) (fun o => prtE σ b ob q = 0 → ∃ I, Lies σ b I ∧ o.2.Perm (entsI I) ∧ SrtE o.2) (fun o => [rd rEn o.1.1 o.1.2 (prtR verR σ b ob q o.2).list, Mdl m σ]) := by
  refine spec_of Tryd.func11 rfl Tryd.ntmps11 rfl fun R w0 => ?_
  repeat refine sy ?_
  refine s_box (fun b5 => ?_)
  refine s_alloc (fun b6 => ?_)
  repeat refine sy ?_
  refine ca (c_part 28 verR (fun a c xs q h => c_pVersions a c xs q h) m σ b ob hb q hN) (fun o ho => ?_)
  repeat refine sy ?_
  exact en o ho
theorem c_Objects (m : Nat) (σ : St) (b : Txt) (ob : Bool) (hb : Does Tryd.prog 20 [str b].toArray [] (fun _ : Unit => .bool ob) (fun _ => True) (fun _ => [])) (q : Ask) (hN : Small σ b) :
    Does Tryd.prog 12 [.pointer (some ⟨m, 0, none⟩), str b, .agg ⟨q.cells⟩].toArray [Mdl m σ] (fun o : (Option Addr × Nat) × List Entr => .tuple ⟨[partV (prtR objR σ b ob q o.2) o.1, .int .i64 (prtE σ b ob q)]⟩) (fun o => prtE σ b ob q = 0 → ∃ I, Lies σ b I ∧ o.2.Perm (entsI I) ∧ SrtE o.2) (fun o => [rd rEn o.1.1 o.1.2 (prtR objR σ b ob q o.2).list, Mdl m σ]) := by
  refine spec_of Tryd.func12 rfl Tryd.ntmps12 rfl fun R w0 => ?_
  repeat refine sy ?_
  refine s_box (fun b5 => ?_)
  refine s_alloc (fun b6 => ?_)
  repeat refine sy ?_
  refine ca (c_part 29 objR (fun a c xs q h => c_pObjects a c xs q h) m σ b ob hb q hN) (fun o ho => ?_)
  repeat refine sy ?_
  exact en o ho
end Go.Proofs.YtikodfclemgfoaaDoor
