/- Contracts 2: the model's own things. -/
import Derived.Test.YtikodfclemgfoaaDoorSbK1
set_option linter.all false
set_option linter.unusedVariables false
set_option linter.unusedSimpArgs false
namespace Go.Proofs.YtikodfclemgfoaaDoor
open Go.Sb
attribute [local irreducible] Go.wpList Go.Code.wp Go.Exit.then Go.Exit.inBlock Go.Sb.Ends Go.Sb.VC Go.Sb.OpV Go.Sb.OpE Go.Sb.OpD
set_option maxHeartbeats 1000000

structure Ver where
  id : Int
  mark : Bool
  size : Int
  sum : Int
  deriving DecidableEq
structure Kept where
  v : Ver
  data : List UInt8
  deriving DecidableEq
abbrev Ver.cells (v : Ver) : List Value := [.int .i64 v.id, .bool v.mark, .int .i64 v.size, .int .u32 v.sum]
abbrev Kept.cells (x : Kept) (a : Option Addr) (c : Nat) : List Value := [.int .i64 x.v.id, .bool x.v.mark, .int .i64 x.v.size, .int .u32 x.v.sum, .slice a x.data.length c]
def rKept : Rel Kept where
  n := 5
  pos := by decide
  rel f x cs := ∃ a c, cs = x.cells a c ∧ rdP rB a c x.data f
  mono hf := fun ⟨a, c, e, h⟩ => ⟨a, c, e, rdP_mono hf h⟩
  len := fun ⟨a, c, e, h⟩ => by rw [e]; rfl
  one := fun ⟨a, c, e, h⟩ v hv => by
    rw [e] at hv
    simp only [Kept.cells, List.mem_cons, List.not_mem_nil, or_false] at hv
    rcases hv with rfl | rfl | rfl | rfl | rfl <;> rfl
section
variable {N : Nat} {e : Slots} {l m : List Asrt} {w0 : World} {K : Act → World → Prop} {x : Kept} {cs : List Value} {a : Option Addr} {c : Nat}
/-- A kept one, opened. -/
theorem vc_kept (h : ∀ a c, cs = x.cells a c → VC N e (rd rB a c x.data :: l) w0 K) : VC N e (hold rKept x cs :: l) w0 K := by
  refine vc_head (B := ex fun p : Option Addr × Nat => star (pure (cs = x.cells p.1 p.2)) (rd rB p.1 p.2 x.data)) ?_ (vc_ex fun p => vc_star (vc_pure fun hc => h p.1 p.2 hc))
  rintro hh f ⟨a, c, e, hr⟩
  exact ⟨(a, c), PHeap.emp, hh, PHeap.emp_le _, PHeap.le_refl _, PHeap.emp_disj _, e, hr⟩
theorem take_kept (ht : Take (rd rB a c x.data) l m) : Take (hold rKept x (x.cells a c)) l m := Ent.trans ht (star_mono (fun _ f h => ⟨a, c, rfl, h⟩) (Ent.refl _))
end
/-- A key's versions in a map. -/
def rV : MRel (List Kept) where
  rel f xs v := ∃ a c, v = .slice a xs.length c ∧ rdP rKept a c xs f
  mono hf := fun ⟨a, c, e, h⟩ => ⟨a, c, e, rdP_mono hf h⟩
abbrev Keys := List (Txt × List Kept)
abbrev Rows0 := List (Txt × (Nat × Keys))
def Vo : MRel (Nat × Keys) := MRel.ofEnc fun p => .map (some p.1)
/-- What a model holds. -/
structure St where
  has : Txt → Bool
  n : Nat
  v : Txt → Txt → List Kept
def verOf (D : Rows0) (b k : Txt) : List Kept := ((findA D b).bind fun p => findA p.2 k).getD []
structure Rep (D : Rows0) (σ : St) : Prop where
  n : σ.n = D.length
  has : ∀ b, σ.has b = (findA D b).isSome
  v : ∀ b k, σ.v b k = verOf D b k
abbrev inn (p : Txt × (Nat × Keys)) : Asrt := mp rV p.2.1 p.2.2
def inns (D : Rows0) : Asrt := all (D.map inn)
def Mdl (m : Nat) (σ : St) : Asrt := ex fun mb : Nat => ex fun D : Rows0 => star (pure (Rep D σ ∧ (D.map (·.1)).Nodup)) (star (blk m 61 [.map (some mb)]) (star (mp Vo mb D) (inns D)))
section
variable {N : Nat} {e : Slots} {l m n o : List Asrt} {w0 : World} {K : Act → World → Prop} {D : Rows0} {σ : St} {b : Txt} {p : Nat × Keys}
theorem vc_mdl {i : Nat} (h : ∀ mb D, Rep D σ → (D.map (·.1)).Nodup → VC N e (blk i 61 [.map (some mb)] :: mp Vo mb D :: inns D :: l) w0 K) : VC N e (Mdl i σ :: l) w0 K :=
  vc_ex fun mb => vc_ex fun D => vc_star (vc_pure fun hr => vc_star (vc_head (B := _) (Ent.refl _) (by
    refine vc_rot ?_
    refine vc_ent (m := mp Vo mb D :: inns D :: l ++ [blk i 61 [.map (some mb)]]) (star_assoc (mp Vo mb D) (inns D) _) ?_
    exact vc_ent (m := blk i 61 [.map (some mb)] :: mp Vo mb D :: inns D :: l) (front _ _) (h mb D hr.1 hr.2))))
  where
  front (A : Asrt) : ∀ (L : List Asrt), Ent (all (L ++ [A])) (all (A :: L))
    | L => Ent.trans (all_split L [A]) (Ent.trans (star_comm _ _) (star_mono (star_left _ _) (Ent.refl _)))
theorem take_mdl {i mb : Nat} (hr : Rep D σ) (hn : (D.map (·.1)).Nodup) (h1 : Take (blk i 61 [.map (some mb)]) l m := by repeat (first | exact Take.here | apply Take.there)) (h2 : Take (mp Vo mb D) m n := by repeat (first | exact Take.here | apply Take.there)) (h3 : Take (inns D) n o := by repeat (first | exact Take.here | apply Take.there)) : Take (Mdl i σ) l o := by
  have key : Ent (star (blk i 61 [.map (some mb)]) (star (mp Vo mb D) (inns D))) (Mdl i σ) := fun h f p => ⟨mb, D, PHeap.emp, h, PHeap.emp_le _, PHeap.le_refl _, PHeap.emp_disj _, ⟨hr, hn⟩, p⟩
  refine Ent.trans h1 (Ent.trans (star_mono (Ent.refl _) (Ent.trans h2 (star_mono (Ent.refl _) h3))) ?_)
  refine Ent.trans (star_mono (Ent.refl _) (star_assoc' _ _ _)) (Ent.trans (star_assoc' _ _ _) (star_mono key (Ent.refl _)))
theorem inns_out (hf : findA D b = some p) : Ent (inns D) (star (mp rV p.1 p.2) (inns (delA D b))) := by
  induction D with
  | nil => cases hf
  | cons q D ih =>
    obtain ⟨n, y⟩ := q
    simp only [findA] at hf
    by_cases h : n = b
    · simp only [h, if_true, Option.some.injEq] at hf
      subst hf
      simp only [delA, h, if_true]
      exact Ent.refl _
    · simp only [if_neg h] at hf
      simp only [delA, if_neg h]
      exact Ent.trans (star_mono (Ent.refl _) (ih hf)) (star_swap _ _ _)
theorem inns_in (p : Nat × Keys) (b : Txt) : Ent (star (mp rV p.1 p.2) (inns (delA D b))) (inns (setA D b p)) := by
  induction D with
  | nil => exact Ent.refl _
  | cons q D ih =>
    obtain ⟨n, y⟩ := q
    by_cases h : n = b
    · simp only [delA, setA, h, if_true]
      exact Ent.refl _
    · simp only [delA, setA, if_neg h]
      exact Ent.trans (star_swap _ _ _) (star_mono (Ent.refl _) ih)
theorem vc_inns_out (hf : findA D b = some p) (h : VC N e (mp rV p.1 p.2 :: inns (delA D b) :: l) w0 K) : VC N e (inns D :: l) w0 K := vc_head (inns_out hf) (vc_star h)
theorem take_inns (ht : Takes [mp rV p.1 p.2, inns (delA D b)] l m) : Take (inns (setA D b p)) l m :=
  Ent.trans ht.ent (Ent.trans (star_assoc' _ _ _) (star_mono (inns_in p b) (Ent.refl _)))
theorem setA_same {α : Type} {D : List (Txt × α)} {b : Txt} {p : α} (hf : findA D b = some p) : setA D b p = D := by
  induction D with
  | nil => cases hf
  | cons q D ih =>
    obtain ⟨n, y⟩ := q
    simp only [findA] at hf
    by_cases h : n = b
    · simp only [h, if_true, Option.some.injEq] at hf; simp [setA, h, hf]
    · simp only [if_neg h] at hf; simp [setA, h, ih hf]
theorem take_inns_same (hf : findA D b = some p) (ht : Takes [mp rV p.1 p.2, inns (delA D b)] l m := by repeat (first | exact Takes.nil | (apply Takes.cons; repeat (first | exact Take.here | apply Take.there)))) : Take (inns D) l m := by
  have := take_inns ht; rwa [setA_same hf] at this
end
theorem inns_nil {l : List Asrt} : Take (inns []) l l := fun h f p => ⟨PHeap.emp, h, PHeap.emp_le _, PHeap.le_refl _, PHeap.emp_disj _, trivial, p⟩
def St.empty : St := ⟨fun _ => false, 0, fun _ _ => []⟩
theorem c_New : Does Tryd.prog 8 [].toArray [] (fun m : Nat => .pointer (some ⟨m, 0, none⟩)) (fun _ => True) (fun m => [Mdl m St.empty]) := by
  refine spec_of Tryd.func8 rfl Tryd.ntmps8 rfl fun R w0 => ?_
  repeat refine sy ?_
  refine so (op_makeMap (V := Vo) rfl) fun mb _ => ?_
  repeat refine sy ?_
  refine s_box (fun m => ?_)
  repeat refine sy ?_
  exact en m trivial (ht := Takes.cons (take_mdl (D := []) (mb := mb) ⟨rfl, fun _ => rfl, fun _ _ => rfl⟩ List.nodup_nil Take.here Take.here inns_nil) Takes.one)
theorem c_there (m : Nat) (σ : St) : Does Tryd.prog 19 [.pointer (some ⟨m, 0, none⟩)].toArray [Mdl m σ] (fun _ : Unit => .bool true) (fun _ => True) (fun _ => [Mdl m σ]) := by
  refine spec_of Tryd.func19 rfl Tryd.ntmps19 rfl fun R w0 => ?_
  refine vc_mdl fun mb D hr hn => ?_
  repeat refine sy ?_
  exact en () trivial (ht := Takes.cons (take_mdl hr hn) Takes.one)
theorem c_named (m : Nat) (σ : St) (b k : Txt) (ob ok : Bool) (hb : Does Tryd.prog 20 [str b].toArray [] (fun _ : Unit => .bool ob) (fun _ => True) (fun _ => [])) (hk : Does Tryd.prog 56 [str k].toArray [TB] (fun _ : Unit => .bool ok) (fun _ => True) (fun _ => [])) :
    Does Tryd.prog 39 [.pointer (some ⟨m, 0, none⟩), str b, str k].toArray [Mdl m σ, TB] (fun _ : Unit => .int .i64 (if ob && ok then 0 else 12)) (fun _ => True) (fun _ => [Mdl m σ]) := by
  refine spec_of Tryd.func39 rfl Tryd.ntmps39 rfl fun R w0 => ?_
  repeat refine sy ?_
  refine cd (c_there m σ) ?_
  repeat refine sy ?_
  refine vc_cond_f rfl ?_
  repeat refine sy ?_
  refine cd hb ?_
  repeat refine sy ?_
  cases ob
  · repeat refine sy ?_
    refine vc_cond_t rfl ?_
    repeat refine sy ?_
    exact en () trivial
  · repeat refine sy ?_
    refine cd hk ?_
    repeat refine sy ?_
    cases ok
    · refine vc_cond_t rfl ?_
      repeat refine sy ?_
      exact en () trivial
    · refine vc_cond_f rfl ?_
      repeat refine sy ?_
      exact en () trivial
def St.make (σ : St) (b : Txt) : St := ⟨fun x => if x = b then true else σ.has x, σ.n + 1, fun x k => if x = b then [] else σ.v x k⟩
theorem Rep.make {D : Rows0} {σ : St} {b : Txt} {ib : Nat} (h : Rep D σ) (hf : findA D b = none) : Rep (setA D b (ib, [])) (σ.make b) := by
  refine ⟨?_, fun x => ?_, fun x k => ?_⟩
  · rw [setA_length, hf]; simp [St.make, h.n]
  · rw [findA_setA]; by_cases hx : b = x
    · subst hx; simp [St.make]
    · simp [St.make, hx, Ne.symm hx, h.has]
  · unfold verOf; rw [findA_setA]; by_cases hx : b = x
    · subst hx; simp [St.make, findA]
    · simp only [St.make, if_neg hx, if_neg (Ne.symm hx)]; exact h.v x k
def mkErr (σ : St) (b : Txt) (ob : Bool) : Int := if !ob then 12 else if σ.has b then 7 else if 64 ≤ σ.n then 18 else 0
theorem c_Make (m : Nat) (σ : St) (b : Txt) (ob : Bool) (hb : Does Tryd.prog 20 [str b].toArray [] (fun _ : Unit => .bool ob) (fun _ => True) (fun _ => [])) :
    Does Tryd.prog 9 [.pointer (some ⟨m, 0, none⟩), str b].toArray [Mdl m σ] (fun _ : Unit => .int .i64 (mkErr σ b ob)) (fun _ => True) (fun _ => [Mdl m (if mkErr σ b ob = 0 then σ.make b else σ)]) := by
  refine spec_of Tryd.func9 rfl Tryd.ntmps9 rfl fun R w0 => ?_
  repeat refine sy ?_
  refine cd (c_there m σ) ?_
  repeat refine sy ?_
  refine vc_cond_f rfl ?_
  repeat refine sy ?_
  refine cd hb ?_
  repeat refine sy ?_
  cases ob
  · refine vc_cond_t rfl ?_
    repeat refine sy ?_
    exact en () trivial (ht := by simp [mkErr]; exact Takes.cons Take.here Takes.one)
  refine vc_cond_f rfl ?_
  repeat refine sy ?_
  refine vc_mdl fun mb D hr hn => ?_
  repeat refine sy ?_
  refine sod (op_lookup_enc (D := D) KUnd.out KUnd.out KZero.out rfl rfl) ?_
  cases hf : findA D b with
  | some p =>
    have hh : σ.has b = true := by rw [hr.has, hf]; rfl
    repeat refine sy ?_
    refine vc_cond_t rfl ?_
    repeat refine sy ?_
    exact en () trivial (hv := by simp [mkErr, hh, tup]) (ht := by
      simp only [mkErr, hh]
      exact Takes.cons (take_mdl hr hn) Takes.one)
  | none =>
    have hh : σ.has b = false := by rw [hr.has, hf]; rfl
    repeat refine sy ?_
    refine vc_cond_f rfl ?_
    repeat refine sy ?_
    refine sod (op_map_len (V := Vo) (D := D) rfl KUnd.out rfl) ?_
    repeat refine sy ?_
    refine vc_cond_dec rfl (fun h => ?_) (fun h => ?_)
    · have h' : 64 ≤ σ.n := by rw [hr.n]; omega
      repeat refine sy ?_
      exact en () trivial (hv := by simp [mkErr, hh, tup, h']) (ht := by
        simp only [mkErr, hh, h']
        exact Takes.cons (take_mdl hr hn) Takes.one)
    · have h' : ¬ 64 ≤ σ.n := by rw [hr.n]; omega
      repeat refine sy ?_
      refine so (op_makeMap (V := rV) rfl) fun ib _ => ?_
      repeat refine sy ?_
      refine so0 (op_mapUpdate (V := Vo) (D := D) (q := (ib, [])) KUnd.out KUnd.out rfl rfl rfl) (fun _ _ => ?_) (Takes.cons (Take.there (Take.there Take.here)) (Takes.cons take_hv Takes.nil))
      repeat refine sy ?_
      have hd : delA D b = D := delA_none (findA_none.1 hf)
      exact en () trivial (hv := by simp [mkErr, hh, tup, h']) (ht := by
        have h0 : mkErr σ b true = 0 := by simp [mkErr, hh, h']
        simp only [h0, if_true]
        refine Takes.cons (take_mdl (hr.make (ib := ib) hf) (setA_nodup hn) (h3 := take_inns (by rw [hd]; exact Takes.cons Take.here Takes.one))) Takes.one
        )
end Go.Proofs.YtikodfclemgfoaaDoor
