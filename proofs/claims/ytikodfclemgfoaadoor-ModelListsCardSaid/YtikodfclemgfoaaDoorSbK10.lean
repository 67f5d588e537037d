/- Contracts 10: Same. -/
import Derived.Test.YtikodfclemgfoaaDoorSbK9
set_option linter.all false
set_option linter.unusedVariables false
set_option linter.unusedSimpArgs false
namespace Go.Proofs.YtikodfclemgfoaaDoor
open Go.Sb
attribute [local irreducible] Go.wpList Go.Code.wp Go.Exit.then Go.Exit.inBlock Go.Sb.Ends Go.Sb.VC Go.Sb.VA Go.Sb.OpV Go.Sb.OpE Go.Sb.OpD
set_option maxHeartbeats 1000000
def eqM (D D' : Keys) : Bool := decide (D.length = D'.length) && D.all fun p => decide (findA D' p.1 = some p.2)
abbrev fSame2 (bx : Nat) : Value := .func (.func 32) #[] #[.pointer (some ⟨bx, 0, none⟩)]
abbrev bSame1 (bx : Nat) : Asrt := blk bx 76 [fSame1]
theorem lk_some {α : Type} {V : MRel α} {zv : Value} {q : α} {v : Value} : Ent (lk V zv (some q) v) (hv V q v) := fun _ _ h => h
theorem c_KMapsEq (b b' bx : Nat) (D D' : Keys) : Does Tryd.prog 36 [.map (some b), .map (some b'), fSame2 bx].toArray [mp rV b D, mp rV b' D', bSame1 bx] (fun _ : Unit => .bool (eqM D D')) (fun _ => True) (fun _ => [mp rV b D, mp rV b' D', bSame1 bx]) := by
  refine spec_of Tryd.func36 rfl Tryd.ntmps36 rfl fun R w0 => ?_
  repeat refine sy ?_
  refine sod (op_map_len (V := rV) (D := D) rfl KUnd.out rfl) ?_
  repeat refine sy ?_
  refine sod (op_map_len (V := rV) (D := D') rfl KUnd.out rfl) ?_
  repeat refine sy ?_
  refine vc_cond_dec rfl (fun h => ?_) (fun h => ?_)
  · repeat refine sy ?_
    exact en () trivial (hv := by show Value.bool _ = Value.bool false; congr 1; unfold eqM; rw [decide_eq_false (by omega)]; rfl)
  have he : eqM D D' = D.all fun p => decide (findA D' p.1 = some p.2) := by unfold eqM; rw [decide_eq_true (by omega)]; rfl
  repeat refine sy ?_
  refine so (op_range (V := rV) (D := D) KUnd.out rfl) fun r _ => ?_
  repeat refine sy ?_
  refine lp (ι := Keys × Option (Txt × List Kept)) (fun i => i.1.all (fun p => decide (findA D' p.1 = some p.2)) = eqM D D') (fun _ => [(17, .pointer (some ⟨r, 0, none⟩)), (1, .map (some b')), (2, fSame2 bx)]) (fun i => [itm rV b r D i.1 i.2, mp rV b' D', bSame1 bx, R]) (fun i => i.1.length) (D, none) he.symm ?_
  rintro ⟨rest, last⟩ h1
  dsimp only at h1 ⊢
  repeat refine sy ?_
  refine so (op_next (V := rV) (D := D) (rest := rest) (last := last) rfl) fun o hp => ?_
  rcases o with _ | ⟨k, x, v⟩
  · repeat refine sy ?_
    refine vc_cond_f rfl ?_
    repeat refine sy ?_
    have hr : rest = [] := hp
    subst hr
    exact en () trivial (hv := by rw [← h1]; rfl) (ht := Takes.cons (Ent.trans Take.here (star_mono itm_end (Ent.refl _))) (Takes.cons (by repeat (first | exact Take.here | apply Take.there)) (Takes.cons (by repeat (first | exact Take.here | apply Take.there)) (Takes.cons Take.here Takes.nil))))
  · obtain ⟨hp1, hp2, hp3⟩ := hp
    have hlen := delA_length hp1
    rw [all_delA hp1 hp3] at h1
    repeat refine sy ?_
    refine vc_cond_t rfl ?_
    repeat refine sy ?_
    refine so (op_entry (V := rV) (k := k) (q := x) rfl) (fun v' _ => ?_) (Takes.cons (Take.there Take.here) Takes.nil)
    repeat refine sy ?_
    refine so (op_lookup_ok (V := rV) (D := D') (k := k) KUnd.out KUnd.out KZero.out rfl rfl) fun u _ => ?_
    cases hf : findA D' k with
    | none =>
      repeat refine sy ?_
      refine vc_cond_t rfl ?_
      repeat refine sy ?_
      exact en () trivial (hv := by rw [← h1, hf]; rfl) (ht := Takes.cons (Ent.trans (by repeat (first | exact Take.here | apply Take.there)) (star_mono itm_end (Ent.refl _))) (Takes.cons (by repeat (first | exact Take.here | apply Take.there)) (Takes.cons (by repeat (first | exact Take.here | apply Take.there)) (Takes.cons (by repeat (first | exact Take.here | apply Take.there)) Takes.nil))))
    | some y =>
      rw [hf] at h1
      refine vc_head lk_some ?_
      repeat refine sy ?_
      refine so (op_callv (first := []) (capt := [.pointer (some ⟨bx, 0, none⟩)]) (vs := [v', u]) rfl (c_Same2 x y v' u bx) KCall.out rfl) fun _ _ => ?_
      repeat refine sy ?_
      refine vc_cond_ndec rfl (fun h => ?_) (fun h => ?_)
      · repeat refine sy ?_
        exact en () trivial (hv := by rw [← h1, decide_eq_false (fun e => h (Option.some.inj e).symm)]; rfl) (ht := Takes.cons (Ent.trans (by repeat (first | exact Take.here | apply Take.there)) (star_mono itm_end (Ent.refl _))) (Takes.cons (by repeat (first | exact Take.here | apply Take.there)) (Takes.cons (by repeat (first | exact Take.here | apply Take.there)) (Takes.cons (by repeat (first | exact Take.here | apply Take.there)) Takes.nil))))
      · repeat refine sy ?_
        refine ag (delA rest k, some (k, x)) ?_ hlen
        rw [← h1, decide_eq_true (by rw [h])]; rfl
def sameK (I I' : Keys) : Bool := eqM (fullK I) (fullK I')
abbrev bSame2 (bx by' : Nat) : Asrt := blk by' 79 [fSame2 bx]
theorem c_Same3 (ib ib' bx by' : Nat) (I I' : Keys) : Does Tryd.prog 35 (⟨[.map (some ib), .map (some ib'), .pointer (some ⟨by', 0, none⟩)]⟩) [mp rV ib I, mp rV ib' I', bSame2 bx by', bSame1 bx] (fun _ : Unit => .bool (sameK I I')) (fun _ => True) (fun _ => [mp rV ib I, mp rV ib' I', bSame2 bx by', bSame1 bx]) := by
  refine spec_of (args := [.map (some ib), .map (some ib'), .pointer (some ⟨by', 0, none⟩)]) Tryd.func35 rfl Tryd.ntmps35 rfl fun R w0 => ?_
  repeat refine sy ?_
  refine vd_start ?_
  repeat refine dq ?_
  refine va_pick 2 ?_
  repeat refine dq ?_
  refine va_pick 4 ?_
  repeat refine dq ?_
  refine de (op_call (c_full ib I) KCall.out rfl) (fun n _ => ⟨?_, ?_⟩)
  · exact aq
  refine de (op_call (c_full ib' I') KCall.out rfl) (fun n' _ => ⟨?_, ?_⟩)
  · exact aq
  refine de (op_call (c_KMapsEq n n' bx (fullK I) (fullK I')) KCall.out rfl) (fun _ _ => ⟨?_, ?_⟩)
  · exact aq
  refine dv ⟨?_, ?_⟩
  · exact aq
  refine va_end ?_
  repeat refine sy ?_
  exact en () trivial
def eqO (D D' : Rows0) : Bool := decide (D.length = D'.length) && D.all fun p => match findA D' p.1 with | none => false | some q => sameK p.2.2 q.2
abbrev fSame3 (by' : Nat) : Value := .func (.func 35) #[] #[.pointer (some ⟨by', 0, none⟩)]
theorem c_OMapsEq (b b' bx by' : Nat) (D D' : Rows0) : Does Tryd.prog 34 [.map (some b), .map (some b'), fSame3 by'].toArray [mp Vo b D, inns D, mp Vo b' D', inns D', bSame2 bx by', bSame1 bx] (fun _ : Unit => .bool (eqO D D')) (fun _ => True) (fun _ => [mp Vo b D, inns D, mp Vo b' D', inns D', bSame2 bx by', bSame1 bx]) := by
  refine spec_of Tryd.func34 rfl Tryd.ntmps34 rfl fun R w0 => ?_
  refine vc_know (fun w hs => mp_nodup hs) fun hnd => ?_
  repeat refine sy ?_
  refine sod (op_map_len (V := Vo) (D := D) rfl KUnd.out rfl) ?_
  repeat refine sy ?_
  refine sod (op_map_len (V := Vo) (D := D') rfl KUnd.out rfl) ?_
  repeat refine sy ?_
  refine vc_cond_dec rfl (fun h => ?_) (fun h => ?_)
  · repeat refine sy ?_
    exact en () trivial (hv := by show Value.bool _ = Value.bool false; congr 1; unfold eqO; rw [decide_eq_false (by omega)]; rfl)
  have he : eqO D D' = D.all fun p => match findA D' p.1 with | none => false | some q => sameK p.2.2 q.2 := by unfold eqO; rw [decide_eq_true (by omega)]; rfl
  repeat refine sy ?_
  refine so (op_range (V := Vo) (D := D) KUnd.out rfl) fun r _ => ?_
  repeat refine sy ?_
  refine lp (ι := Rows0 × Option (Txt × (Nat × Keys))) (fun i => i.1.all (fun p => match findA D' p.1 with | none => false | some q => sameK p.2.2 q.2) = eqO D D') (fun _ => [(17, .pointer (some ⟨r, 0, none⟩)), (1, .map (some b')), (2, fSame3 by')]) (fun i => [itm Vo b r D i.1 i.2, inns D, mp Vo b' D', inns D', bSame2 bx by', bSame1 bx, R]) (fun i => i.1.length) (D, none) he.symm ?_
  rintro ⟨rest, last⟩ h1
  dsimp only at h1 ⊢
  repeat refine sy ?_
  refine so (op_next (V := Vo) (D := D) (rest := rest) (last := last) rfl) fun o hp => ?_
  rcases o with _ | ⟨k, p, v⟩
  · repeat refine sy ?_
    refine vc_cond_f rfl ?_
    repeat refine sy ?_
    have hr : rest = [] := hp
    subst hr
    exact en () trivial (hv := by rw [← h1]; rfl) (ht := Takes.cons (Ent.trans Take.here (star_mono itm_end (Ent.refl _))) (by repeat (first | exact Takes.nil | (apply Takes.cons; repeat (first | exact Take.here | apply Take.there)))))
  · obtain ⟨hp1, hp2, hp3⟩ := hp
    have hlen := delA_length hp1
    rw [all_delA hp1 hp3] at h1
    have hfk : findA D k = some p := findA_of_mem hnd hp2
    obtain ⟨ib, I⟩ := p
    repeat refine sy ?_
    refine vc_cond_t rfl ?_
    repeat refine sy ?_
    refine so (op_entry (V := Vo) (k := k) (q := (ib, I)) rfl) (fun v' _ => ?_) (Takes.cons (Take.there Take.here) Takes.nil)
    refine vc_know (p := v' = .map (some ib)) (fun w hs => Sat.rof hs) fun hv => ?_
    subst hv
    repeat refine sy ?_
    refine so (op_lookup_ok (V := Vo) (D := D') (k := k) KUnd.out KUnd.out KZero.out rfl rfl) fun u _ => ?_
    cases hf : findA D' k with
    | none =>
      repeat refine sy ?_
      refine vc_cond_t rfl ?_
      repeat refine sy ?_
      exact en () trivial (hv := by rw [← h1, hf]; rfl) (ht := Takes.cons (Ent.trans (by repeat (first | exact Take.here | apply Take.there)) (star_mono itm_end (Ent.refl _))) (by repeat (first | exact Takes.nil | (apply Takes.cons; repeat (first | exact Take.here | apply Take.there)))))
    | some q =>
      obtain ⟨ib', I'⟩ := q
      rw [hf] at h1
      refine vc_know (p := u = .map (some ib')) (fun w hs => Sat.rof hs) fun hv => ?_
      subst hv
      refine vc_take (A := inns D) (by repeat (first | exact Take.here | apply Take.there)) ?_
      refine vc_inns_out hfk ?_
      refine vc_take (A := inns D') (by repeat (first | exact Take.here | apply Take.there)) ?_
      refine vc_inns_out hf ?_
      repeat refine sy ?_
      refine so (op_callv (first := []) (capt := [.pointer (some ⟨by', 0, none⟩)]) (vs := [.map (some ib), .map (some ib')]) rfl (c_Same3 ib ib' bx by' I I') KCall.out rfl) fun _ _ => ?_
      repeat refine sy ?_
      refine vc_cond rfl (fun h => ?_) (fun h => ?_)
      · have h' : sameK I I' = false := by simpa using h
        repeat refine sy ?_
        exact en () trivial (hv := by rw [← h1]; simp only [h']; rfl) (ht := Takes.cons (Ent.trans (by repeat (first | exact Take.here | apply Take.there)) (star_mono itm_end (Ent.refl _))) (Takes.cons (take_inns_same (p := (ib, I)) hfk) (Takes.cons (by repeat (first | exact Take.here | apply Take.there)) (Takes.cons (take_inns_same (p := (ib', I')) hf) (by repeat (first | exact Takes.nil | (apply Takes.cons; repeat (first | exact Take.here | apply Take.there))))))))
      · have h' : sameK I I' = true := by simpa using h
        repeat refine sy ?_
        refine ag (delA rest k, some (k, (ib, I))) ?_ hlen (ht := Takes.cons (by repeat (first | exact Take.here | apply Take.there)) (Takes.cons (take_inns_same (p := (ib, I)) hfk) (Takes.cons (by repeat (first | exact Take.here | apply Take.there)) (Takes.cons (take_inns_same (p := (ib', I')) hf) (by repeat (first | exact Takes.nil | (apply Takes.cons; repeat (first | exact Take.here | apply Take.there))))))))
        rw [← h1]; simp only [h']; rfl
end Go.Proofs.YtikodfclemgfoaaDoor
