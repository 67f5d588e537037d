/- Contracts 35: ModelLists (seat D). -/
import Derived.Test.YtikodfclemgfoaaDoorSbK34
set_option linter.all false
set_option linter.unusedVariables false
namespace Go.Proofs.YtikodfclemgfoaaDoor
open Go.Sb
attribute [local irreducible] Go.wpList Go.Code.wp Go.Exit.then Go.Exit.inBlock Go.Sb.Ends Go.Sb.VC Go.Sb.VA Go.Sb.OpV Go.Sb.OpE Go.Sb.OpD
set_option maxHeartbeats 4000000
set_option maxRecDepth 10000
def qAll : Ask := ⟨[], [], 0, 1000⟩
def gObj (e : Entr) : Bool := e.latest && !e.v.mark
theorem inL_v (ys : List Entr) : inL qAll (vP qAll) ys = ys := by
  unfold inL
  rw [List.filter_eq_self]
  intro e _
  simp [pre, qAll, vP]
theorem inL_o (ys : List Entr) : inL qAll (oP qAll) ys = ys.filter gObj := by
  unfold inL
  congr 1
  funext e
  simp [pre, qAll, oP, gObj]
theorem not_bad : ¬ qAll.bad := by unfold Ask.bad qAll; decide
theorem verR_all {ys : List Entr} (h : ys.length ≤ 1000) : verR qAll ys = ⟨ys, false, [], 0⟩ := by
  unfold verR cutR
  rw [if_neg not_bad, inL_v]
  exact if_pos h
theorem objR_all {ys : List Entr} (h : ys.length ≤ 1000) : objR qAll ys = ⟨ys.filter gObj, false, [], 0⟩ := by
  have h2 : (ys.filter gObj).length ≤ 1000 := Nat.le_trans (List.length_filter_le _ _) h
  have : cutR qAll (oP qAll) ys = ⟨ys.filter gObj, false, [], 0⟩ := by
    unfold cutR
    rw [if_neg not_bad, inL_o]
    exact if_pos h2
  unfold objR
  rw [this]
theorem filt_at {ys : List Entr} {i : Nat} {e : Entr} (h : ys[i]? = some e) : ((ys.take (i + 1)).filter gObj) = (ys.take i).filter gObj ++ (if gObj e = true then [e] else []) := by
  rw [List.take_succ, h, List.filter_append]
  congr 1
  simp only [Option.toList, List.filter_cons, List.filter_nil]
theorem filt_get {ys : List Entr} {i : Nat} {e : Entr} (h : ys[i]? = some e) (hg : gObj e = true) : (ys.filter gObj)[((ys.take i).filter gObj).length]? = some e := by
  have h1 : ys.filter gObj = (ys.take i).filter gObj ++ e :: (ys.drop (i + 1)).filter gObj := by
    have h2 : ys.filter gObj = (ys.take (i + 1)).filter gObj ++ (ys.drop (i + 1)).filter gObj := by rw [← List.filter_append, List.take_append_drop]
    rw [h2, filt_at h, if_pos hg, List.append_assoc]; rfl
  rw [h1]
  exact get_app _ _ _ _ rfl
theorem op_neVer_same {e : Slots} {x y : Operand} {dst : Option Tmp} {t yt : TypeId} {pos : String} {aft : Array Edge} {g : Option (Nat × Bool)} {u : Ver} (hx : see e x = some (.agg ⟨u.cells⟩)) (hy : see e y = some (.agg ⟨u.cells⟩)) :
    OpV Tryd.prog e ⟨dst, .binOp .neq 36 x y yt, t, pos, aft, g⟩ (.bool false) := by
  have := op_neVer (dst := dst) (t := t) (yt := yt) (pos := pos) (aft := aft) (g := g) hx hy
  rwa [show (!decide (u = u)) = false by simp] at this
theorem op_neEnt_same {e : Slots} {x y : Operand} {dst : Option Tmp} {t yt : TypeId} {pos : String} {aft : Array Edge} {g : Option (Nat × Bool)} {u : Entr} (hx : see e x = some (.agg ⟨u.cells⟩)) (hy : see e y = some (.agg ⟨u.cells⟩)) :
    OpV Tryd.prog e ⟨dst, .binOp .neq 49 x y yt, t, pos, aft, g⟩ (.bool false) := by
  have := op_neEnt (dst := dst) (t := t) (yt := yt) (pos := pos) (aft := aft) (g := g) hx hy
  rwa [show (!decide (u = u)) = false by simp] at this
theorem c_ModelLists (a : Option Addr) (c : Nat) (xs : List Cho) : Does Tryd.prog 3 [.slice a xs.length c].toArray [rd rCho a c xs, TB] (fun _ : Unit => .bool true) (fun _ => True) (fun _ => []) := by
  refine spec_of Tryd.func3 rfl Tryd.ntmps3 rfl fun R w0 => ?_
  repeat refine sy ?_
  refine cd c_awake ?_
  repeat refine sy ?_
  refine vc_cond_f rfl ?_
  repeat refine sy ?_
  refine ca (c_Room a c xs 40) fun r hr => ?_
  cases r
  · repeat refine sy ?_
    refine vc_cond_t rfl ?_
    repeat refine sy ?_
    exact en () trivial
  have hxs := hr rfl
  repeat refine sy ?_
  refine vc_cond_f rfl ?_
  repeat refine sy ?_
  refine ca c_New fun m _ => ?_
  repeat refine sy ?_
  refine vc_cond_f rfl ?_
  repeat refine sy ?_
  refine cd (c_Make m St.empty tABC true nb_abc) ?_
  have e1 : mkErr St.empty tABC true = 0 := by decide
  rw [e1, if_pos rfl]
  repeat refine sy ?_
  refine lp (ι := Nat × St) (fun i => i.1 ≤ xs.length ∧ Inv i.2 i.1) (fun i => [(4, .int .i64 i.1), (0, .slice a xs.length c), (3, .pointer (some ⟨m, 0, none⟩))]) (fun i => [rd rCho a c xs, Mdl m i.2, TB, R]) (fun i => xs.length - i.1) (0, σ1) ⟨by simp, inv_1⟩ ?_
  rintro ⟨i, σ⟩ ⟨hi, hσ⟩
  dsimp only at hi hσ ⊢
  repeat refine sy ?_
  refine vc_cond_dec rfl (fun h => ?_) (fun h => ?_)
  · obtain ⟨x, hx⟩ := get_some (xs := xs) (k := i) (by omega)
    have hsm := hxs.2 x (List.mem_of_getElem? hx)
    repeat refine sy ?_
    refine s_loadx_rd (fun cs => ?_)
    refine vc_cho fun a1 c1 hc => ?_
    subst hc
    clear hx
    obtain ⟨act, bucket, key, data, n, at_, pre, frm, fid, most⟩ := x
    obtain ⟨s1, s2, s3, _, _⟩ := hsm
    simp only at s1 s2 s3
    repeat refine sy ?_
    refine s_alloc (fun b6 => ?_)
    have stay : Inv σ (i + 1) := ⟨hσ.has, hσ.bound, hσ.lean, hσ.keys, hσ.rises, fun Ks hn => Nat.le_succ_of_le (hσ.total Ks hn)⟩
    by_cases hact : act = 4 ∨ act = 7 ∨ act = 8
    rotate_left
    · repeat refine sy ?_
      refine vd (fun h => absurd (.inl h) hact) (fun h => ?_)
      repeat refine sy ?_
      refine vd (fun h => absurd (.inr (.inl h)) hact) (fun h => ?_)
      repeat refine sy ?_
      refine vc_cond_dec rfl (fun h => absurd (.inr (.inr h)) hact) (fun h => ?_)
      repeat refine sy ?_
      exact ag (i + 1, σ) ⟨by show i + 1 ≤ xs.length; omega, stay⟩ (by show xs.length - (i + 1) < xs.length - i; omega)
    · have nkx := nk_all key (by omega)
      have nxt : Inv (stepG σ (Cho.mk act tABC key data n at_ pre frm fid most) (10 + i) true (keyV key)) (i + 1) := hσ.step (Cho.mk act tABC key data n at_ pre frm fid most) (10 + i) rfl s2
      have hstep := c_CallStepG m σ (Cho.mk act tABC key data n at_ pre frm fid most) a1 c1 (10 + i) true (keyV key) hact nb_abc nkx hσ.bound
      generalize stepG σ (Cho.mk act tABC key data n at_ pre frm fid most) (10 + i) true (keyV key) = τ at nxt hstep
      rcases hact with rfl | rfl | rfl
      all_goals
        repeat refine sy ?_
        refine vc_cond_t rfl ?_
        repeat refine sy ?_
        refine ca hstep (fun _ _ => ?_)
        repeat refine sy ?_
        exact ag (i + 1, τ) ⟨by show i + 1 ≤ xs.length; omega, nxt⟩ (by show xs.length - (i + 1) < xs.length - i; omega)
  have hn : i ≤ 40 := by omega
  repeat refine sy ?_
  refine ca (c_Versions m σ tABC true nb_abc qAll (hσ.small (by omega))) (fun o ho => ?_)
  have hE : prtE σ tABC true qAll = 0 := by unfold prtE; rw [if_neg (by decide), if_neg not_bad, hσ.has]; rfl
  obtain ⟨s, ys⟩ := o
  obtain ⟨I, hI, pI, sI⟩ := ho hE
  dsimp only at pI sI ⊢
  have hlen : ys.length ≤ 1000 := by
    have := hσ.few hI
    have := pI.length_eq
    omega
  have hV : prtR verR σ tABC true qAll ys = ⟨ys, false, [], 0⟩ := by unfold prtR; rw [if_pos hE, verR_all hlen]
  rw [hE, hV]
  repeat refine sy ?_
  refine s_alloc (fun b6 => ?_)
  repeat refine sy ?_
  refine ca (c_Objects m σ tABC true nb_abc qAll (hσ.small (by omega))) (fun o ho2 => ?_)
  obtain ⟨s', ys'⟩ := o
  obtain ⟨I', hI', pI', sI'⟩ := ho2 hE
  dsimp only at pI' sI' ⊢
  have hys : ys' = ys := lists_eq hσ hI' hI pI' pI sI' sI
  subst hys
  have hO : prtR objR σ tABC true qAll ys' = ⟨ys'.filter gObj, false, [], 0⟩ := by unfold prtR; rw [if_pos hE, objR_all hlen]
  rw [hE, hO]
  repeat refine sy ?_
  refine s_alloc (fun b8 => ?_)
  repeat refine sy ?_
  refine vc_cond_f rfl ?_
  repeat refine sy ?_
  clear hV hO ho ho2 pI' sI' hI' sI
  have hfl : (ys'.filter gObj).length ≤ 1000000 := by
    have h1 := hσ.few hI
    have h2 := pI.length_eq
    have h3 := List.length_filter_le gObj ys'
    omega
  refine lp (ι := Nat) (fun k => k ≤ ys'.length) (fun k => [(10, .int .i64 ((ys'.take k).filter gObj).length), (11, .int .i64 k), (3, .pointer (some ⟨m, 0, none⟩)), (6, .pointer (some ⟨b6, 0, none⟩)), (8, .pointer (some ⟨b8, 0, none⟩))])
    (fun k => [blk b6 44 [.slice s.1 ys'.length s.2, .bool false, str [], .int .i64 0], blk b8 44 [.slice s'.1 (ys'.filter gObj).length s'.2, .bool false, str [], .int .i64 0], rd rEn s.1 s.2 ys', rd rEn s'.1 s'.2 (ys'.filter gObj), Mdl m σ, TB, R]) (fun k => ys'.length - k) 0 (Nat.zero_le _) ?_
  intro k hk
  repeat refine sy ?_
  refine vc_cond_dec rfl (fun h1 => ?_) (fun h1 => ?_)
  · obtain ⟨e, he⟩ := get_some (xs := ys') (k := k) (by omega)
    have he' : ys'[((k : Nat) : Int).toNat]? = some e := he
    have hmem : e ∈ entsI I := pI.mem_iff.1 (List.mem_of_getElem? he)
    obtain ⟨⟨g1, g2⟩, w, g3, g4, g5⟩ := head_listed hσ hI hmem
    have hkey := hσ.keys e.key (by
      obtain ⟨j, hj, _⟩ := (mem_entsI hI).1 hmem
      intro h0; rw [h0] at hj; simp at hj)
    have nke : NK e.key true := by have := nk_all e.key (by omega); rwa [hkey.2] at this
    have hfa := filt_at he
    repeat refine sy ?_
    refine s_alloc (fun b12 => ?_)
    repeat refine sy ?_
    refine cd (c_Head m σ tABC e.key e.v.id true true nb_abc nke (hσ.lean tABC e.key)) ?_
    rw [g1, g2]
    repeat refine sy ?_
    refine s_alloc (fun b13 => ?_)
    repeat refine sy ?_
    refine cd (c_Head m σ tABC e.key 0 true true nb_abc nke (hσ.lean tABC e.key)) ?_
    rw [g3, g4]
    repeat refine sy ?_
    refine s_alloc (fun b15 => ?_)
    repeat refine sy ?_
    refine vd_start ?_
    repeat refine dq ?_
    refine dq ?_ (hq := qt_pure (op_neVer_same (u := e.v) rfl rfl) (by first | exact wants_none | exact wants_some rfl rfl rfl rfl) rfl rfl)
    repeat refine dq ?_
    refine va_b (fun hb => ?_) (fun hb => ?_)
    · exfalso
      revert hb
      cases e.v.mark <;> decide
    repeat refine dq ?_
    refine dq ?_ (hq := qt_pure (op_eqVer (u := w) (v := e.v) rfl rfl) (by first | exact wants_none | exact wants_some rfl rfl rfl rfl) rfl rfl)
    repeat refine dq ?_
    refine va_end ?_
    repeat refine sy ?_
    refine vc_cond rfl (fun hb2 => ?_) (fun hb2 => ?_)
    · exfalso
      rw [g5] at hb2
      simp at hb2
    have stay : gObj e = false → ((ys'.take (k + 1)).filter gObj).length = ((ys'.take k).filter gObj).length := fun hg => by rw [hfa, hg]; simp
    repeat refine sy ?_
    refine vb (fun hl => ?_) (fun hl => ?_)
    · have hw : w = e.v := by rw [hl] at g5; exact of_decide_eq_true g5
      repeat refine sy ?_
      refine vc_cond_dec rfl (fun h2 => ?_) (fun h2 => ?_)
      · have hmk : e.v.mark = false := by
          rw [hw] at h2
          cases h3 : e.v.mark with
          | false => rfl
          | true => rw [h3] at h2; exact absurd h2 (by decide)
        have hg : gObj e = true := by unfold gObj; rw [hl, hmk]; rfl
        have hget := filt_get he hg
        have hjl : ((ys'.take k).filter gObj).length < (ys'.filter gObj).length := (List.getElem?_eq_some_iff.1 hget).1
        have hget' : (ys'.filter gObj)[((((ys'.take k).filter gObj).length : Nat) : Int).toNat]? = some e := hget
        have hj1 : ((((ys'.take k).filter gObj).length : Nat) : Int) + 1 = ((((ys'.take (k + 1)).filter gObj).length : Nat) : Int) := by rw [hfa, hg]; simp
        repeat refine sy ?_
        refine vd_start ?_
        repeat refine dq ?_
        refine va_dec (fun h3 => ?_) (fun h3 => ?_)
        · exfalso; omega
        repeat refine dq ?_
        refine dq ?_ (hq := qt_pure (op_neEnt_same (u := e) rfl rfl) (by first | exact wants_none | exact wants_some rfl rfl rfl rfl) rfl rfl)
        repeat refine dq ?_
        refine va_end ?_
        repeat refine sy ?_
        refine vc_cond_f rfl ?_
        repeat refine sy ?_
        rw [hj1]
        exact ag (k + 1) (by omega) (by omega)
      · have hg : gObj e = false := by
          unfold gObj
          cases h3 : e.v.mark with
          | true => simp
          | false => exfalso; apply h2; rw [hw, h3]; rfl
        repeat refine sy ?_
        rw [← stay hg]
        exact ag (k + 1) (by omega) (by omega)
    · have hg : gObj e = false := by unfold gObj; rw [hl]; rfl
      repeat refine sy ?_
      refine vc_cond_f rfl ?_
      repeat refine sy ?_
      rw [← stay hg]
      exact ag (k + 1) (by omega) (by omega)
  · repeat refine sy ?_
    have : k = ys'.length := by omega
    subst this
    rw [List.take_length]
    exact en () trivial (hv := by simp [tup])
end Go.Proofs.YtikodfclemgfoaaDoor
