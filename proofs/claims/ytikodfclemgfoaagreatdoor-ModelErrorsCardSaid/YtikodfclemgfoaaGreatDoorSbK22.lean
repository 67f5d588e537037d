/- ModelErrors: the plain law, and the walk. -/
import Derived.Test.YtikodfclemgfoaaGreatDoorSbK21
set_option linter.all false
set_option linter.unusedVariables false
namespace Go.Proofs.YtikodfclemgfoaaGreatDoor
open Go.Sb
attribute [local irreducible] Go.wpList Go.Code.wp Go.Exit.then Go.Exit.inBlock Go.Sb.Ends Go.Sb.VC Go.Sb.VA Go.Sb.OpV Go.Sb.OpE Go.Sb.OpD
set_option maxHeartbeats 4000000
set_option maxRecDepth 10000
/-! ### 1. The plain law -/
theorem bad1 {σ : St} {x : Cho} {id : Int} {ob ok : Bool} (h : (ob && ok) = false) : callErr σ x id ob ok = 12 := by
  have h' : (!(ob && ok)) = true := by rw [h]; rfl
  have hf : ∀ n l, findR σ x.bucket x.key n l ob ok = (Kept.zero, 0, 12) := fun n l => by unfold findR; rw [if_pos h']
  unfold callErr putErr delErr eraErr getR
  simp only [hf]
  rw [if_pos h']
  repeat' split
  all_goals first | rfl | (simp_all)
theorem findR_err {σ : St} {b k : Txt} {n l e : Int} (hn : l ≤ n) (he : verErr σ b k = e) (h0 : e ≠ 0) : findR σ b k n l true true = (Kept.zero, 0, e) := by
  unfold findR
  rw [if_neg (by decide), if_neg (by omega), if_pos (by rw [he]; exact h0), he]
theorem bad23 {σ : St} {x : Cho} {id e : Int} (he : verErr σ x.bucket x.key = e) (h0 : e ≠ 0) (hp : x.act = 4 → σ.has x.bucket = false ∧ x.data.length ≤ 65536) (hn : 0 ≤ x.n) (h8 : ¬ (x.act = 8 ∧ x.n = 0)) : callErr σ x id true true = e := by
  unfold callErr
  split
  · rename_i h4
    obtain ⟨a, b⟩ := hp h4
    have : verErr σ x.bucket x.key = 13 := by unfold verErr; rw [if_neg (by rw [a]; decide)]
    unfold putErr
    rw [if_neg (by decide), if_neg (by omega), if_pos (by rw [a]; rfl)]
    omega
  split
  · unfold delErr; rw [findR_err (by omega) he h0, if_pos h0]
  split
  · rename_i h
    unfold eraErr; rw [findR_err (by have : x.n ≠ 0 := fun e => h8 ⟨h, e⟩; omega) he h0]
  · unfold getR; rw [findR_err hn he h0]; simp only [h0, ne_eq, not_false_eq_true, if_true]
def σE : St := putSt σ1 tABC [107] 5 [120] 0
theorem σE_v (b k : Txt) : σE.v b k = if b = tABC ∧ k = [107] then [mkKept 5 [120]] else [] := by
  have h1 : ∀ b k, σ1.v b k = [] := fun b k => by
    show (if b = tABC then [] else []) = ([] : List Kept)
    split <;> rfl
  show (if b = tABC ∧ k = [107] then σ1.v tABC [107] ++ [mkKept 5 [120]] else σ1.v b k) = _
  rw [h1, h1]; rfl
theorem σE_has (b : Txt) : σE.has b = decide (b = tABC) := by
  show (if b = tABC then true else false) = _
  split <;> simp_all
theorem σE_bound : Bound σE := by
  intro b k; rw [σE_v]; split <;> simp
theorem σE_lean : Lean0 σE := by
  intro b k x hx
  rw [σE_v] at hx
  split at hx
  · simp only [List.mem_singleton] at hx; subst hx; decide
  · cases hx
theorem err13 {x : Cho} {id : Int} (hb : x.bucket ≠ tABC) (hd : x.data.length ≤ 3000) (hn : 0 ≤ x.n) (h8 : ¬ (x.act = 8 ∧ x.n = 0)) : callErr σE x id true true = 13 := by
  have hh : σE.has x.bucket = false := by rw [σE_has]; simp [hb]
  exact bad23 (by unfold verErr; rw [if_neg (by rw [hh]; decide)]) (by decide) (fun _ => ⟨hh, by omega⟩) hn h8
theorem err14 {x : Cho} {id : Int} (hb : x.bucket = tABC) (hk : x.key ≠ [107]) (h4 : x.act ≠ 4) (hn : 0 ≤ x.n) (h8 : ¬ (x.act = 8 ∧ x.n = 0)) : callErr σE x id true true = 14 := by
  refine bad23 ?_ (by decide) (fun h => absurd h h4) hn h8
  unfold verErr
  have hv : σE.v x.bucket x.key = [] := by rw [σE_v, if_neg (fun h => hk h.2)]
  rw [if_pos (by rw [σE_has]; simp [hb]), hv]; rfl
theorem SameSt.refl (σ : St) : SameSt σ σ := fun b => ⟨rfl, fun k => rfl⟩
/-! ### 2. The walk -/
theorem c_ModelErrors (a : Option Addr) (c : Nat) (xs : List Cho) : Does Tryz.prog 4 [.slice a xs.length c].toArray [rd rCho a c xs, TB] (fun _ : Unit => .bool true) (fun _ => True) (fun _ => []) := by
  refine spec_of Tryz.func4 rfl Tryz.ntmps4 rfl fun R w0 => ?_
  repeat refine sy ?_
  refine cd c_awake ?_
  repeat refine sy ?_
  refine vc_cond_f rfl ?_
  repeat refine sy ?_
  refine ca (c_Room a c xs 40) fun r hr => ?_
  cases r
  · repeat refine sy ?_
    refine vc_cond_t rfl ?_
    repeat refine sy ?_
    exact en () trivial
  have hxs := hr rfl
  repeat refine sy ?_
  refine vc_cond_f rfl ?_
  repeat refine sy ?_
  refine ca c_New fun m _ => ?_
  repeat refine sy ?_
  refine vc_cond_f rfl ?_
  repeat refine sy ?_
  refine cd (c_Make m St.empty tABC true nb_abc) ?_
  have e1 : mkErr St.empty tABC true = 0 := by decide
  rw [e1, if_pos rfl]
  repeat refine sy ?_
  refine s_buildSlice (fun b1 => ?_)
  repeat refine sy ?_
  refine sod (op_mark (xs := [120]) (by decide) KSlice.und KUnd.out rfl rfl (by decide)) ?_
  repeat refine sy ?_
  refine cd (c_Put m σ1 5 tABC [107] [120] (some ⟨b1, 0, none⟩) 1 true true nb_abc nk_k) ?_
  have e2 : putErr σ1 tABC [107] 5 [120] true true = 0 := by decide +kernel
  rw [e2]
  repeat refine sy ?_
  refine ca (c_Copy m σE σE_bound) fun m2 _ => ?_
  repeat refine sy ?_
  refine vc_cond_f rfl ?_
  repeat refine sy ?_
  refine lp (ι := Nat) (fun i => i ≤ xs.length) (fun i => [(5, .int .i64 i), (0, .slice a xs.length c), (3, .pointer (some ⟨m, 0, none⟩)), (4, .pointer (some ⟨m2, 0, none⟩))]) (fun _ => [rd rCho a c xs, Mdl m σE, Mdl m2 σE, TB, R]) (fun i => xs.length - i) 0 (by omega) ?_
  intro i hi
  repeat refine sy ?_
  refine vc_cond_dec rfl (fun h => ?_) (fun h => ?_)
  rotate_left
  · repeat refine sy ?_
    exact en () trivial
  obtain ⟨x, hx⟩ := get_some (xs := xs) (k := i) (by omega)
  have hsm := hxs.2 x (List.mem_of_getElem? hx)
  repeat refine sy ?_
  refine s_loadx_rd (fun cs => ?_)
  refine vc_cho fun a1 c1 hc => ?_
  subst hc
  clear hx
  obtain ⟨act, bucket, key, data, n, at_, pre, frm, fid, most⟩ := x
  obtain ⟨s1, s2, s3, _, _⟩ := hsm
  simp only at s1 s2 s3
  repeat refine sy ?_
  refine s_alloc (fun b6 => ?_)
  by_cases hact : act = 4 ∨ act = 5 ∨ act = 6 ∨ act = 7 ∨ act = 8
  rotate_left
  · repeat refine sy ?_
    refine vd (fun h => absurd (.inl h) hact) (fun h => ?_)
    repeat refine sy ?_
    refine vd (fun h => absurd (.inr (.inl h)) hact) (fun h => ?_)
    repeat refine sy ?_
    refine vd (fun h => absurd (.inr (.inr (.inl h))) hact) (fun h => ?_)
    repeat refine sy ?_
    refine vd (fun h => absurd (.inr (.inr (.inr (.inl h)))) hact) (fun h => ?_)
    repeat refine sy ?_
    refine vc_cond_ndec rfl (fun h => ?_) (fun h => absurd (.inr (.inr (.inr (.inr h)))) hact)
    repeat refine sy ?_
    exact ag (i + 1) (by omega) (by omega)
  have nbx := nb_all bucket (by omega)
  have nkx := nk_all key (by omega)
  have rbx := c_RefBucket bucket (by omega)
  have rkx := c_RefKey key (by omega)
  generalize bucketOk bucket = ob at nbx rbx
  generalize keyV key = ok at nkx rkx
  rcases hact with rfl | rfl | rfl | rfl | rfl
  · repeat refine sy ?_
    refine vc_cond_f rfl ?_
    repeat refine sy ?_
    refine cd rbx ?_
    cases ob
    · repeat refine sy ?_
      refine vc_cond_t rfl ?_
      repeat refine sy ?_
      have hE : callErr σE (Cho.mk 4 bucket key data n at_ pre frm fid most) (9 + i) false ok = 12 := bad1 rfl
      refine ca (c_CallBad m σE (Cho.mk 4 bucket key data n at_ pre frm fid most) a1 c1 (9 + i) false ok (by simp) nbx nkx σE_lean σE_bound (by rw [hE]; decide)) (fun q _ => ?_)
      rw [hE]
      repeat refine sy ?_
      refine ca (c_Same m m2 σE σE) (fun r hr => ?_)
      obtain rfl : r = true := hr.2 (SameSt.refl σE)
      repeat refine sy ?_
      refine vc_cond_f rfl ?_
      repeat refine sy ?_
      exact ag (i + 1) (by omega) (by omega)
    · repeat refine sy ?_
      refine cd rkx ?_
      cases ok
      · repeat refine sy ?_
        refine vc_cond_t rfl ?_
        repeat refine sy ?_
        have hE : callErr σE (Cho.mk 4 bucket key data n at_ pre frm fid most) (9 + i) true false = 12 := bad1 rfl
        refine ca (c_CallBad m σE (Cho.mk 4 bucket key data n at_ pre frm fid most) a1 c1 (9 + i) true false (by simp) nbx nkx σE_lean σE_bound (by rw [hE]; decide)) (fun q _ => ?_)
        rw [hE]
        repeat refine sy ?_
        refine ca (c_Same m m2 σE σE) (fun r hr => ?_)
        obtain rfl : r = true := hr.2 (SameSt.refl σE)
        repeat refine sy ?_
        refine vc_cond_f rfl ?_
        repeat refine sy ?_
        exact ag (i + 1) (by omega) (by omega)
      · repeat' (first | refine sy ?_ | refine vd (fun h => ?_) (fun h => ?_) | refine vdn (fun h => ?_) (fun h => ?_) | refine vc_cond_t rfl ?_ | refine vc_cond_f rfl ?_ | refine vc_cond_dec rfl (fun h => ?_) (fun h => ?_) | refine vc_cond_ndec rfl (fun h => ?_) (fun h => ?_))
        all_goals first
          | (exact ag (i + 1) (by omega) (by omega))
          | (exfalso; contradiction)
          | (have hE : callErr σE (Cho.mk 4 bucket key data n at_ pre frm fid most) (9 + i) true true = 13 := err13 (x := (Cho.mk 4 bucket key data n at_ pre frm fid most)) (by assumption) (by assumption) (by assumption) (by simp)
             refine ca (c_CallBad m σE (Cho.mk 4 bucket key data n at_ pre frm fid most) a1 c1 (9 + i) true true (by simp) nbx nkx σE_lean σE_bound (by rw [hE]; decide)) (fun q _ => ?_)
             rw [hE]
             repeat refine sy ?_
             refine ca (c_Same m m2 σE σE) (fun r hr => ?_)
             obtain rfl : r = true := hr.2 (SameSt.refl σE)
             repeat refine sy ?_
             refine vc_cond_f rfl ?_
             repeat refine sy ?_
             exact ag (i + 1) (by omega) (by omega))
          | (have hE : callErr σE (Cho.mk 4 bucket key data n at_ pre frm fid most) (9 + i) true true = 14 := err14 (x := (Cho.mk 4 bucket key data n at_ pre frm fid most)) (by assumption) (by assumption) (by simp) (by assumption) (by simp)
             refine ca (c_CallBad m σE (Cho.mk 4 bucket key data n at_ pre frm fid most) a1 c1 (9 + i) true true (by simp) nbx nkx σE_lean σE_bound (by rw [hE]; decide)) (fun q _ => ?_)
             rw [hE]
             repeat refine sy ?_
             refine ca (c_Same m m2 σE σE) (fun r hr => ?_)
             obtain rfl : r = true := hr.2 (SameSt.refl σE)
             repeat refine sy ?_
             refine vc_cond_f rfl ?_
             repeat refine sy ?_
             exact ag (i + 1) (by omega) (by omega))
  · repeat refine sy ?_
    refine vc_cond_f rfl ?_
    repeat refine sy ?_
    refine cd rbx ?_
    cases ob
    · repeat refine sy ?_
      refine vc_cond_t rfl ?_
      repeat refine sy ?_
      have hE : callErr σE (Cho.mk 5 bucket key data n at_ pre frm fid most) (9 + i) false ok = 12 := bad1 rfl
      refine ca (c_CallBad m σE (Cho.mk 5 bucket key data n at_ pre frm fid most) a1 c1 (9 + i) false ok (by simp) nbx nkx σE_lean σE_bound (by rw [hE]; decide)) (fun q _ => ?_)
      rw [hE]
      repeat refine sy ?_
      refine ca (c_Same m m2 σE σE) (fun r hr => ?_)
      obtain rfl : r = true := hr.2 (SameSt.refl σE)
      repeat refine sy ?_
      refine vc_cond_f rfl ?_
      repeat refine sy ?_
      exact ag (i + 1) (by omega) (by omega)
    · repeat refine sy ?_
      refine cd rkx ?_
      cases ok
      · repeat refine sy ?_
        refine vc_cond_t rfl ?_
        repeat refine sy ?_
        have hE : callErr σE (Cho.mk 5 bucket key data n at_ pre frm fid most) (9 + i) true false = 12 := bad1 rfl
        refine ca (c_CallBad m σE (Cho.mk 5 bucket key data n at_ pre frm fid most) a1 c1 (9 + i) true false (by simp) nbx nkx σE_lean σE_bound (by rw [hE]; decide)) (fun q _ => ?_)
        rw [hE]
        repeat refine sy ?_
        refine ca (c_Same m m2 σE σE) (fun r hr => ?_)
        obtain rfl : r = true := hr.2 (SameSt.refl σE)
        repeat refine sy ?_
        refine vc_cond_f rfl ?_
        repeat refine sy ?_
        exact ag (i + 1) (by omega) (by omega)
      · repeat' (first | refine sy ?_ | refine vd (fun h => ?_) (fun h => ?_) | refine vdn (fun h => ?_) (fun h => ?_) | refine vc_cond_t rfl ?_ | refine vc_cond_f rfl ?_ | refine vc_cond_dec rfl (fun h => ?_) (fun h => ?_) | refine vc_cond_ndec rfl (fun h => ?_) (fun h => ?_))
        all_goals first
          | (exact ag (i + 1) (by omega) (by omega))
          | (exfalso; contradiction)
          | (have hE : callErr σE (Cho.mk 5 bucket key data n at_ pre frm fid most) (9 + i) true true = 13 := err13 (x := (Cho.mk 5 bucket key data n at_ pre frm fid most)) (by assumption) (by assumption) (by assumption) (by simp)
             refine ca (c_CallBad m σE (Cho.mk 5 bucket key data n at_ pre frm fid most) a1 c1 (9 + i) true true (by simp) nbx nkx σE_lean σE_bound (by rw [hE]; decide)) (fun q _ => ?_)
             rw [hE]
             repeat refine sy ?_
             refine ca (c_Same m m2 σE σE) (fun r hr => ?_)
             obtain rfl : r = true := hr.2 (SameSt.refl σE)
             repeat refine sy ?_
             refine vc_cond_f rfl ?_
             repeat refine sy ?_
             exact ag (i + 1) (by omega) (by omega))
          | (have hE : callErr σE (Cho.mk 5 bucket key data n at_ pre frm fid most) (9 + i) true true = 14 := err14 (x := (Cho.mk 5 bucket key data n at_ pre frm fid most)) (by assumption) (by assumption) (by simp) (by assumption) (by simp)
             refine ca (c_CallBad m σE (Cho.mk 5 bucket key data n at_ pre frm fid most) a1 c1 (9 + i) true true (by simp) nbx nkx σE_lean σE_bound (by rw [hE]; decide)) (fun q _ => ?_)
             rw [hE]
             repeat refine sy ?_
             refine ca (c_Same m m2 σE σE) (fun r hr => ?_)
             obtain rfl : r = true := hr.2 (SameSt.refl σE)
             repeat refine sy ?_
             refine vc_cond_f rfl ?_
             repeat refine sy ?_
             exact ag (i + 1) (by omega) (by omega))
  · repeat refine sy ?_
    refine vc_cond_f rfl ?_
    repeat refine sy ?_
    refine cd rbx ?_
    cases ob
    · repeat refine sy ?_
      refine vc_cond_t rfl ?_
      repeat refine sy ?_
      have hE : callErr σE (Cho.mk 6 bucket key data n at_ pre frm fid most) (9 + i) false ok = 12 := bad1 rfl
      refine ca (c_CallBad m σE (Cho.mk 6 bucket key data n at_ pre frm fid most) a1 c1 (9 + i) false ok (by simp) nbx nkx σE_lean σE_bound (by rw [hE]; decide)) (fun q _ => ?_)
      rw [hE]
      repeat refine sy ?_
      refine ca (c_Same m m2 σE σE) (fun r hr => ?_)
      obtain rfl : r = true := hr.2 (SameSt.refl σE)
      repeat refine sy ?_
      refine vc_cond_f rfl ?_
      repeat refine sy ?_
      exact ag (i + 1) (by omega) (by omega)
    · repeat refine sy ?_
      refine cd rkx ?_
      cases ok
      · repeat refine sy ?_
        refine vc_cond_t rfl ?_
        repeat refine sy ?_
        have hE : callErr σE (Cho.mk 6 bucket key data n at_ pre frm fid most) (9 + i) true false = 12 := bad1 rfl
        refine ca (c_CallBad m σE (Cho.mk 6 bucket key data n at_ pre frm fid most) a1 c1 (9 + i) true false (by simp) nbx nkx σE_lean σE_bound (by rw [hE]; decide)) (fun q _ => ?_)
        rw [hE]
        repeat refine sy ?_
        refine ca (c_Same m m2 σE σE) (fun r hr => ?_)
        obtain rfl : r = true := hr.2 (SameSt.refl σE)
        repeat refine sy ?_
        refine vc_cond_f rfl ?_
        repeat refine sy ?_
        exact ag (i + 1) (by omega) (by omega)
      · repeat' (first | refine sy ?_ | refine vd (fun h => ?_) (fun h => ?_) | refine vdn (fun h => ?_) (fun h => ?_) | refine vc_cond_t rfl ?_ | refine vc_cond_f rfl ?_ | refine vc_cond_dec rfl (fun h => ?_) (fun h => ?_) | refine vc_cond_ndec rfl (fun h => ?_) (fun h => ?_))
        all_goals first
          | (exact ag (i + 1) (by omega) (by omega))
          | (exfalso; contradiction)
          | (have hE : callErr σE (Cho.mk 6 bucket key data n at_ pre frm fid most) (9 + i) true true = 13 := err13 (x := (Cho.mk 6 bucket key data n at_ pre frm fid most)) (by assumption) (by assumption) (by assumption) (by simp)
             refine ca (c_CallBad m σE (Cho.mk 6 bucket key data n at_ pre frm fid most) a1 c1 (9 + i) true true (by simp) nbx nkx σE_lean σE_bound (by rw [hE]; decide)) (fun q _ => ?_)
             rw [hE]
             repeat refine sy ?_
             refine ca (c_Same m m2 σE σE) (fun r hr => ?_)
             obtain rfl : r = true := hr.2 (SameSt.refl σE)
             repeat refine sy ?_
             refine vc_cond_f rfl ?_
             repeat refine sy ?_
             exact ag (i + 1) (by omega) (by omega))
          | (have hE : callErr σE (Cho.mk 6 bucket key data n at_ pre frm fid most) (9 + i) true true = 14 := err14 (x := (Cho.mk 6 bucket key data n at_ pre frm fid most)) (by assumption) (by assumption) (by simp) (by assumption) (by simp)
             refine ca (c_CallBad m σE (Cho.mk 6 bucket key data n at_ pre frm fid most) a1 c1 (9 + i) true true (by simp) nbx nkx σE_lean σE_bound (by rw [hE]; decide)) (fun q _ => ?_)
             rw [hE]
             repeat refine sy ?_
             refine ca (c_Same m m2 σE σE) (fun r hr => ?_)
             obtain rfl : r = true := hr.2 (SameSt.refl σE)
             repeat refine sy ?_
             refine vc_cond_f rfl ?_
             repeat refine sy ?_
             exact ag (i + 1) (by omega) (by omega))
  · repeat refine sy ?_
    refine vc_cond_f rfl ?_
    repeat refine sy ?_
    refine cd rbx ?_
    cases ob
    · repeat refine sy ?_
      refine vc_cond_t rfl ?_
      repeat refine sy ?_
      have hE : callErr σE (Cho.mk 7 bucket key data n at_ pre frm fid most) (9 + i) false ok = 12 := bad1 rfl
      refine ca (c_CallBad m σE (Cho.mk 7 bucket key data n at_ pre frm fid most) a1 c1 (9 + i) false ok (by simp) nbx nkx σE_lean σE_bound (by rw [hE]; decide)) (fun q _ => ?_)
      rw [hE]
      repeat refine sy ?_
      refine ca (c_Same m m2 σE σE) (fun r hr => ?_)
      obtain rfl : r = true := hr.2 (SameSt.refl σE)
      repeat refine sy ?_
      refine vc_cond_f rfl ?_
      repeat refine sy ?_
      exact ag (i + 1) (by omega) (by omega)
    · repeat refine sy ?_
      refine cd rkx ?_
      cases ok
      · repeat refine sy ?_
        refine vc_cond_t rfl ?_
        repeat refine sy ?_
        have hE : callErr σE (Cho.mk 7 bucket key data n at_ pre frm fid most) (9 + i) true false = 12 := bad1 rfl
        refine ca (c_CallBad m σE (Cho.mk 7 bucket key data n at_ pre frm fid most) a1 c1 (9 + i) true false (by simp) nbx nkx σE_lean σE_bound (by rw [hE]; decide)) (fun q _ => ?_)
        rw [hE]
        repeat refine sy ?_
        refine ca (c_Same m m2 σE σE) (fun r hr => ?_)
        obtain rfl : r = true := hr.2 (SameSt.refl σE)
        repeat refine sy ?_
        refine vc_cond_f rfl ?_
        repeat refine sy ?_
        exact ag (i + 1) (by omega) (by omega)
      · repeat' (first | refine sy ?_ | refine vd (fun h => ?_) (fun h => ?_) | refine vdn (fun h => ?_) (fun h => ?_) | refine vc_cond_t rfl ?_ | refine vc_cond_f rfl ?_ | refine vc_cond_dec rfl (fun h => ?_) (fun h => ?_) | refine vc_cond_ndec rfl (fun h => ?_) (fun h => ?_))
        all_goals first
          | (exact ag (i + 1) (by omega) (by omega))
          | (exfalso; contradiction)
          | (have hE : callErr σE (Cho.mk 7 bucket key data n at_ pre frm fid most) (9 + i) true true = 13 := err13 (x := (Cho.mk 7 bucket key data n at_ pre frm fid most)) (by assumption) (by assumption) (by assumption) (by simp)
             refine ca (c_CallBad m σE (Cho.mk 7 bucket key data n at_ pre frm fid most) a1 c1 (9 + i) true true (by simp) nbx nkx σE_lean σE_bound (by rw [hE]; decide)) (fun q _ => ?_)
             rw [hE]
             repeat refine sy ?_
             refine ca (c_Same m m2 σE σE) (fun r hr => ?_)
             obtain rfl : r = true := hr.2 (SameSt.refl σE)
             repeat refine sy ?_
             refine vc_cond_f rfl ?_
             repeat refine sy ?_
             exact ag (i + 1) (by omega) (by omega))
          | (have hE : callErr σE (Cho.mk 7 bucket key data n at_ pre frm fid most) (9 + i) true true = 14 := err14 (x := (Cho.mk 7 bucket key data n at_ pre frm fid most)) (by assumption) (by assumption) (by simp) (by assumption) (by simp)
             refine ca (c_CallBad m σE (Cho.mk 7 bucket key data n at_ pre frm fid most) a1 c1 (9 + i) true true (by simp) nbx nkx σE_lean σE_bound (by rw [hE]; decide)) (fun q _ => ?_)
             rw [hE]
             repeat refine sy ?_
             refine ca (c_Same m m2 σE σE) (fun r hr => ?_)
             obtain rfl : r = true := hr.2 (SameSt.refl σE)
             repeat refine sy ?_
             refine vc_cond_f rfl ?_
             repeat refine sy ?_
             exact ag (i + 1) (by omega) (by omega))
  · repeat refine sy ?_
    refine vc_cond_f rfl ?_
    repeat refine sy ?_
    refine cd rbx ?_
    cases ob
    · repeat refine sy ?_
      refine vc_cond_t rfl ?_
      repeat refine sy ?_
      have hE : callErr σE (Cho.mk 8 bucket key data n at_ pre frm fid most) (9 + i) false ok = 12 := bad1 rfl
      refine ca (c_CallBad m σE (Cho.mk 8 bucket key data n at_ pre frm fid most) a1 c1 (9 + i) false ok (by simp) nbx nkx σE_lean σE_bound (by rw [hE]; decide)) (fun q _ => ?_)
      rw [hE]
      repeat refine sy ?_
      refine ca (c_Same m m2 σE σE) (fun r hr => ?_)
      obtain rfl : r = true := hr.2 (SameSt.refl σE)
      repeat refine sy ?_
      refine vc_cond_f rfl ?_
      repeat refine sy ?_
      exact ag (i + 1) (by omega) (by omega)
    · repeat refine sy ?_
      refine cd rkx ?_
      cases ok
      · repeat refine sy ?_
        refine vc_cond_t rfl ?_
        repeat refine sy ?_
        have hE : callErr σE (Cho.mk 8 bucket key data n at_ pre frm fid most) (9 + i) true false = 12 := bad1 rfl
        refine ca (c_CallBad m σE (Cho.mk 8 bucket key data n at_ pre frm fid most) a1 c1 (9 + i) true false (by simp) nbx nkx σE_lean σE_bound (by rw [hE]; decide)) (fun q _ => ?_)
        rw [hE]
        repeat refine sy ?_
        refine ca (c_Same m m2 σE σE) (fun r hr => ?_)
        obtain rfl : r = true := hr.2 (SameSt.refl σE)
        repeat refine sy ?_
        refine vc_cond_f rfl ?_
        repeat refine sy ?_
        exact ag (i + 1) (by omega) (by omega)
      · repeat' (first | refine sy ?_ | refine vd (fun h => ?_) (fun h => ?_) | refine vdn (fun h => ?_) (fun h => ?_) | refine vc_cond_t rfl ?_ | refine vc_cond_f rfl ?_ | refine vc_cond_dec rfl (fun h => ?_) (fun h => ?_) | refine vc_cond_ndec rfl (fun h => ?_) (fun h => ?_))
        all_goals first
          | (exact ag (i + 1) (by omega) (by omega))
          | (exfalso; contradiction)
          | (have hE : callErr σE (Cho.mk 8 bucket key data n at_ pre frm fid most) (9 + i) true true = 13 := err13 (x := (Cho.mk 8 bucket key data n at_ pre frm fid most)) (by assumption) (by assumption) (by assumption) (fun hh => absurd hh.2 (by assumption))
             refine ca (c_CallBad m σE (Cho.mk 8 bucket key data n at_ pre frm fid most) a1 c1 (9 + i) true true (by simp) nbx nkx σE_lean σE_bound (by rw [hE]; decide)) (fun q _ => ?_)
             rw [hE]
             repeat refine sy ?_
             refine ca (c_Same m m2 σE σE) (fun r hr => ?_)
             obtain rfl : r = true := hr.2 (SameSt.refl σE)
             repeat refine sy ?_
             refine vc_cond_f rfl ?_
             repeat refine sy ?_
             exact ag (i + 1) (by omega) (by omega))
          | (have hE : callErr σE (Cho.mk 8 bucket key data n at_ pre frm fid most) (9 + i) true true = 14 := err14 (x := (Cho.mk 8 bucket key data n at_ pre frm fid most)) (by assumption) (by assumption) (by simp) (by assumption) (fun hh => absurd hh.2 (by assumption))
             refine ca (c_CallBad m σE (Cho.mk 8 bucket key data n at_ pre frm fid most) a1 c1 (9 + i) true true (by simp) nbx nkx σE_lean σE_bound (by rw [hE]; decide)) (fun q _ => ?_)
             rw [hE]
             repeat refine sy ?_
             refine ca (c_Same m m2 σE σE) (fun r hr => ?_)
             obtain rfl : r = true := hr.2 (SameSt.refl σE)
             repeat refine sy ?_
             refine vc_cond_f rfl ?_
             repeat refine sy ?_
             exact ag (i + 1) (by omega) (by omega))
end Go.Proofs.YtikodfclemgfoaaGreatDoor
