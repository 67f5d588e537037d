/- ModelOrder: the plain law, and the walk. -/
import Derived.Test.YtikodfclemgfoaaDoorSbK15
set_option linter.all false
set_option linter.unusedVariables false
set_option linter.unusedSimpArgs false
namespace Go.Proofs.YtikodfclemgfoaaDoor
open Go.Sb
attribute [local irreducible] Go.wpList Go.Code.wp Go.Exit.then Go.Exit.inBlock Go.Sb.Ends Go.Sb.VC Go.Sb.VA Go.Sb.OpV Go.Sb.OpE Go.Sb.OpD
set_option maxHeartbeats 1000000
/-! ### 1. The plain law -/
def runAll : St → Int → List Cho → St
  | σ, _, [] => σ
  | σ, n, x :: l => runAll (step σ x n) (n + 1) l
def runBoth : St → Int → List Cho → List Cho → St
  | σ, n, p, [] => runAll σ n p
  | σ, n, [], q => runAll σ n q
  | σ, n, x :: p, y :: q => runBoth (step (step σ y n) x n) (n + 1) p q
/-- What a choice makes of its key's versions. -/
def stepL (h : Bool) (l : List Kept) (x : Cho) (id : Int) : List Kept := (step ⟨fun _ => h, 0, fun _ _ => l⟩ x id).v x.bucket x.key
theorem step_has (σ : St) (x : Cho) (id : Int) (b : Txt) : (step σ x id).has b = σ.has b := by
  unfold step putSt delSt eraSt St.set
  repeat' split
  all_goals rfl
theorem moreErr_of {σ τ : St} {b k : Txt} {x : Kept} (hv : σ.v b k = τ.v b k) : moreErr σ b k x = moreErr τ b k x := by
  unfold moreErr; rw [hv]
theorem findR_of {σ τ : St} {b k : Txt} {id least : Int} {ob ok : Bool} (hh : σ.has b = τ.has b) (hv : σ.v b k = τ.v b k) : findR σ b k id least ob ok = findR τ b k id least ob ok := by
  unfold findR verErr; rw [hh, hv]
theorem step_same (σ : St) (x : Cho) (id : Int) : (step σ x id).v x.bucket x.key = stepL (σ.has x.bucket) (σ.v x.bucket x.key) x id := by
  have hh : σ.has x.bucket = (⟨fun _ => σ.has x.bucket, 0, fun _ _ => σ.v x.bucket x.key⟩ : St).has x.bucket := rfl
  have hv : σ.v x.bucket x.key = (⟨fun _ => σ.has x.bucket, 0, fun _ _ => σ.v x.bucket x.key⟩ : St).v x.bucket x.key := rfl
  unfold stepL
  generalize (⟨fun _ => σ.has x.bucket, 0, fun _ _ => σ.v x.bucket x.key⟩ : St) = τ at hh hv
  have hp : putErr σ x.bucket x.key id x.data true true = putErr τ x.bucket x.key id x.data true true := by
    unfold putErr; rw [hh, moreErr_of hv]
  have hd : delErr σ x.bucket x.key id true true = delErr τ x.bucket x.key id true true := by
    unfold delErr; rw [findR_of hh hv, moreErr_of hv]
  unfold step
  split
  · unfold putSt; rw [hp]; split
    · simp [set_v, hv]
    · exact hv
  split
  · unfold delSt; rw [hd]; split
    · simp [set_v, hv]
    · exact hv
  · unfold eraSt eraErr; rw [findR_of hh hv]; split
    · simp [set_v, hv]
    · exact hv
theorem step_other (σ : St) (x : Cho) (id : Int) (b k : Txt) (h : ¬ (b = x.bucket ∧ k = x.key)) : (step σ x id).v b k = σ.v b k := by
  unfold step putSt delSt eraSt
  repeat' split
  all_goals first | rfl | (rw [set_v, if_neg h])
/-- A row of choices, all of one key. -/
def runL (h : Bool) : List Kept → Int → List Cho → List Kept
  | l, _, [] => l
  | l, n, x :: r => runL h (stepL h l x n) (n + 1) r
def Of (k : Txt) (p : List Cho) : Prop := ∀ x ∈ p, x.bucket = tABC ∧ x.key = k
theorem runAll_has (p : List Cho) : ∀ (σ : St) (n : Int) (b : Txt), (runAll σ n p).has b = σ.has b := by
  induction p with
  | nil => intro σ n b; rfl
  | cons x p ih => intro σ n b; rw [runAll, ih, step_has]
theorem runAll_v {k : Txt} : ∀ {p : List Cho}, Of k p → ∀ (σ : St) (n : Int), (runAll σ n p).v tABC k = runL (σ.has tABC) (σ.v tABC k) n p
  | [], _, _, _ => rfl
  | x :: p, hp, σ, n => by
    obtain ⟨h1, h2⟩ := hp x (by simp)
    rw [runAll, runAll_v (fun y hy => hp y (by simp [hy])), runL, step_has]
    have := step_same σ x n
    rw [h1, h2] at this
    rw [this]
theorem runAll_other {k : Txt} : ∀ {p : List Cho}, Of k p → ∀ (σ : St) (n : Int) (b j : Txt), ¬ (b = tABC ∧ j = k) → (runAll σ n p).v b j = σ.v b j
  | [], _, _, _, _, _, _ => rfl
  | x :: p, hp, σ, n, b, j, h => by
    obtain ⟨h1, h2⟩ := hp x (by simp)
    rw [runAll, runAll_other (fun y hy => hp y (by simp [hy])) _ _ _ _ h, step_other _ _ _ _ _ (by rw [h1, h2]; exact h)]
/-- What all keys have behind both rows. -/
def bothV (σ : St) (n : Int) (k l : Txt) (p q : List Cho) (b j : Txt) : List Kept :=
  if b = tABC ∧ j = k then runL (σ.has tABC) (σ.v tABC k) n p else if b = tABC ∧ j = l then runL (σ.has tABC) (σ.v tABC l) n q else σ.v b j
theorem runBoth_ok {k l : Txt} (hkl : k ≠ l) : ∀ (p q : List Cho), Of k p → Of l q → ∀ (σ : St) (n : Int), (∀ b, (runBoth σ n p q).has b = σ.has b) ∧ ∀ b j, (runBoth σ n p q).v b j = bothV σ n k l p q b j
  | p, [], hp, _, σ, n => by
    refine ⟨fun b => by rw [runBoth]; exact runAll_has p σ n b, fun b j => ?_⟩
    rw [runBoth]; unfold bothV
    split
    · rename_i h; rw [h.1, h.2]; exact runAll_v hp σ n
    · rename_i h
      rw [runAll_other hp σ n b j h]
      split
      · rename_i h2; rw [h2.1, h2.2]; rfl
      · rfl
  | [], y :: q, _, hq, σ, n => by
    have e0 : runBoth σ n [] (y :: q) = runAll σ n (y :: q) := by simp [runBoth]
    refine ⟨fun b => by rw [e0]; exact runAll_has _ σ n b, fun b j => ?_⟩
    rw [e0]; unfold bothV
    split
    · rename_i h
      rw [runAll_other hq σ n b j (fun e => hkl (h.2.symm.trans e.2)), h.1, h.2]; rfl
    · split
      · rename_i h; rw [h.1, h.2]; exact runAll_v hq σ n
      · rename_i h; exact runAll_other hq σ n b j h
  | x :: p, y :: q, hp, hq, σ, n => by
    have ih := runBoth_ok hkl p q (fun z hz => hp z (by simp [hz])) (fun z hz => hq z (by simp [hz])) (step (step σ y n) x n) (n + 1)
    obtain ⟨a1, a2⟩ := hp x (by simp)
    obtain ⟨b1, b2⟩ := hq y (by simp)
    have e1 : (step (step σ y n) x n).v tABC k = stepL (σ.has tABC) (σ.v tABC k) x n := by
      have := step_same (step σ y n) x n
      rw [a1, a2, step_has, step_other σ y n tABC k (fun e => hkl (e.2.trans b2))] at this
      exact this
    have e2 : (step (step σ y n) x n).v tABC l = stepL (σ.has tABC) (σ.v tABC l) y n := by
      rw [step_other (step σ y n) x n tABC l (fun e => hkl (a2.symm.trans e.2.symm))]
      have := step_same σ y n
      rw [b1, b2] at this
      exact this
    refine ⟨fun b => by rw [runBoth, ih.1, step_has, step_has], fun b j => ?_⟩
    rw [runBoth, ih.2]
    unfold bothV
    rw [step_has, step_has, e1, e2]
    split
    · rfl
    · split
      · rfl
      · rename_i h1 h2
        rw [step_other _ x n b j (by rw [a1, a2]; exact h1), step_other σ y n b j (by rw [b1, b2]; exact h2)]
theorem order_ok {k l : Txt} (hkl : k ≠ l) {p q : List Cho} (hp : Of k p) (hq : Of l q) (σ : St) (n : Int) : SameSt (runAll (runAll σ n p) n q) (runBoth σ n p q) := by
  obtain ⟨h1, h2⟩ := runBoth_ok hkl p q hp hq σ n
  intro b
  refine ⟨by rw [runAll_has, runAll_has, h1], fun j => ?_⟩
  rw [h2]; unfold bothV
  split
  · rename_i h
    rw [runAll_other hq _ n b j (fun e => hkl (h.2.symm.trans e.2)), h.1, h.2, runAll_v hp]
  · rename_i h1
    split
    · rename_i h; rw [h.1, h.2, runAll_v hq, runAll_has, runAll_other hp _ n _ _ (fun e => hkl e.2.symm)]
    · rename_i h2
      rw [runAll_other hq _ n b j h2, runAll_other hp _ n b j h1]
theorem SameSt.symm {σ τ : St} (h : SameSt σ τ) : SameSt τ σ := fun b => ⟨(h b).1.symm, fun k => ((h b).2 k).symm⟩
/-! ### 2. The walk -/
structure Good (k : Txt) (p : List Cho) : Prop where
  act : ∀ x ∈ p, x.act = 4 ∨ x.act = 7 ∨ x.act = 8
  of : Of k p
theorem bentL_good (k : Txt) (xs : List Cho) : Good k (bentL k xs) := by
  constructor
  · intro x hx
    obtain ⟨y, _, rfl⟩ := List.mem_map.1 hx
    exact actOf_cases y.act
  · intro x hx
    obtain ⟨y, _, rfl⟩ := List.mem_map.1 hx
    exact ⟨rfl, rfl⟩
theorem runBoth_nil_right (σ : St) (n : Int) (p : List Cho) : runBoth σ n p [] = runAll σ n p := by rw [runBoth]
theorem runBoth_cons_left (σ : St) (n : Int) (x : Cho) (p : List Cho) : runBoth σ n (x :: p) [] = runBoth (step σ x n) (n + 1) p [] := by rw [runBoth, runBoth, runAll]
theorem runBoth_cons_right (σ : St) (n : Int) (y : Cho) (q : List Cho) : runBoth σ n [] (y :: q) = runBoth (step σ y n) (n + 1) [] q := by
  cases q <;> simp [runBoth, runAll]
theorem runBoth_cons (σ : St) (n : Int) (x y : Cho) (p q : List Cho) : runBoth σ n (x :: p) (y :: q) = runBoth (step (step σ y n) x n) (n + 1) p q := by rw [runBoth]
theorem c_ModelOrder (a b : Option Addr) (c d : Nat) (xs ys : List Cho) : Does Tryd.prog 4 [.slice a xs.length c, .slice b ys.length d].toArray [rd rCho a c xs, rd rCho b d ys, TB] (fun _ : Unit => .bool true) (fun _ => True) (fun _ => []) := by
  refine spec_of Tryd.func4 rfl Tryd.ntmps4 rfl fun R w0 => ?_
  repeat refine sy ?_
  refine cd c_awake ?_
  repeat refine sy ?_
  refine vc_cond_f rfl ?_
  repeat refine sy ?_
  refine ca (c_Room a c xs 30) fun r hr => ?_
  cases r
  · repeat refine sy ?_
    refine vc_cond_t rfl ?_
    repeat refine sy ?_
    exact en () trivial
  have hxs := hr rfl
  repeat refine sy ?_
  refine ca (c_Room b d ys 30) fun r hr' => ?_
  cases r
  · repeat refine sy ?_
    refine vc_cond_t rfl ?_
    repeat refine sy ?_
    exact en () trivial
  have hys := hr' rfl
  repeat refine sy ?_
  refine vc_cond_f rfl ?_
  repeat refine sy ?_
  refine ca c_New fun m _ => ?_
  repeat refine sy ?_
  refine ca c_New fun m' _ => ?_
  repeat refine sy ?_
  refine vc_cond_f rfl ?_
  repeat refine sy ?_
  have e1 : mkErr St.empty tABC true = 0 := by decide
  refine cd (c_Make m St.empty tABC true nb_abc) ?_
  rw [e1, if_pos rfl]
  repeat refine sy ?_
  refine cd (c_Make m' St.empty tABC true nb_abc) ?_
  rw [e1, if_pos rfl]
  repeat refine sy ?_
  refine ca (c_bent a c xs [107] (by omega)) fun p1 _ => ?_
  obtain ⟨a1, c1⟩ := p1
  repeat refine sy ?_
  refine ca (c_bent b d ys [108] (by omega)) fun p2 _ => ?_
  obtain ⟨a2, c2⟩ := p2
  have gp := bentL_good [107] xs
  have gq := bentL_good [108] ys
  have lp' : (bentL [107] xs).length ≤ 30 := by simp [bentL]; omega
  have lq' : (bentL [108] ys).length ≤ 30 := by simp [bentL]; omega
  generalize bentL [107] xs = p at gp lp' ⊢
  generalize bentL [108] ys = q at gq lq' ⊢
  repeat refine sy ?_
  -- the first row on x
  refine lp (ι := Nat × St) (fun i => i.1 ≤ p.length ∧ runAll i.2 (10 + i.1) (p.drop i.1) = runAll σ1 10 p ∧ Bound i.2) (fun i => [(9, .int .i64 i.1), (5, .pointer (some ⟨m, 0, none⟩)), (6, .pointer (some ⟨m', 0, none⟩)), (7, .slice a1 p.length c1), (8, .slice a2 q.length c2)]) (fun i => [Mdl m i.2, Mdl m' σ1, rd rCho a1 c1 p, rd rCho a2 c2 q, TB, R]) (fun i => p.length - i.1) (0, σ1) ⟨by simp, rfl, bound_1⟩ ?_
  rintro ⟨i, σ⟩ ⟨hi, hrun, hbd⟩
  dsimp only at hi hrun hbd ⊢
  repeat refine sy ?_
  refine vc_cond_dec rfl (fun h => ?_) (fun h => ?_)
  · obtain ⟨x, hx⟩ := get_some (xs := p) (k := i) (by omega)
    have hm := List.mem_of_getElem? hx
    rw [drop_of_get hx, runAll] at hrun
    obtain ⟨g1, g2⟩ := gp.of x hm
    repeat refine sy ?_
    refine s_loadx_rd (fun cs => ?_)
    refine vc_cho fun a3 c3 hc => ?_
    subst hc
    repeat refine sy ?_
    refine ca (c_CallStep m σ x a3 c3 (10 + i) (gp.act x hm) (by rw [g1]; exact nb_abc) (by rw [g2]; exact nk_k) hbd) fun v _ => ?_
    repeat refine sy ?_
    refine ag (i + 1, step σ x (10 + i)) ⟨by show i + 1 ≤ p.length; omega, ?_, hbd.step x _⟩ (by show p.length - (i + 1) < p.length - i; omega)
    rw [← hrun]; show runAll _ (10 + ((i + 1 : Nat) : Int)) _ = _; congr 1
  have hi' : i = p.length := by omega
  subst hi'
  rw [List.drop_length, runAll] at hrun
  repeat refine sy ?_
  -- the second row on x
  refine lp (ι := Nat × St) (fun j => j.1 ≤ q.length ∧ runAll j.2 (10 + j.1) (q.drop j.1) = runAll σ 10 q ∧ Bound j.2) (fun j => [(10, .int .i64 j.1), (5, .pointer (some ⟨m, 0, none⟩)), (6, .pointer (some ⟨m', 0, none⟩)), (7, .slice a1 p.length c1), (8, .slice a2 q.length c2)]) (fun j => [Mdl m j.2, Mdl m' σ1, rd rCho a1 c1 p, rd rCho a2 c2 q, TB, R]) (fun j => q.length - j.1) (0, σ) ⟨by simp, rfl, hbd⟩ ?_
  rintro ⟨j, τ⟩ ⟨hj, hrun2, hbd2⟩
  dsimp only at hj hrun2 hbd2 ⊢
  repeat refine sy ?_
  refine vc_cond_dec rfl (fun h => ?_) (fun h => ?_)
  · obtain ⟨x, hx⟩ := get_some (xs := q) (k := j) (by omega)
    have hm := List.mem_of_getElem? hx
    rw [drop_of_get hx, runAll] at hrun2
    obtain ⟨g1, g2⟩ := gq.of x hm
    repeat refine sy ?_
    refine s_loadx_rd (fun cs => ?_)
    refine vc_cho fun a3 c3 hc => ?_
    subst hc
    repeat refine sy ?_
    refine ca (c_CallStep m τ x a3 c3 (10 + j) (gq.act x hm) (by rw [g1]; exact nb_abc) (by rw [g2]; exact nk_l) hbd2) fun v _ => ?_
    repeat refine sy ?_
    refine ag (j + 1, step τ x (10 + j)) ⟨by show j + 1 ≤ q.length; omega, ?_, hbd2.step x _⟩ (by show q.length - (j + 1) < q.length - j; omega)
    rw [← hrun2]; show runAll _ (10 + ((j + 1 : Nat) : Int)) _ = _; congr 1
  have hj' : j = q.length := by omega
  subst hj'
  rw [List.drop_length, runAll] at hrun2
  repeat refine sy ?_
  -- both rows on y
  refine lp (ι := Nat × St) (fun j => runBoth j.2 (10 + j.1) (p.drop j.1) (q.drop j.1) = runBoth σ1 10 p q ∧ Bound j.2) (fun j => [(11, .int .i64 j.1), (5, .pointer (some ⟨m, 0, none⟩)), (6, .pointer (some ⟨m', 0, none⟩)), (7, .slice a1 p.length c1), (8, .slice a2 q.length c2)]) (fun j => [Mdl m τ, Mdl m' j.2, rd rCho a1 c1 p, rd rCho a2 c2 q, TB, R]) (fun j => max p.length q.length - j.1) (0, σ1) ⟨rfl, bound_1⟩ ?_
  rintro ⟨k, υ⟩ ⟨hrun3, hbd3⟩
  dsimp only at hrun3 hbd3 ⊢
  repeat refine sy ?_
  refine sv ?_ (op_max rfl rfl)
  repeat refine sy ?_
  refine vc_cond_dec rfl (fun h => ?_) (fun h => ?_)
  · repeat refine sy ?_
    refine vc_cond_dec rfl (fun h1 => ?_) (fun h1 => ?_)
    · obtain ⟨y, hy⟩ := get_some (xs := q) (k := k) (by omega)
      have hm := List.mem_of_getElem? hy
      obtain ⟨g1, g2⟩ := gq.of y hm
      repeat refine sy ?_
      refine s_loadx_rd (fun cs => ?_)
      refine vc_cho fun a3 c3 hc => ?_
      subst hc
      repeat refine sy ?_
      refine ca (c_CallStep m' υ y a3 c3 (10 + k) (gq.act y hm) (by rw [g1]; exact nb_abc) (by rw [g2]; exact nk_l) hbd3) fun v _ => ?_
      repeat refine sy ?_
      refine vc_cond_dec rfl (fun h2 => ?_) (fun h2 => ?_)
      · obtain ⟨x, hx⟩ := get_some (xs := p) (k := k) (by omega)
        have hm' := List.mem_of_getElem? hx
        obtain ⟨g3, g4⟩ := gp.of x hm'
        rw [drop_of_get hx, drop_of_get hy, runBoth_cons] at hrun3
        repeat refine sy ?_
        refine s_loadx_rd (fun cs => ?_)
        refine vc_cho fun a4 c4 hc => ?_
        subst hc
        repeat refine sy ?_
        refine ca (c_CallStep m' (step υ y (10 + k)) x a4 c4 (10 + k) (gp.act x hm') (by rw [g3]; exact nb_abc) (by rw [g4]; exact nk_k) (hbd3.step _ _)) fun v _ => ?_
        repeat refine sy ?_
        refine ag (k + 1, step (step υ y (10 + k)) x (10 + k)) ⟨?_, (hbd3.step _ _).step _ _⟩ (by show max p.length q.length - (k + 1) < max p.length q.length - k; omega)
        rw [← hrun3]; show runBoth _ (10 + ((k + 1 : Nat) : Int)) _ _ = _; congr 1
      · have hpk : p.drop k = [] := List.drop_eq_nil_of_le (by omega)
        have hpk1 : p.drop (k + 1) = [] := List.drop_eq_nil_of_le (by omega)
        rw [drop_of_get hy, hpk, runBoth_cons_right] at hrun3
        repeat refine sy ?_
        refine ag (k + 1, step υ y (10 + k)) ⟨?_, hbd3.step _ _⟩ (by show max p.length q.length - (k + 1) < max p.length q.length - k; omega)
        rw [← hrun3]; show runBoth _ (10 + ((k + 1 : Nat) : Int)) (p.drop (k + 1)) _ = _; rw [hpk1]; congr 1
    · have hqk : q.drop k = [] := List.drop_eq_nil_of_le (by omega)
      have hqk1 : q.drop (k + 1) = [] := List.drop_eq_nil_of_le (by omega)
      obtain ⟨x, hx⟩ := get_some (xs := p) (k := k) (by omega)
      have hm' := List.mem_of_getElem? hx
      obtain ⟨g3, g4⟩ := gp.of x hm'
      rw [drop_of_get hx, hqk, runBoth_cons_left] at hrun3
      repeat refine sy ?_
      refine vc_cond_dec rfl (fun h2 => ?_) (fun h2 => ?_)
      · repeat refine sy ?_
        refine s_loadx_rd (fun cs => ?_)
        refine vc_cho fun a4 c4 hc => ?_
        subst hc
        repeat refine sy ?_
        refine ca (c_CallStep m' υ x a4 c4 (10 + k) (gp.act x hm') (by rw [g3]; exact nb_abc) (by rw [g4]; exact nk_k) hbd3) fun v _ => ?_
        repeat refine sy ?_
        refine ag (k + 1, step υ x (10 + k)) ⟨?_, hbd3.step _ _⟩ (by show max p.length q.length - (k + 1) < max p.length q.length - k; omega)
        rw [← hrun3]; show runBoth _ (10 + ((k + 1 : Nat) : Int)) _ (q.drop (k + 1)) = _; rw [hqk1]; congr 1
      · exfalso; omega
  have hp0 : p.drop k = [] := List.drop_eq_nil_of_le (by omega)
  have hq0 : q.drop k = [] := List.drop_eq_nil_of_le (by omega)
  rw [hp0, hq0, runBoth_nil_right, runAll] at hrun3
  have hsame : SameSt τ υ := by
    rw [hrun2, hrun, hrun3]
    exact order_ok (by decide) gp.of gq.of σ1 10
  repeat refine sy ?_
  refine ca (c_Same m m' τ υ) fun r hr => ?_
  obtain rfl : r = true := hr.2 hsame
  repeat refine sy ?_
  refine ca (c_Same m' m υ τ) fun r hr => ?_
  obtain rfl : r = true := hr.2 hsame.symm
  repeat refine sy ?_
  exact en () trivial
end Go.Proofs.YtikodfclemgfoaaDoor
