/- Contracts 27: slices.symMergeCmpFunc for entries. -/
import Derived.Test.YtikodfclemgfoaaDoorSbK26
set_option linter.all false
set_option linter.unusedVariables false
namespace Go.Sb
section
variable {P : Program} {N : Nat} {e : Slots} {l m : List Asrt} {w0 : World} {Q : Exit → Act → World → Prop}
/-- The family is reached by all of x's ways; from it one goes on. -/
theorem ct {ι : Type} {x : Code} {K : Act → World → Prop} (p : ι → Prop) (e' : ι → Slots) (l' : ι → List Asrt) (hx : VC N e l w0 (x.wp P (Exit.then (InJ N e' l' w0 p) Q)))
    (hy : ∀ i, p i → VC N (e' i) (l' i) w0 K) : VC N e l w0 (x.wp P (Exit.then K Q)) := by
  refine hx.mono fun a w h => wp_mono h fun ex a w q => ?_
  cases ex with
  | normal => obtain ⟨i, hp, hf, hs, he⟩ := q; exact hy i hp a w hf hs he
  | exit _ => exact q
  | goto _ => exact q
  | ret => exact q
  | panic _ => exact q
  | outgrown => exact q
theorem oper_mono {o : Oper} {a : Act} {w : World} {K K' : Act → World → Prop} {Q Q' : Exit → Act → World → Prop} (h : ∀ a w, K a w → K' a w) (hq : ∀ e a w, Q e a w → Q' e a w) (hh : o.wp P a w K Q) : o.wp P a w K' Q' := by
  unfold Oper.wp at *
  generalize (execOp a.eval o).run P w = r at *
  cases r with
  | ok n w' =>
    cases n <;> simp only [Oper.upon] at hh ⊢ <;>
      first
        | exact h _ _ hh
        | exact Calls.mono hh (fun e w'' he => by cases e <;> first | exact h _ _ he | exact hq _ _ _ he | exact he.elim fun b v => v.elim fun u hv => ⟨b, u, hq _ _ _ hv⟩)
        | exact Rows.mono hh (fun _ _ he => h _ _ he)
        | exact hq _ _ _ hh
  | halt x w' => cases x <;> simp only [Oper.upon] at hh ⊢ <;> first | exact hq _ _ _ hh | exact hh.elim fun b v => v.elim fun u hv => ⟨b, u, hq _ _ _ hv⟩ | exact hh
theorem wpList_mono {ops : Array Oper} {Q Q' : Exit → Act → World → Prop} (hq : ∀ e a w, Q e a w → Q' e a w) : ∀ (l : List Oper) (a : Act) (w : World), wpList P ops Q l a w → wpList P ops Q' l a w
  | [], a, w, h => hq _ _ _ h
  | o :: rest, a, w, h => by
    unfold wpList at h ⊢
    split
    · rename_i hw
      rw [if_pos hw] at h
      rcases h with h | ⟨h1, b, v, h2⟩
      · exact .inl (oper_mono (wpList_mono hq rest) hq h)
      · exact .inr ⟨h1, b, v, hq _ _ _ h2⟩
    · rename_i hw
      rw [if_neg hw] at h
      exact wpList_mono hq rest _ _ h
/-- The same within a region. -/
theorem ctw {ι : Type} {ops : Array Oper} {rest : List Oper} {K : Act → World → Prop} (p : ι → Prop) (e' : ι → Slots) (l' : ι → List Asrt) (hx : VC N e l w0 (wpList P ops (Exit.then (InJ N e' l' w0 p) Q) rest))
    (hy : ∀ i, p i → VC N (e' i) (l' i) w0 K) : VC N e l w0 (wpList P ops (Exit.then K Q) rest) := by
  refine hx.mono fun a w h => wpList_mono (fun ex a w q => ?_) _ _ _ h
  cases ex with
  | normal => obtain ⟨i, hp, hf, hs, he⟩ := q; exact hy i hp a w hf hs he
  | exit _ => exact q
  | goto _ => exact q
  | ret => exact q
  | panic _ => exact q
  | outgrown => exact q
end
end Go.Sb
namespace Go.Proofs.YtikodfclemgfoaaDoor
open Go.Sb
attribute [local irreducible] Go.wpList Go.Code.wp Go.Exit.then Go.Exit.inBlock Go.Sb.Ends Go.Sb.VC Go.Sb.VA Go.Sb.OpV Go.Sb.OpE Go.Sb.OpD
set_option maxHeartbeats 4000000
set_option maxRecDepth 10000
theorem c_eSym0 (N : Nat) : ∀ (a : Option Addr) (c nn : Nat) (P A B S : List Entr) (p m b : Nat), A.length + B.length ≤ N → nn = (P ++ A ++ B ++ S).length → p = P.length → m = P.length + A.length → b = P.length + A.length + B.length → 0 < A.length → 0 < B.length → nn ≤ 1152921504606846976 → SrtE A → SrtE B →
    Does Tryd.prog 100 [.slice a nn c, .int .i64 p, .int .i64 m, .int .i64 b, fCmpE].toArray [own rEn TE a c (P ++ A ++ B ++ S)] (fun _ : List Entr => .tuple ⟨[]⟩) (fun C => C.Perm (A ++ B) ∧ SrtE C) (fun C => [own rEn TE a c (P ++ C ++ S)]) := by
  induction N with
  | zero => intro a c nn P A B S p m b h0 _ _ _ _ hA; omega
  | succ N ih =>
  intro a c nn P A B S p m b hN hnn hp hm hb hA hB hsm sA sB
  refine spec_of Tryd.func100 rfl Tryd.ntmps100 rfl fun R w0 => ?_
  have hnl : nn = P.length + A.length + B.length + S.length := by simp only [List.length_append] at hnn; omega
  obtain ⟨xs, hxs⟩ : ∃ xs, xs = P ++ A ++ B ++ S := ⟨_, rfl⟩
  rw [← hxs] at hnn ⊢
  repeat refine sy ?_
  refine vc_cond_dec rfl (fun h1 => ?_) (fun h1 => ?_)
  · -- A is one element
    obtain ⟨x, rfl⟩ : ∃ x, A = [x] := by
      match A, hA with
      | [x], _ => exact ⟨x, rfl⟩
      | x :: y :: A, _ => simp only [List.length_cons] at hm; omega
    have h10 : ([x] : List Entr).length = 1 := rfl
    have hxp : xs[((p : Nat) : Int).toNat]? = some x := by
      rw [hxs, show P ++ [x] ++ B ++ S = P ++ x :: (B ++ S) by simp]
      exact get_app _ _ _ _ (by omega)
    repeat refine sy ?_
    refine lp (ι := Nat × Nat) (Hv (fun h => ltAt xs h p) m b) (fun i => [(10, .int .i64 i.1), (11, .int .i64 i.2), (0, .slice a nn c), (1, .int .i64 p), (2, .int .i64 m), (3, .int .i64 b), (4, fCmpE)]) (fun _ => [own rEn TE a c xs, R]) (fun i => i.2 - i.1) (m, b) (Hv.init (by omega)) ?_
    rintro ⟨i, j⟩ hv
    have hv0 := hv
    obtain ⟨g1, g2, g3, _, _⟩ := hv0
    dsimp only at g1 g2 g3 ⊢
    repeat refine sy ?_
    refine vc_cond_dec rfl (fun h => ?_) (fun h => ?_)
    · have hij : i < j := by omega
      repeat refine sy ?_
      rw [half_eq i j (by omega)]
      obtain ⟨v, hvv⟩ := get_some (xs := xs) (k := (i + j) / 2) (by omega)
      have hvv' : xs[(((i + j) / 2 : Nat) : Int).toNat]? = some v := hvv
      have hfe : ltAt xs ((i + j) / 2) p = ltE v x := ltAt_eq hvv hxp
      refine vd_start ?_
      repeat refine dq ?_
      refine dq ?_ (hq := q_index_own_len (i := (((i + j) / 2 : Nat) : Int)) (xs := xs) hnn ⟨by omega, by omega⟩)
      refine dq ?_ (hq := q_loada_own hvv')
      repeat refine dq ?_
      refine dq ?_ (hq := q_index_own_len (i := ((p : Nat) : Int)) (xs := xs) hnn ⟨by omega, by omega⟩)
      refine dq ?_ (hq := q_loada_own hxp)
      refine de (op_callv (first := []) (capt := []) (vs := [.agg ⟨v.cells⟩, .agg ⟨x.cells⟩]) rfl (c_eCmp v x) KCall.out rfl) (fun _ _ => ⟨?_, ?_⟩)
      · exact aq
      repeat refine dq ?_
      refine va_end ?_
      repeat refine sy ?_
      refine vc_cond_dec rfl (fun h2 => ?_) (fun h2 => ?_)
      · repeat refine sy ?_
        exact ag ((i + j) / 2 + 1, j) (hv.up hij (by show ltAt xs ((i + j) / 2) p = true; rw [hfe]; exact decide_eq_true h2)) (by show j - ((i + j) / 2 + 1) < j - i; omega)
      · repeat refine sy ?_
        exact ag (i, (i + j) / 2) (hv.down hij (by show ltAt xs ((i + j) / 2) p = false; rw [hfe]; exact decide_eq_false h2)) (by show (i + j) / 2 - i < j - i; omega)
    · have hij : ¬ i < j := by omega
      subst hxs
      rw [hp, show m = P.length + 1 by omega, show b = P.length + 1 + B.length by omega] at hv
      obtain ⟨B1, B2, rfl, hi, hs⟩ := sym_left sB hv hij
      simp only [List.length_append] at hb hnl
      repeat refine sy ?_
      refine lp (ι := List Entr × List Entr) (fun k => k.1 ++ k.2 = B1) (fun k => [(13, .int .i64 ((P.length + k.1.length : Nat))), (10, .int .i64 i), (0, .slice a nn c)]) (fun k => [own rEn TE a c (P ++ k.1 ++ x :: (k.2 ++ B2 ++ S)), R]) (fun k => k.2.length) ([], B1) rfl ?_ (hl := by subst hp; exact ⟨rfl, rfl, rfl, trivial⟩) (ht := Takes.cons (by
        rw [show P ++ [x] ++ (B1 ++ B2) ++ S = P ++ [] ++ x :: (B1 ++ B2 ++ S) by simp]; exact Take.here) (Takes.cons (by repeat (first | exact Take.here | apply Take.there)) Takes.nil))
      rintro ⟨L, M⟩ hLM
      dsimp only at hLM ⊢
      have hll := congrArg List.length hLM
      simp only [List.length_append] at hll
      repeat refine sy ?_
      refine vc_cond_dec rfl (fun h3 => ?_) (fun h3 => ?_)
      · obtain ⟨u, M', rfl⟩ : ∃ u M', M = u :: M' := by
          cases M with
          | nil => simp only [List.length_nil] at hll; omega
          | cons u M' => exact ⟨u, M', rfl⟩
        simp only [List.length_cons] at hll
        have q1 : (P ++ L ++ x :: (u :: M' ++ B2 ++ S))[((P.length + L.length : Nat) : Int).toNat]? = some x := get_app (P ++ L) _ x _ (by simp only [List.length_append]; omega)
        have q2 : (P ++ L ++ x :: (u :: M' ++ B2 ++ S))[(((P.length + L.length : Nat) : Int) + 1).toNat]? = some u := by
          rw [show P ++ L ++ x :: (u :: M' ++ B2 ++ S) = (P ++ L ++ [x]) ++ u :: (M' ++ B2 ++ S) by simp]
          exact get_app _ _ u _ (by simp only [List.length_append, List.length_cons, List.length_nil]; omega)
        have k1 : nn = (P ++ L ++ x :: (u :: M' ++ B2 ++ S)).length := by simp only [List.length_append, List.length_cons]; omega
        have k2 : nn = (P ++ L ++ u :: (u :: M' ++ B2 ++ S)).length := by simp only [List.length_append, List.length_cons]; omega
        repeat refine sy ?_
        refine vd_start ?_
        repeat refine dq ?_
        refine dq ?_ (hq := q_index_own_len (i := ((P.length + L.length : Nat) : Int) + 1) (xs := P ++ L ++ x :: (u :: M' ++ B2 ++ S)) k1 ⟨by omega, by omega⟩)
        refine dq ?_ (hq := q_loada_own q2)
        repeat refine dq ?_
        refine dq ?_ (hq := q_index_own_len (i := ((P.length + L.length : Nat) : Int)) (xs := P ++ L ++ x :: (u :: M' ++ B2 ++ S)) k1 ⟨by omega, by omega⟩)
        refine dq ?_ (hq := q_loada_own q1)
        refine dq ?_ (hq := q_index_own_len (i := ((P.length + L.length : Nat) : Int)) (xs := P ++ L ++ x :: (u :: M' ++ B2 ++ S)) k1 ⟨by omega, by omega⟩)
        refine d_store_own (R := rEn) (xs := P ++ L ++ x :: (u :: M' ++ B2 ++ S)) (j := ((P.length + L.length : Nat) : Int).toNat) (q' := u) (cs := u.cells) (by omega) ⟨?_, ?_⟩
        · exact aq
        rw [set_app (P ++ L) _ x u _ (by simp only [List.length_append]; omega)]
        refine dq ?_ (hq := q_index_own_len (i := ((P.length + L.length : Nat) : Int) + 1) (xs := P ++ L ++ u :: (u :: M' ++ B2 ++ S)) k2 ⟨by omega, by omega⟩)
        refine d_store_own (R := rEn) (xs := P ++ L ++ u :: (u :: M' ++ B2 ++ S)) (j := (((P.length + L.length : Nat) : Int) + 1).toNat) (q' := x) (cs := x.cells) (by omega) ⟨?_, ?_⟩
        · exact aq
        rw [show P ++ L ++ u :: (u :: M' ++ B2 ++ S) = (P ++ (L ++ [u])) ++ u :: (M' ++ B2 ++ S) by simp, set_app (P ++ (L ++ [u])) _ u x _ (by simp only [List.length_append, List.length_cons, List.length_nil]; omega)]
        refine va_end ?_
        repeat refine sy ?_
        rw [show ((P.length + L.length : Nat) : Int) + 1 = ((P.length + (L ++ [u]).length : Nat) : Int) by simp only [List.length_append, List.length_cons, List.length_nil]; omega]
        exact ag (L ++ [u], M') (by show L ++ [u] ++ M' = B1; rw [← hLM]; simp) (by show M'.length < (u :: M').length; simp)
      · have hM : M = [] := by
          cases M with
          | nil => rfl
          | cons u M' => simp only [List.length_cons] at hll; omega
        subst hM
        simp only [List.append_nil] at hLM
        subst hLM
        repeat refine sy ?_
        rw [show P ++ L ++ x :: ([] ++ B2 ++ S) = P ++ (L ++ x :: B2) ++ S by simp]
        exact en (L ++ x :: B2) ⟨List.perm_middle, hs⟩
  repeat refine sy ?_
  refine vc_cond_dec rfl (fun h2 => ?_) (fun h2 => ?_)
  · -- B is one element
    obtain ⟨x, rfl⟩ : ∃ x, B = [x] := by
      match B, hB with
      | [x], _ => exact ⟨x, rfl⟩
      | x :: y :: B, _ => simp only [List.length_cons] at hb; omega
    have h10 : ([x] : List Entr).length = 1 := rfl
    have hxp : xs[((m : Nat) : Int).toNat]? = some x := by
      rw [hxs, show P ++ A ++ [x] ++ S = (P ++ A) ++ x :: S by simp]
      exact get_app _ _ _ _ (by simp only [List.length_append]; omega)
    repeat refine sy ?_
    refine lp (ι := Nat × Nat) (Hv (fun h => !ltAt xs m h) p m) (fun i => [(14, .int .i64 i.1), (15, .int .i64 i.2), (0, .slice a nn c), (1, .int .i64 p), (2, .int .i64 m), (3, .int .i64 b), (4, fCmpE)]) (fun _ => [own rEn TE a c xs, R]) (fun i => i.2 - i.1) (p, m) (Hv.init (by omega)) ?_
    rintro ⟨i, j⟩ hv
    have hv0 := hv
    obtain ⟨g1, g2, g3, _, _⟩ := hv0
    dsimp only at g1 g2 g3 ⊢
    repeat refine sy ?_
    refine vc_cond_dec rfl (fun h => ?_) (fun h => ?_)
    · have hij : i < j := by omega
      repeat refine sy ?_
      rw [half_eq i j (by omega)]
      obtain ⟨v, hvv⟩ := get_some (xs := xs) (k := (i + j) / 2) (by omega)
      have hvv' : xs[(((i + j) / 2 : Nat) : Int).toNat]? = some v := hvv
      have hfe : ltAt xs m ((i + j) / 2) = ltE x v := ltAt_eq hxp hvv
      refine vd_start ?_
      repeat refine dq ?_
      refine dq ?_ (hq := q_index_own_len (i := ((m : Nat) : Int)) (xs := xs) hnn ⟨by omega, by omega⟩)
      refine dq ?_ (hq := q_loada_own hxp)
      repeat refine dq ?_
      refine dq ?_ (hq := q_index_own_len (i := (((i + j) / 2 : Nat) : Int)) (xs := xs) hnn ⟨by omega, by omega⟩)
      refine dq ?_ (hq := q_loada_own hvv')
      refine de (op_callv (first := []) (capt := []) (vs := [.agg ⟨x.cells⟩, .agg ⟨v.cells⟩]) rfl (c_eCmp x v) KCall.out rfl) (fun _ _ => ⟨?_, ?_⟩)
      · exact aq
      repeat refine dq ?_
      refine va_end ?_
      repeat refine sy ?_
      refine vc_cond_ndec rfl (fun h2 => ?_) (fun h2 => ?_)
      · repeat refine sy ?_
        exact ag ((i + j) / 2 + 1, j) (hv.up hij (by show (!ltAt xs m ((i + j) / 2)) = true; rw [hfe, Bool.not_eq_true']; exact decide_eq_false h2)) (by show j - ((i + j) / 2 + 1) < j - i; omega)
      · repeat refine sy ?_
        exact ag (i, (i + j) / 2) (hv.down hij (by show (!ltAt xs m ((i + j) / 2)) = false; rw [hfe, Bool.not_eq_false']; exact decide_eq_true h2)) (by show (i + j) / 2 - i < j - i; omega)
    · have hij : ¬ i < j := by omega
      subst hxs
      rw [hp, hm] at hv
      obtain ⟨A1, A2, rfl, hi, hs⟩ := sym_right sA hv hij
      have hA12 : (A1 ++ A2).length = A1.length + A2.length := List.length_append
      repeat refine sy ?_
      refine lp (ι := List Entr × List Entr) (fun k => k.1 ++ k.2 = A2) (fun k => [(17, .int .i64 ((i + k.1.length : Nat))), (14, .int .i64 i), (0, .slice a nn c)]) (fun k => [own rEn TE a c (P ++ A1 ++ k.1 ++ x :: (k.2 ++ S)), R]) (fun k => k.1.length) (A2, []) (List.append_nil _) ?_ (hl := by
        rw [show m = i + A2.length by omega]; exact ⟨rfl, rfl, rfl, trivial⟩) (ht := Takes.cons (by
        rw [show P ++ (A1 ++ A2) ++ [x] ++ S = P ++ A1 ++ A2 ++ x :: ([] ++ S) by simp]; exact Take.here) (Takes.cons (by repeat (first | exact Take.here | apply Take.there)) Takes.nil))
      rintro ⟨L, M⟩ hLM
      dsimp only at hLM ⊢
      have hll := congrArg List.length hLM
      simp only [List.length_append] at hll
      repeat refine sy ?_
      refine vc_cond_dec rfl (fun h3 => ?_) (fun h3 => ?_)
      · obtain ⟨L', u, rfl⟩ := snoc_of (L := L) (by omega)
        have hL1 : (L' ++ [u]).length = L'.length + 1 := by simp
        have q1 : (P ++ A1 ++ (L' ++ [u]) ++ x :: (M ++ S))[((i + (L' ++ [u]).length : Nat) : Int).toNat]? = some x := get_app (P ++ A1 ++ (L' ++ [u])) _ x _ (by simp only [List.length_append, List.length_cons, List.length_nil]; omega)
        have q2 : (P ++ A1 ++ (L' ++ [u]) ++ x :: (M ++ S))[(((i + (L' ++ [u]).length : Nat) : Int) - 1).toNat]? = some u := by
          rw [show P ++ A1 ++ (L' ++ [u]) ++ x :: (M ++ S) = (P ++ A1 ++ L') ++ u :: (x :: (M ++ S)) by simp]
          exact get_app _ _ u _ (by simp only [List.length_append, List.length_cons, List.length_nil]; omega)
        have k1 : nn = (P ++ A1 ++ (L' ++ [u]) ++ x :: (M ++ S)).length := by simp only [List.length_append, List.length_cons, List.length_nil] at hnl hll ⊢; omega
        have k2 : nn = (P ++ A1 ++ (L' ++ [u]) ++ u :: (M ++ S)).length := by simp only [List.length_append, List.length_cons, List.length_nil] at hnl hll ⊢; omega
        have k3 : i + (L' ++ [u]).length < nn := by rw [k1]; simp only [List.length_append, List.length_cons, List.length_nil]; omega
        repeat refine sy ?_
        refine vd_start ?_
        repeat refine dq ?_
        refine dq ?_ (hq := q_index_own_len (i := ((i + (L' ++ [u]).length : Nat) : Int) - 1) (xs := P ++ A1 ++ (L' ++ [u]) ++ x :: (M ++ S)) k1 ⟨by omega, by omega⟩)
        refine dq ?_ (hq := q_loada_own q2)
        repeat refine dq ?_
        refine dq ?_ (hq := q_index_own_len (i := ((i + (L' ++ [u]).length : Nat) : Int)) (xs := P ++ A1 ++ (L' ++ [u]) ++ x :: (M ++ S)) k1 ⟨by omega, by omega⟩)
        refine dq ?_ (hq := q_loada_own q1)
        refine dq ?_ (hq := q_index_own_len (i := ((i + (L' ++ [u]).length : Nat) : Int)) (xs := P ++ A1 ++ (L' ++ [u]) ++ x :: (M ++ S)) k1 ⟨by omega, by omega⟩)
        refine d_store_own (R := rEn) (xs := P ++ A1 ++ (L' ++ [u]) ++ x :: (M ++ S)) (j := ((i + (L' ++ [u]).length : Nat) : Int).toNat) (q' := u) (cs := u.cells) (by omega) ⟨?_, ?_⟩
        · exact aq
        rw [set_app (P ++ A1 ++ (L' ++ [u])) _ x u _ (by simp only [List.length_append, List.length_cons, List.length_nil]; omega)]
        refine dq ?_ (hq := q_index_own_len (i := ((i + (L' ++ [u]).length : Nat) : Int) - 1) (xs := P ++ A1 ++ (L' ++ [u]) ++ u :: (M ++ S)) k2 ⟨by omega, by omega⟩)
        refine d_store_own (R := rEn) (xs := P ++ A1 ++ (L' ++ [u]) ++ u :: (M ++ S)) (j := (((i + (L' ++ [u]).length : Nat) : Int) - 1).toNat) (q' := x) (cs := x.cells) (by omega) ⟨?_, ?_⟩
        · exact aq
        rw [show P ++ A1 ++ (L' ++ [u]) ++ u :: (M ++ S) = (P ++ A1 ++ L') ++ u :: (u :: M ++ S) by simp, set_app (P ++ A1 ++ L') _ u x _ (by simp only [List.length_append, List.length_cons, List.length_nil]; omega)]
        refine va_end ?_
        repeat refine sy ?_
        rw [show ((i + (L' ++ [u]).length : Nat) : Int) - 1 = ((i + L'.length : Nat) : Int) by omega]
        exact ag (L', u :: M) (by show L' ++ u :: M = A2; rw [← hLM]; simp) (by show L'.length < (L' ++ [u]).length; omega)
      · have hL : L = [] := by
          cases L with
          | nil => rfl
          | cons u M' => simp only [List.length_cons] at h3; omega
        subst hL
        simp only [List.nil_append] at hLM
        subst hLM
        repeat refine sy ?_
        rw [show P ++ A1 ++ [] ++ x :: (M ++ S) = P ++ (A1 ++ x :: M) ++ S by simp]
        refine en (A1 ++ x :: M) ⟨?_, hs⟩
        rw [List.append_assoc]
        exact List.Perm.append_left A1 (List.perm_append_comm (l₁ := [x]) (l₂ := M))
  repeat refine sy ?_
  obtain ⟨mid, hmid⟩ : ∃ mid, mid = (p + b) / 2 := ⟨_, rfl⟩
  rw [half_eq p b (by omega), ← hmid, IntWalk.i64_in ((mid : Int) + (m : Int)) ⟨by omega, by omega⟩, show (mid : Int) + (m : Int) = ((mid + m : Nat) : Int) by omega]
  have hA2 : 2 ≤ A.length := by omega
  have hB2 : 2 ≤ B.length := by omega
  refine ct (ι := Nat × Nat) (fun i => P.length ≤ i.1 ∧ i.2 ≤ m ∧ i.1 ≤ i.2 ∧ (∀ c, i.1 ≤ c → c < i.2 → m ≤ mid + m - 1 - c ∧ mid + m - 1 - c < m + B.length) ∧ (i.1 = P.length ∨ mid + m - i.1 = m + B.length) ∧ (i.2 = m ∨ mid + m - i.2 = m) ∧ i.2 ≤ mid + m ∧ m ≤ mid + m - i.2 ∧ mid + m - i.1 ≤ m + B.length)
    (fun i => [(20, .int .i64 i.1), (21, .int .i64 i.2), (19, .int .i64 ((mid + m : Nat))), (18, .int .i64 mid), (0, .slice a nn c), (1, .int .i64 p), (2, .int .i64 m), (3, .int .i64 b), (4, fCmpE)]) (fun _ => [own rEn TE a c xs, R]) ?_ ?_
  · refine vc_cond_dec rfl (fun h3 => ?_) (fun h3 => ?_)
    · repeat refine sy ?_
      rw [show ((mid + m : Nat) : Int) - ((b : Nat) : Int) = ((mid + m - b : Nat) : Int) by omega]
      refine jn (mid + m - b, mid) ⟨by show P.length ≤ mid + m - b; omega, by show mid ≤ m; omega, by show mid + m - b ≤ mid; omega, by intro c; show mid + m - b ≤ c → c < mid → _; omega, .inr (by show mid + m - (mid + m - b) = m + B.length; omega), .inr (by show mid + m - mid = m; omega), by show mid ≤ mid + m; omega, by show m ≤ mid + m - mid; omega, by show mid + m - (mid + m - b) ≤ m + B.length; omega⟩
    · repeat refine sy ?_
      refine jn (p, m) ⟨by show P.length ≤ p; omega, by show m ≤ m; omega, by show p ≤ m; omega, by intro c; show p ≤ c → c < m → _; omega, .inl hp, .inl rfl, by show m ≤ mid + m; omega, by show m ≤ mid + m - m; omega, by show mid + m - p ≤ m + B.length; omega⟩
  rintro ⟨lo, hi⟩ ⟨y1, y2, y3, y4, y5, y6, y7, y8, y9⟩
  dsimp only at y1 y2 y3 y4 y5 y6 y7 y8 y9 ⊢
  repeat refine sy ?_
  refine lp (ι := Nat × Nat) (Hv (fun c => !ltAt xs (mid + m - 1 - c) c) lo hi) (fun i => [(20, .int .i64 i.1), (21, .int .i64 i.2), (22, .int .i64 ((mid + m - 1 : Nat))), (19, .int .i64 ((mid + m : Nat))), (18, .int .i64 mid), (0, .slice a nn c), (1, .int .i64 p), (2, .int .i64 m), (3, .int .i64 b), (4, fCmpE)]) (fun _ => [own rEn TE a c xs, R]) (fun i => i.2 - i.1) (lo, hi) (Hv.init y3) ?_ (hl := by
    rw [show ((mid + m - 1 : Nat) : Int) = ((mid + m : Nat) : Int) - 1 by omega]; exact ⟨rfl, rfl, rfl, rfl, rfl, rfl, rfl, rfl, rfl, rfl, trivial⟩)
  rintro ⟨i, j⟩ hv
  have hv0 := hv
  obtain ⟨g1, g2, g3, _, _⟩ := hv0
  dsimp only at g1 g2 g3 ⊢
  repeat refine sy ?_
  refine vc_cond_dec rfl (fun h => ?_) (fun h => ?_)
  · have hij : i < j := by omega
    obtain ⟨z1, z2⟩ := y4 ((i + j) / 2) (by omega) (by omega)
    obtain ⟨v, hvv⟩ := get_some (xs := xs) (k := (i + j) / 2) (by omega)
    obtain ⟨u, huu⟩ := get_some (xs := xs) (k := mid + m - 1 - (i + j) / 2) (by omega)
    have hvv' : xs[(((i + j) / 2 : Nat) : Int).toNat]? = some v := hvv
    have huu' : xs[(((mid + m - 1 : Nat) : Int) - (((i + j) / 2 : Nat) : Int)).toNat]? = some u := by
      rw [← huu]; congr 1; omega
    have hfe : ltAt xs (mid + m - 1 - (i + j) / 2) ((i + j) / 2) = ltE u v := ltAt_eq huu hvv
    repeat refine sy ?_
    rw [half_eq i j (by omega)]
    refine vd_start ?_
    repeat refine dq ?_
    refine dq ?_ (hq := q_index_own_len (i := ((mid + m - 1 : Nat) : Int) - (((i + j) / 2 : Nat) : Int)) (xs := xs) hnn ⟨by omega, by omega⟩)
    refine dq ?_ (hq := q_loada_own huu')
    repeat refine dq ?_
    refine dq ?_ (hq := q_index_own_len (i := (((i + j) / 2 : Nat) : Int)) (xs := xs) hnn ⟨by omega, by omega⟩)
    refine dq ?_ (hq := q_loada_own hvv')
    refine de (op_callv (first := []) (capt := []) (vs := [.agg ⟨u.cells⟩, .agg ⟨v.cells⟩]) rfl (c_eCmp u v) KCall.out rfl) (fun _ _ => ⟨?_, ?_⟩)
    · exact aq
    repeat refine dq ?_
    refine va_end ?_
    repeat refine sy ?_
    refine vc_cond_ndec rfl (fun h2 => ?_) (fun h2 => ?_)
    · repeat refine sy ?_
      exact ag ((i + j) / 2 + 1, j) (hv.up hij (by show (!ltAt xs (mid + m - 1 - (i + j) / 2) ((i + j) / 2)) = true; rw [hfe, Bool.not_eq_true']; exact decide_eq_false h2)) (by show j - ((i + j) / 2 + 1) < j - i; omega)
    · repeat refine sy ?_
      exact ag (i, (i + j) / 2) (hv.down hij (by show (!ltAt xs (mid + m - 1 - (i + j) / 2) ((i + j) / 2)) = false; rw [hfe, Bool.not_eq_false']; exact decide_eq_true h2)) (by show (i + j) / 2 - i < j - i; omega)
  have hij : ¬ i < j := by omega
  subst hxs
  obtain ⟨A1, A2, B1, B2, rfl, rfl, w1, w2, w3, w4⟩ := sym_cut (p := mid + m - 1) sA sB hm hv hij y1 y2 y4 (by omega) (by omega) y3 (by omega) (by omega) (by omega)
  have hAl : (A1 ++ A2).length = A1.length + A2.length := List.length_append
  have hBl : (B1 ++ B2).length = B1.length + B2.length := List.length_append
  clear hv g1 g2 g3 y1 y2 y3 y4 y5 y6 y7 y8 y9
  have hi' : i = p + A1.length := by omega
  have hmd : mid = p + A1.length + B1.length := by omega
  have hee : mid + m - i = m + B1.length := by omega
  repeat refine sy ?_
  rw [show ((mid + m : Nat) : Int) - ((i : Nat) : Int) = ((m + B1.length : Nat) : Int) by omega]
  -- the middle rows change places
  refine ctw (ι := Unit) (fun _ => True) (fun _ => [(185, .bool (decide (i < m ∧ m < m + B1.length))), (20, .int .i64 i), (24, .int .i64 ((m + B1.length : Nat))), (18, .int .i64 mid), (0, .slice a nn c), (1, .int .i64 p), (2, .int .i64 m), (3, .int .i64 b), (4, fCmpE)]) (fun _ => [own rEn TE a c (P ++ (A1 ++ A2) ++ (B1 ++ B2) ++ S), R]) ?_ ?_
  · refine vd (fun h4 => ?_) (fun h4 => ?_)
    · repeat refine sy ?_
      refine jn () trivial (hl := by
        rw [show decide (i < m ∧ m < m + B1.length) = decide ((m : Int) < ((m + B1.length : Nat) : Int)) by rw [decide_eq_decide]; omega]
        exact ⟨rfl, rfl, rfl, rfl, rfl, rfl, rfl, rfl, rfl, trivial⟩)
    · repeat refine sy ?_
      refine jn () trivial (hl := by
        rw [show decide (i < m ∧ m < m + B1.length) = false by rw [decide_eq_false_iff_not]; omega]
        exact ⟨rfl, rfl, rfl, rfl, rfl, rfl, rfl, rfl, rfl, trivial⟩)
  intro _ _
  repeat refine sy ?_
  refine ct (ι := Unit) (fun _ => True) (fun _ => [(20, .int .i64 i), (24, .int .i64 ((m + B1.length : Nat))), (18, .int .i64 mid), (0, .slice a nn c), (1, .int .i64 p), (2, .int .i64 m), (3, .int .i64 b), (4, fCmpE)]) (fun _ => [own rEn TE a c (P ++ (A1 ++ B1) ++ (A2 ++ B2) ++ S), R]) ?_ ?_
  · refine vc_cond_dec rfl (fun h4 => ?_) (fun h4 => ?_)
    · repeat refine sy ?_
      refine cd (c_eRotate a c nn (P ++ A1) A2 B1 (B2 ++ S) (i : Int) (m : Int) ((m + B1.length : Nat) : Int) fCmpE (by simp only [List.length_append]; omega) (by simp only [List.length_append]; omega) (by simp only [List.length_append]; omega) (by simp only [List.length_append]; omega) (by omega) (by omega)) ?_ (ht := Takes.cons (by
        rw [show P ++ (A1 ++ A2) ++ (B1 ++ B2) ++ S = P ++ A1 ++ A2 ++ B1 ++ (B2 ++ S) by simp]; exact Take.here) Takes.nil)
      repeat refine sy ?_
      rw [show P ++ A1 ++ B1 ++ A2 ++ (B2 ++ S) = P ++ (A1 ++ B1) ++ (A2 ++ B2) ++ S by simp]
      exact jn () trivial
    · have stay : P ++ (A1 ++ A2) ++ (B1 ++ B2) ++ S = P ++ (A1 ++ B1) ++ (A2 ++ B2) ++ S := by
        have : A2.length = 0 ∨ B1.length = 0 := by omega
        rcases this with h | h <;> rw [List.length_eq_zero_iff] at h <;> subst h <;> simp
      repeat refine sy ?_
      rw [stay]
      exact jn () trivial
  intro _ _
  have sA1 := sA.left
  have sA2 := sA.right
  have sB1 := sB.left
  have sB2 := sB.right
  repeat refine sy ?_
  -- the left half
  refine ctw (ι := Unit) (fun _ => True) (fun _ => [(199, .bool (decide (p < i ∧ i < mid))), (20, .int .i64 i), (24, .int .i64 ((m + B1.length : Nat))), (18, .int .i64 mid), (0, .slice a nn c), (1, .int .i64 p), (2, .int .i64 m), (3, .int .i64 b), (4, fCmpE)]) (fun _ => [own rEn TE a c (P ++ (A1 ++ B1) ++ (A2 ++ B2) ++ S), R]) ?_ ?_
  · refine vd (fun h4 => ?_) (fun h4 => ?_)
    · repeat refine sy ?_
      refine jn () trivial (hl := by
        rw [show decide (p < i ∧ i < mid) = decide ((i : Int) < (mid : Int)) by rw [decide_eq_decide]; omega]
        exact ⟨rfl, rfl, rfl, rfl, rfl, rfl, rfl, rfl, rfl, trivial⟩)
    · repeat refine sy ?_
      refine jn () trivial (hl := by
        rw [show decide (p < i ∧ i < mid) = false by rw [decide_eq_false_iff_not]; omega]
        exact ⟨rfl, rfl, rfl, rfl, rfl, rfl, rfl, rfl, rfl, trivial⟩)
  intro _ _
  repeat refine sy ?_
  refine ct (ι := List Entr) (fun C => C.Perm (A1 ++ B1) ∧ SrtE C) (fun _ => [(24, .int .i64 ((m + B1.length : Nat))), (18, .int .i64 mid), (0, .slice a nn c), (1, .int .i64 p), (2, .int .i64 m), (3, .int .i64 b), (4, fCmpE)]) (fun C => [own rEn TE a c (P ++ C ++ (A2 ++ B2) ++ S), R]) ?_ ?_
  · refine vc_cond_dec rfl (fun h4 => ?_) (fun h4 => ?_)
    · repeat refine sy ?_
      refine ca (ih a c nn P A1 B1 ((A2 ++ B2) ++ S) p i mid (by omega) (by simp only [List.length_append]; omega) (by omega) (by omega) (by omega) (by omega) (by omega) hsm sA1 sB1) (fun C hC => ?_) (ht := Takes.cons (by
        rw [show P ++ (A1 ++ B1) ++ (A2 ++ B2) ++ S = P ++ A1 ++ B1 ++ ((A2 ++ B2) ++ S) by simp]; exact Take.here) Takes.nil)
      repeat refine sy ?_
      rw [show P ++ C ++ (A2 ++ B2 ++ S) = P ++ C ++ (A2 ++ B2) ++ S by simp]
      exact jn C hC
    · repeat refine sy ?_
      refine jn (A1 ++ B1) ⟨List.Perm.refl _, ?_⟩
      have : A1.length = 0 ∨ B1.length = 0 := by omega
      rcases this with h | h <;> rw [List.length_eq_zero_iff] at h <;> subst h
      · simpa using sB1
      · simpa using sA1
  intro C hC
  have hCl := hC.1.length_eq
  simp only [List.length_append] at hCl
  repeat refine sy ?_
  -- the right half
  refine ctw (ι := Unit) (fun _ => True) (fun _ => [(213, .bool (decide (mid < m + B1.length ∧ m + B1.length < b))), (24, .int .i64 ((m + B1.length : Nat))), (18, .int .i64 mid), (0, .slice a nn c), (1, .int .i64 p), (2, .int .i64 m), (3, .int .i64 b), (4, fCmpE)]) (fun _ => [own rEn TE a c (P ++ C ++ (A2 ++ B2) ++ S), R]) ?_ ?_
  · refine vd (fun h4 => ?_) (fun h4 => ?_)
    · repeat refine sy ?_
      refine jn () trivial (hl := by
        rw [show decide (mid < m + B1.length ∧ m + B1.length < b) = decide (((m + B1.length : Nat) : Int) < (b : Int)) by rw [decide_eq_decide]; omega]
        exact ⟨rfl, rfl, rfl, rfl, rfl, rfl, rfl, rfl, trivial⟩)
    · repeat refine sy ?_
      refine jn () trivial (hl := by
        rw [show decide (mid < m + B1.length ∧ m + B1.length < b) = false by rw [decide_eq_false_iff_not]; omega]
        exact ⟨rfl, rfl, rfl, rfl, rfl, rfl, rfl, rfl, trivial⟩)
  intro _ _
  have fin : ∀ D : List Entr, D.Perm (A2 ++ B2) → SrtE D → (C ++ D).Perm (A1 ++ A2 ++ (B1 ++ B2)) ∧ SrtE (C ++ D) := by
    intro D hD sD
    refine ⟨(hC.1.append hD).trans ?_, Srt.append hC.2 sD ?_⟩
    · rw [List.append_assoc, List.append_assoc]
      refine List.Perm.append_left A1 ?_
      rw [← List.append_assoc, ← List.append_assoc]
      exact List.Perm.append_right B2 List.perm_append_comm
    · intro x hx y hy
      have hx' := (hC.1.mem_iff).1 hx
      have hy' := (hD.mem_iff).1 hy
      rcases List.mem_append.1 hx' with hx' | hx' <;> rcases List.mem_append.1 hy' with hy' | hy'
      · exact sA.cross x hx' y hy'
      · exact w3 x hx' y hy'
      · exact w4 x hx' y hy'
      · exact sB.cross x hx' y hy'
  repeat refine sy ?_
  refine vc_cond_dec rfl (fun h4 => ?_) (fun h4 => ?_)
  · repeat refine sy ?_
    refine ca (ih a c nn (P ++ C) A2 B2 S mid (m + B1.length) b (by omega) (by simp only [List.length_append]; omega) (by simp only [List.length_append]; omega) (by simp only [List.length_append]; omega) (by simp only [List.length_append]; omega) (by omega) (by omega) hsm sA2 sB2) (fun D hD => ?_) (ht := Takes.cons (by
      rw [show P ++ C ++ (A2 ++ B2) ++ S = P ++ C ++ A2 ++ B2 ++ S by simp]; exact Take.here) Takes.nil)
    repeat refine sy ?_
    rw [show P ++ C ++ D ++ S = P ++ (C ++ D) ++ S by simp]
    exact en (C ++ D) (fin D hD.1 hD.2)
  · repeat refine sy ?_
    rw [show P ++ C ++ (A2 ++ B2) ++ S = P ++ (C ++ (A2 ++ B2)) ++ S by simp]
    refine en (C ++ (A2 ++ B2)) (fin (A2 ++ B2) (List.Perm.refl _) ?_)
    have : A2.length = 0 ∨ B2.length = 0 := by omega
    rcases this with h | h <;> rw [List.length_eq_zero_iff] at h <;> subst h
    · simpa using sB2
    · simpa using sA2
theorem c_eSym (a : Option Addr) (c nn : Nat) (P A B S : List Entr) (p m b : Int) (hnn : nn = (P ++ A ++ B ++ S).length) (hp : p = P.length) (hm : m = P.length + A.length) (hb : b = P.length + A.length + B.length) (hA : 0 < A.length) (hB : 0 < B.length) (hsm : nn ≤ 1152921504606846976) (sA : SrtE A) (sB : SrtE B) :
    Does Tryd.prog 100 [.slice a nn c, .int .i64 p, .int .i64 m, .int .i64 b, fCmpE].toArray [own rEn TE a c (P ++ A ++ B ++ S)] (fun _ : List Entr => .tuple ⟨[]⟩) (fun C => C.Perm (A ++ B) ∧ SrtE C) (fun C => [own rEn TE a c (P ++ C ++ S)]) := by
  have := c_eSym0 (A.length + B.length) a c nn P A B S P.length (P.length + A.length) (P.length + A.length + B.length) (Nat.le_refl _) hnn rfl rfl rfl hA hB hsm sA sB
  rw [hp, hm, hb]
  exact this
end Go.Proofs.YtikodfclemgfoaaDoor
