/- Contracts 25: entries by insertion. -/
import Derived.Test.YtikodfclemgfoaaDoorSbK24
set_option linter.all false
set_option linter.unusedVariables false
namespace Go.Proofs.YtikodfclemgfoaaDoor
open Go.Sb
attribute [local irreducible] Go.wpList Go.Code.wp Go.Exit.then Go.Exit.inBlock Go.Sb.Ends Go.Sb.VC Go.Sb.VA Go.Sb.OpV Go.Sb.OpE Go.Sb.OpD
set_option maxHeartbeats 2000000
set_option maxRecDepth 10000
abbrev fCmpE : Value := .func (.func 73) #[] #[]
abbrev SrtE (l : List Entr) : Prop := Srt ltE l
theorem get_app {α : Type} (A B : List α) (x : α) (k : Nat) (h : k = A.length) : (A ++ x :: B)[k]? = some x := by
  subst h; simp
theorem set_app {α : Type} (A B : List α) (x y : α) (k : Nat) (h : k = A.length) : (A ++ x :: B).set k y = A ++ y :: B := by
  subst h; simp
theorem c_eInsert (a : Option Addr) (c nn : Nat) (P A S : List Entr) (pi qi : Int) (hnn : nn = (P ++ A ++ S).length) (e1 : pi = P.length) (e2 : qi = P.length + A.length) (hsm : nn ≤ 1152921504606846976) :
    Does Tryd.prog 99 [.slice a nn c, .int .i64 pi, .int .i64 qi, fCmpE].toArray [own rEn TE a c (P ++ A ++ S)] (fun _ : List Entr => .tuple ⟨[]⟩) (fun C => C.Perm A ∧ SrtE C) (fun C => [own rEn TE a c (P ++ C ++ S)]) := by
  refine spec_of Tryd.func99 rfl Tryd.ntmps99 rfl fun R w0 => ?_
  refine vc_know (fun w hs => own_len hs) fun hlen => ?_
  simp only [List.length_append] at hlen hnn
  cases A with
  | nil =>
    simp only [List.length_nil] at e2 hnn hlen
    repeat refine sy ?_
    refine lp (ι := Unit) (fun _ => True) (fun _ => [(8, .int .i64 (pi + 1)), (0, .slice a nn c), (1, .int .i64 pi), (2, .int .i64 qi), (3, fCmpE)]) (fun _ => [own rEn TE a c (P ++ [] ++ S), R]) (fun _ => 0) () trivial ?_
    intro _ _
    repeat refine sy ?_
    refine vc_cond_dec rfl (fun h => absurd h (by omega)) (fun h => ?_)
    repeat refine sy ?_
    exact en [] ⟨List.Perm.refl _, List.Pairwise.nil⟩
  | cons x0 A0 =>
  simp only [List.length_cons] at hlen hnn e2
  repeat refine sy ?_
  refine lp (ι := List Entr × List Entr) (fun i => 0 < i.1.length ∧ i.1.length + i.2.length = A0.length + 1 ∧ (i.1 ++ i.2).Perm (x0 :: A0) ∧ SrtE i.1) (fun i => [(8, .int .i64 (pi + i.1.length)), (0, .slice a nn c), (1, .int .i64 pi), (2, .int .i64 qi), (3, fCmpE)]) (fun i => [own rEn TE a c (P ++ i.1 ++ i.2 ++ S), R]) (fun i => i.2.length) ([x0], A0) ⟨by simp, by simp; omega, List.Perm.refl _, List.pairwise_singleton _ _⟩ ?_ (ht := Takes.cons (by
    rw [show P ++ x0 :: A0 ++ S = P ++ [x0] ++ A0 ++ S by simp]; exact Take.here) (Takes.cons (by repeat (first | exact Take.here | apply Take.there)) Takes.nil))
  rintro ⟨C, D⟩ ⟨hC, hCD, hp, hs⟩
  dsimp only at hC hCD hp hs ⊢
  repeat refine sy ?_
  refine vc_cond_dec rfl (fun h => ?_) (fun h => ?_)
  · obtain ⟨v, D', rfl⟩ : ∃ v D', D = v :: D' := by
      cases D with
      | nil => simp at hCD; omega
      | cons v D' => exact ⟨v, D', rfl⟩
    simp only [List.length_cons] at hCD
    repeat refine sy ?_
    refine lp (ι := List Entr × List Entr) (fun i => i.1 ++ i.2 = C ∧ ∀ y ∈ i.2, ltE y v = false) (fun i => [(9, .int .i64 (pi + i.1.length)), (8, .int .i64 (pi + C.length)), (0, .slice a nn c), (1, .int .i64 pi), (2, .int .i64 qi), (3, fCmpE)]) (fun i => [own rEn TE a c (P ++ i.1 ++ v :: (i.2 ++ D' ++ S)), R]) (fun i => i.1.length) (C, []) ⟨by simp, by simp⟩ ?_ (ht := Takes.cons (by
      rw [show P ++ C ++ v :: D' ++ S = P ++ C ++ v :: ([] ++ D' ++ S) by simp]; exact Take.here) (Takes.cons (by repeat (first | exact Take.here | apply Take.there)) Takes.nil))
    rintro ⟨C1, C2⟩ ⟨hc, hc2⟩
    dsimp only at hc hc2 ⊢
    have hcl := congrArg List.length hc
    simp only [List.length_append] at hcl
    have done : (∀ y ∈ C1, ltE v y = false) → (C1 ++ v :: C2 ++ D').Perm (x0 :: A0) ∧ SrtE (C1 ++ v :: C2) := fun hv => by
      subst hc
      refine ⟨List.Perm.trans ?_ hp, Srt.put ltE_lt hs hv hc2⟩
      rw [List.append_assoc, List.append_assoc]
      refine List.Perm.append_left C1 ?_
      exact (List.perm_middle (a := v) (l₁ := C2) (l₂ := D')).symm
    repeat refine sy ?_
    refine vd_start ?_
    repeat refine dq ?_
    refine va_dec (fun h1 => ?_) (fun h1 => ?_)
    · obtain ⟨C1', u, rfl⟩ : ∃ C1' u, C1 = C1' ++ [u] := by
        rcases List.eq_nil_or_concat C1 with h0 | ⟨l, b, h0⟩
        · subst h0; simp at h1
        · exact ⟨l, b, by simpa using h0⟩
      simp only [List.length_append, List.length_cons, List.length_nil] at hcl h1
      have hn1 : ([] : List Entr).length = 0 := rfl
      have hx : (P ++ (C1' ++ [u]) ++ v :: (C2 ++ D' ++ S))[(pi + ((C1' ++ [u]).length : Int)).toNat]? = some v := by
        refine get_app (P ++ (C1' ++ [u])) _ v _ ?_
        simp only [List.length_append, List.length_cons, List.length_nil]; omega
      have hy : (P ++ (C1' ++ [u]) ++ v :: (C2 ++ D' ++ S))[(pi + ((C1' ++ [u]).length : Int) - 1).toNat]? = some u := by
        rw [show P ++ (C1' ++ [u]) ++ v :: (C2 ++ D' ++ S) = (P ++ C1') ++ u :: (v :: (C2 ++ D' ++ S)) by simp]
        refine get_app (P ++ C1') _ u _ ?_
        simp only [List.length_append, List.length_cons, List.length_nil]; omega
      have hnn' : nn = (P ++ (C1' ++ [u]) ++ v :: (C2 ++ D' ++ S)).length := by
        simp only [List.length_append, List.length_cons, List.length_nil]; omega
      have hb : (((C1' ++ [u]).length : Nat) : Int) = C1'.length + 1 := by simp
      repeat refine dq ?_
      refine dq ?_ (hq := q_index_own_len (i := pi + ((C1' ++ [u]).length : Int)) (xs := P ++ (C1' ++ [u]) ++ v :: (C2 ++ D' ++ S)) hnn' ⟨by omega, by omega⟩)
      refine dq ?_ (hq := q_loada_own hx)
      repeat refine dq ?_
      refine dq ?_ (hq := q_index_own_len (i := pi + ((C1' ++ [u]).length : Int) - 1) (xs := P ++ (C1' ++ [u]) ++ v :: (C2 ++ D' ++ S)) hnn' ⟨by omega, by omega⟩)
      refine dq ?_ (hq := q_loada_own hy)
      refine de (op_callv (first := []) (capt := []) (vs := [.agg ⟨v.cells⟩, .agg ⟨u.cells⟩]) rfl (c_eCmp v u) KCall.out rfl) (fun _ _ => ⟨?_, ?_⟩)
      · exact aq
      repeat refine dq ?_
      refine va_end ?_
      repeat refine sy ?_
      refine vc_cond_dec rfl (fun h2 => ?_) (fun h2 => ?_)
      · have hlt : ltE v u = true := decide_eq_true h2
        repeat refine sy ?_
        refine vd_start ?_
        repeat refine dq ?_
        refine dq ?_ (hq := q_index_own_len (i := pi + ((C1' ++ [u]).length : Int) - 1) (xs := P ++ (C1' ++ [u]) ++ v :: (C2 ++ D' ++ S)) hnn' ⟨by omega, by omega⟩)
        refine dq ?_ (hq := q_loada_own hy)
        repeat refine dq ?_
        refine dq ?_ (hq := q_index_own_len (i := pi + ((C1' ++ [u]).length : Int)) (xs := P ++ (C1' ++ [u]) ++ v :: (C2 ++ D' ++ S)) hnn' ⟨by omega, by omega⟩)
        refine dq ?_ (hq := q_loada_own hx)
        refine dq ?_ (hq := q_index_own_len (i := pi + ((C1' ++ [u]).length : Int)) (xs := P ++ (C1' ++ [u]) ++ v :: (C2 ++ D' ++ S)) hnn' ⟨by omega, by omega⟩)
        refine d_store_own (R := rEn) (xs := P ++ (C1' ++ [u]) ++ v :: (C2 ++ D' ++ S)) (j := (pi + ((C1' ++ [u]).length : Int)).toNat) (q' := u) (cs := u.cells) (by omega) ⟨?_, ?_⟩
        · exact aq
        rw [set_app (P ++ (C1' ++ [u])) _ v u _ (by simp only [List.length_append, List.length_cons, List.length_nil]; omega)]
        have hnn2 : nn = (P ++ (C1' ++ [u]) ++ u :: (C2 ++ D' ++ S)).length := by
          simp only [List.length_append, List.length_cons, List.length_nil]; omega
        refine dq ?_ (hq := q_index_own_len (i := pi + ((C1' ++ [u]).length : Int) - 1) (xs := P ++ (C1' ++ [u]) ++ u :: (C2 ++ D' ++ S)) hnn2 ⟨by omega, by omega⟩)
        refine d_store_own (R := rEn) (xs := P ++ (C1' ++ [u]) ++ u :: (C2 ++ D' ++ S)) (j := (pi + ((C1' ++ [u]).length : Int) - 1).toNat) (q' := v) (cs := v.cells) (by omega) ⟨?_, ?_⟩
        · exact aq
        rw [show P ++ (C1' ++ [u]) ++ u :: (C2 ++ D' ++ S) = (P ++ C1') ++ u :: (u :: C2 ++ D' ++ S) by simp, set_app (P ++ C1') _ u v _ (by simp only [List.length_append, List.length_cons, List.length_nil]; omega)]
        refine va_end ?_
        repeat refine sy ?_
        rw [show pi + ((C1' ++ [u]).length : Int) - 1 = pi + (C1'.length : Int) by omega]
        refine ag (C1', u :: C2) ⟨by show C1' ++ u :: C2 = C; rw [← hc]; simp, ?_⟩ (by show C1'.length < (C1' ++ [u]).length; simp)
        intro y hy
        rcases List.mem_cons.1 hy with rfl | hy
        · exact ltE_lt.asym _ _ hlt
        · exact hc2 y hy
      · have hlt : ltE v u = false := decide_eq_false h2
        obtain ⟨d1, d2⟩ := done (Srt.last ltE_lt (Srt.left (hc ▸ hs)) hlt)
        repeat refine sy ?_
        rw [show pi + (C.length : Int) + 1 = pi + ((C1' ++ [u] ++ v :: C2).length : Int) by simp only [List.length_append, List.length_cons, List.length_nil]; omega, show P ++ (C1' ++ [u]) ++ v :: (C2 ++ D' ++ S) = P ++ (C1' ++ [u] ++ v :: C2) ++ D' ++ S by simp]
        exact ag (C1' ++ [u] ++ v :: C2, D') ⟨by simp; omega, by simp only [List.length_append, List.length_cons, List.length_nil]; omega, d1, d2⟩ (by show D'.length < (v :: D').length; simp)
    · have h0 : C1 = [] := by
        cases C1 with
        | nil => rfl
        | cons a b => simp only [List.length_cons] at h1; omega
      subst h0
      obtain ⟨d1, d2⟩ := done (by simp)
      repeat refine dq ?_
      refine va_end ?_
      repeat refine sy ?_
      refine vc_cond_f rfl ?_
      repeat refine sy ?_
      rw [show pi + (C.length : Int) + 1 = pi + (([] ++ v :: C2).length : Int) by simp only [List.length_nil] at hcl; simp only [List.nil_append, List.length_cons]; omega, show P ++ [] ++ v :: (C2 ++ D' ++ S) = P ++ ([] ++ v :: C2) ++ D' ++ S by simp]
      exact ag ([] ++ v :: C2, D') ⟨by simp, by simp only [List.nil_append, List.length_cons]; simp only [List.length_nil] at hcl; omega, d1, d2⟩ (by show D'.length < (v :: D').length; simp)
  · repeat refine sy ?_
    have hD : D = [] := by
      cases D with
      | nil => rfl
      | cons a b => simp only [List.length_cons] at hCD; omega
    subst hD
    simp only [List.append_nil] at hp ⊢
    exact en C ⟨hp, hs⟩
end Go.Proofs.YtikodfclemgfoaaDoor
