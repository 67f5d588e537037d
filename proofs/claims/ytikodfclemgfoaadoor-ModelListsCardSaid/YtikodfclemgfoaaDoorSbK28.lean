/- Contracts 28: slices.SortStableFunc, slices.Clone for entries; page.Sort. -/
import Derived.Test.YtikodfclemgfoaaDoorSbK27
set_option linter.all false
set_option linter.unusedVariables false
namespace Go.Proofs.YtikodfclemgfoaaDoor
open Go.Sb
attribute [local irreducible] Go.wpList Go.Code.wp Go.Exit.then Go.Exit.inBlock Go.Sb.Ends Go.Sb.VC Go.Sb.VA Go.Sb.OpV Go.Sb.OpE Go.Sb.OpD
set_option maxHeartbeats 4000000
set_option maxRecDepth 10000
/-- Sorted rows of one length. -/
def Blks (s : Nat) (L : List (List Entr)) : Prop := ∀ B ∈ L, B.length = s ∧ SrtE B
theorem Blks.snoc {s : Nat} {L : List (List Entr)} {B : List Entr} (h : Blks s L) (h1 : B.length = s) (h2 : SrtE B) : Blks s (L ++ [B]) := by
  intro x hx
  rcases List.mem_append.1 hx with hx | hx
  · exact h x hx
  · simp only [List.mem_singleton] at hx; subst hx; exact ⟨h1, h2⟩
theorem flatten_snoc {α : Type} (L : List (List α)) (B : List α) : (L ++ [B]).flatten = L.flatten ++ B := by simp
theorem c_eStable (a : Option Addr) (c nn : Nat) (xs : List Entr) (n : Int) (hnn : nn = xs.length) (hn : n = nn) (hsm : nn ≤ 1152921504606846976) :
    Does Tryd.prog 90 [.slice a nn c, .int .i64 n, fCmpE].toArray [own rEn TE a c xs] (fun _ : List Entr => .tuple ⟨[]⟩) (fun C => C.Perm xs ∧ SrtE C) (fun C => [own rEn TE a c C]) := by
  refine spec_of Tryd.func90 rfl Tryd.ntmps90 rfl fun R w0 => ?_
  subst hn
  repeat refine sy ?_
  refine lp (ι := List (List Entr) × List Entr) (fun i => Blks 20 i.1 ∧ (i.1.flatten ++ i.2).Perm xs) (fun i => [(7, .int .i64 i.1.flatten.length), (8, .int .i64 ((i.1.flatten.length : Int) + 20)), (6, .int .i64 20), (0, .slice a nn c), (1, .int .i64 nn), (2, fCmpE)]) (fun i => [own rEn TE a c (i.1.flatten ++ i.2), R]) (fun i => i.2.length) ([], xs) ⟨by simp [Blks], List.Perm.refl _⟩ ?_
  rintro ⟨L, D⟩ ⟨hL, hp⟩
  dsimp only at hL hp ⊢
  have hl := hp.length_eq
  simp only [List.length_append] at hl
  repeat refine sy ?_
  refine vc_cond_dec rfl (fun h => ?_) (fun h => ?_)
  · obtain ⟨X, D', rfl, hX⟩ := cut_at D 20 (by omega)
    have hDl : (X ++ D').length = X.length + D'.length := List.length_append
    repeat refine sy ?_
    refine ca (c_eInsert a c nn L.flatten X D' (L.flatten.length : Int) ((L.flatten.length : Int) + 20) (by simp only [List.length_append]; omega) rfl (by omega) hsm) (fun C hC => ?_) (ht := Takes.cons (by
      rw [show L.flatten ++ (X ++ D') = L.flatten ++ X ++ D' by simp]; exact Take.here) Takes.nil)
    have hCl := hC.1.length_eq
    repeat refine sy ?_
    have hfl : ((L ++ [C]).flatten.length : Int) = (L.flatten.length : Int) + 20 := by rw [flatten_snoc, List.length_append]; omega
    rw [← hfl, show L.flatten ++ C ++ D' = (L ++ [C]).flatten ++ D' by rw [flatten_snoc]]
    refine ag (L ++ [C], D') ⟨hL.snoc (by omega) hC.2, ?_⟩ (by show D'.length < (X ++ D').length; omega)
    show ((L ++ [C]).flatten ++ D').Perm xs
    rw [flatten_snoc]
    refine List.Perm.trans ?_ hp
    rw [List.append_assoc]
    exact List.Perm.append_left _ (List.Perm.append_right _ hC.1)
  · repeat refine sy ?_
    rw [← List.append_nil (L.flatten ++ D)]
    refine ca (c_eInsert a c nn L.flatten D [] (L.flatten.length : Int) (nn : Int) (by simp only [List.length_append, List.length_nil]; omega) rfl (by omega) hsm) (fun C hC => ?_)
    have hCl := hC.1.length_eq
    have hp2 : (L.flatten ++ C).Perm xs := (List.Perm.append_left _ hC.1).trans hp
    repeat refine sy ?_
    rw [List.append_nil]
    refine lp (ι := Nat × List (List Entr) × List Entr) (fun i => 20 ≤ i.1 ∧ Blks i.1 i.2.1 ∧ SrtE i.2.2 ∧ i.2.2.length < i.1 ∧ (i.2.1.flatten ++ i.2.2).Perm xs) (fun i => [(6, .int .i64 i.1), (0, .slice a nn c), (1, .int .i64 nn), (2, fCmpE)]) (fun i => [own rEn TE a c (i.2.1.flatten ++ i.2.2), R]) (fun i => nn - i.1) (20, L, C) ⟨Nat.le_refl _, hL, hC.2, by show C.length < 20; omega, hp2⟩ ?_
    clear hp2 hCl hC C h hl hp hL D L
    rintro ⟨s, L, T⟩ ⟨hs, hL, hT, hTs, hp⟩
    dsimp only at hs hL hT hTs hp ⊢
    have hl := hp.length_eq
    simp only [List.length_append] at hl
    repeat refine sy ?_
    refine vc_cond_dec rfl (fun h => ?_) (fun h => ?_)
    · repeat refine sy ?_
      refine lp (ι := List (List Entr) × List (List Entr)) (fun i => Blks (2 * s) i.1 ∧ Blks s i.2 ∧ (i.1.flatten ++ (i.2.flatten ++ T)).Perm xs) (fun i => [(7, .int .i64 i.1.flatten.length), (8, .int .i64 ((i.1.flatten.length : Int) + 2 * (s : Int))), (6, .int .i64 s), (0, .slice a nn c), (1, .int .i64 nn), (2, fCmpE)]) (fun i => [own rEn TE a c (i.1.flatten ++ (i.2.flatten ++ T)), R]) (fun i => i.2.length) ([], L) ⟨by simp [Blks], hL, hp⟩ ?_ (hl := by
        rw [show ((([] : List (List Entr)).flatten.length : Nat) : Int) + 2 * (s : Int) = 2 * (s : Int) by simp]; exact ⟨rfl, rfl, rfl, rfl, rfl, rfl, trivial⟩)
      clear hl hp hL L
      rintro ⟨M, L⟩ ⟨hM, hL, hp⟩
      dsimp only at hM hL hp ⊢
      have hl := hp.length_eq
      simp only [List.length_append] at hl
      repeat refine sy ?_
      refine vc_cond_dec rfl (fun h3 => ?_) (fun h3 => ?_)
      · obtain ⟨X, Y, L', rfl⟩ : ∃ X Y L', L = X :: Y :: L' := by
          match L, hL with
          | [], _ => simp only [List.flatten_nil, List.length_nil] at hl; omega
          | [X], hL => have := (hL X (by simp)).1; simp only [List.flatten_cons, List.flatten_nil, List.append_nil] at hl; omega
          | X :: Y :: L', _ => exact ⟨X, Y, L', rfl⟩
        obtain ⟨hX, sX⟩ := hL X (by simp)
        obtain ⟨hY, sY⟩ := hL Y (by simp)
        have hL' : Blks s L' := fun B hB => hL B (by simp [hB])
        simp only [List.flatten_cons, List.length_append] at hl
        repeat refine sy ?_
        refine ca (c_eSym a c nn M.flatten X Y (L'.flatten ++ T) (M.flatten.length : Int) ((M.flatten.length : Int) + (s : Int)) ((M.flatten.length : Int) + 2 * (s : Int)) (by simp only [List.length_append]; omega) rfl (by omega) (by omega) (by omega) (by omega) hsm sX sY) (fun C hC => ?_) (ht := Takes.cons (by
          rw [show M.flatten ++ ((X :: Y :: L').flatten ++ T) = M.flatten ++ X ++ Y ++ (L'.flatten ++ T) by simp]; exact Take.here) Takes.nil)
        have hCl := hC.1.length_eq
        simp only [List.length_append] at hCl
        repeat refine sy ?_
        have hfl : ((M ++ [C]).flatten.length : Int) = (M.flatten.length : Int) + 2 * (s : Int) := by rw [flatten_snoc, List.length_append]; omega
        rw [← hfl, show M.flatten ++ C ++ (L'.flatten ++ T) = (M ++ [C]).flatten ++ (L'.flatten ++ T) by rw [flatten_snoc]]
        refine ag (M ++ [C], L') ⟨hM.snoc (by omega) hC.2, hL', ?_⟩ (by show L'.length < (X :: Y :: L').length; simp only [List.length_cons]; omega)
        show ((M ++ [C]).flatten ++ (L'.flatten ++ T)).Perm xs
        rw [flatten_snoc]
        refine List.Perm.trans ?_ hp
        rw [List.append_assoc]
        refine List.Perm.append_left _ ?_
        rw [show (X :: Y :: L').flatten ++ T = (X ++ Y) ++ (L'.flatten ++ T) by simp]
        exact List.Perm.append_right _ hC.1
      · repeat refine sy ?_
        refine ct (ι := List Entr) (fun U => SrtE U ∧ U.length < 2 * s ∧ (M.flatten ++ U).Perm xs) (fun _ => [(6, .int .i64 s), (0, .slice a nn c), (1, .int .i64 nn), (2, fCmpE)]) (fun U => [own rEn TE a c (M.flatten ++ U), R]) ?_ ?_
        · refine vc_cond_dec rfl (fun h4 => ?_) (fun h4 => ?_)
          · obtain ⟨X, rfl⟩ : ∃ X, L = [X] := by
              match L, hL with
              | [], _ => simp only [List.flatten_nil, List.length_nil] at hl; omega
              | [X], _ => exact ⟨X, rfl⟩
              | X :: Y :: L', hL => have h5 := (hL X (by simp)).1; have h6 := (hL Y (by simp)).1; simp only [List.flatten_cons, List.length_append] at hl; omega
            obtain ⟨hX, sX⟩ := hL X (by simp)
            simp only [List.flatten_cons, List.flatten_nil, List.append_nil] at hl hp ⊢
            repeat refine sy ?_
            rw [show M.flatten ++ (X ++ T) = M.flatten ++ X ++ T ++ [] by simp]
            refine ca (c_eSym a c nn M.flatten X T [] (M.flatten.length : Int) ((M.flatten.length : Int) + (s : Int)) (nn : Int) (by simp only [List.length_append, List.length_nil]; omega) rfl (by omega) (by omega) (by omega) (by omega) hsm sX hT) (fun C hC => ?_)
            have hCl := hC.1.length_eq
            simp only [List.length_append] at hCl
            repeat refine sy ?_
            rw [List.append_nil]
            exact jn C ⟨hC.2, by omega, (List.Perm.append_left _ hC.1).trans hp⟩
          · repeat refine sy ?_
            match L, hL with
            | [], _ =>
              simp only [List.flatten_nil, List.nil_append] at hp ⊢
              exact jn T ⟨hT, by omega, hp⟩
            | [X], hL =>
              obtain ⟨hX, sX⟩ := hL X (by simp)
              simp only [List.flatten_cons, List.flatten_nil, List.append_nil] at hl hp ⊢
              have hT0 : T = [] := by rw [← List.length_eq_zero_iff]; omega
              subst hT0
              rw [List.append_nil] at hp ⊢
              exact jn X ⟨sX, by omega, hp⟩
            | X :: Y :: L', hL =>
              exfalso
              have h5 := (hL X (by simp)).1
              have h6 := (hL Y (by simp)).1
              simp only [List.flatten_cons, List.length_append] at hl; omega
        rintro U ⟨sU, hU, hpU⟩
        repeat refine sy ?_
        rw [show (s : Int) * 2 = ((2 * s : Nat) : Int) by omega]
        exact ag (2 * s, M, U) ⟨by show 20 ≤ 2 * s; omega, hM, sU, hU, hpU⟩ (by show nn - 2 * s < nn - s; omega)
    · repeat refine sy ?_
      refine en (L.flatten ++ T) ⟨hp, ?_⟩
      match L, hL with
      | [], _ => simpa using hT
      | [X], hL =>
        obtain ⟨hX, sX⟩ := hL X (by simp)
        simp only [List.flatten_cons, List.flatten_nil, List.append_nil] at hl ⊢
        have hT0 : T = [] := by rw [← List.length_eq_zero_iff]; omega
        subst hT0
        rw [List.append_nil]; exact sX
      | X :: Y :: L', hL =>
        exfalso
        have h5 := (hL X (by simp)).1
        have h6 := (hL Y (by simp)).1
        simp only [List.flatten_cons, List.length_append] at hl; omega
theorem c_eSortStable (a : Option Addr) (c nn : Nat) (xs : List Entr) (hnn : nn = xs.length) (hsm : nn ≤ 1152921504606846976) :
    Does Tryd.prog 72 [.slice a nn c, fCmpE].toArray [own rEn TE a c xs] (fun _ : List Entr => .tuple ⟨[]⟩) (fun C => C.Perm xs ∧ SrtE C) (fun C => [own rEn TE a c C]) := by
  refine spec_of Tryd.func72 rfl Tryd.ntmps72 rfl fun R w0 => ?_
  repeat refine sy ?_
  refine ca (c_eStable a c nn xs nn hnn rfl hsm) (fun C hC => ?_)
  repeat refine sy ?_
  exact en C hC
theorem c_eClone (a : Option Addr) (c : Nat) (xs : List Entr) (hb : xs.length ≤ 1000000) : Does Tryd.prog 71 [.slice a xs.length c].toArray [rd rEn a c xs] (fun p : Option Addr × Nat => .slice p.1 xs.length p.2) (fun _ => True) (fun p => [own rEn TE p.1 p.2 xs]) := by
  refine spec_of Tryd.func71 rfl Tryd.ntmps71 rfl fun R w0 => ?_
  repeat refine sy ?_
  cases a with
  | none =>
    refine vc_know (p := xs = []) (fun w hs => ?_) fun h0 => ?_
    · by_cases h : xs = []
      · exact h
      · obtain ⟨g', o, l, E', fr, cs, h1, _⟩ := (Sat.rd hs).2 h; cases h1
    subst h0
    refine vc_cond_t rfl ?_
    repeat refine sy ?_
    exact en (none, 0) trivial
  | some a =>
    refine vc_cond_f rfl ?_
    repeat refine sy ?_
    refine so (op_buildSlice0 rfl KSlice.und KInfo.out) fun bb _ => ?_
    repeat refine sy ?_
    refine so (op_append (R := rEn) (E := TE) (c := 0) (xs := []) (ys := xs) rfl KUnd.out KUnd.out KInfo.out (by decide) rfl rfl rfl (by simp; omega)) fun p _ => ?_
    repeat refine sy ?_
    exact en p trivial
theorem c_pSort (a : Option Addr) (c : Nat) (xs : List Entr) (hb : xs.length ≤ 1000000) : Does Tryd.prog 64 [.slice a xs.length c].toArray [rd rEn a c xs] (fun p : (Option Addr × Nat) × List Entr => .slice p.1.1 p.2.length p.1.2) (fun p => p.2.Perm xs ∧ SrtE p.2) (fun p => [own rEn TE p.1.1 p.1.2 p.2]) := by
  refine spec_of Tryd.func64 rfl Tryd.ntmps64 rfl fun R w0 => ?_
  repeat refine sy ?_
  refine ca (c_eClone a c xs hb) (fun p _ => ?_)
  repeat refine sy ?_
  refine ca (c_eSortStable p.1 p.2 xs.length xs rfl (by omega)) (fun C hC => ?_)
  repeat refine sy ?_
  exact en (p, C) hC (hv := by
    have := hC.1.length_eq
    show Value.slice _ _ _ = Value.slice _ _ _
    rw [← this])
end Go.Proofs.YtikodfclemgfoaaDoor
