/- Contracts 26: two sorted neighbours become one. -/
import Derived.Test.YtikodfclemgfoaaDoorSbK25
set_option linter.all false
set_option linter.unusedVariables false
namespace Go.Proofs.YtikodfclemgfoaaDoor
open Go.Sb
attribute [local irreducible] Go.wpList Go.Code.wp Go.Exit.then Go.Exit.inBlock Go.Sb.Ends Go.Sb.VC Go.Sb.VA Go.Sb.OpV Go.Sb.OpE Go.Sb.OpD
set_option maxHeartbeats 4000000
set_option maxRecDepth 10000
theorem half_eq (i j : Nat) (h : i + j ≤ 9223372036854775807) : IntKind.i64.wrap (IntKind.u64.wrap ((i : Int) + (j : Int)) / 2 ^ (1 : Int).toNat) = (((i + j) / 2 : Nat) : Int) := by
  have e1 : IntKind.u64.wrap ((i : Int) + (j : Int)) = (i : Int) + j := IntWalk.u64_in _ ⟨by omega, by omega⟩
  rw [e1]
  have e2 : ((i : Int) + j) / 2 ^ (1 : Int).toNat = (((i + j) / 2 : Nat) : Int) := by
    show ((i : Int) + j) / 2 = _
    omega
  rw [e2]
  exact IntWalk.i64_in _ ⟨by omega, by omega⟩
/-- Element k lies below element l. -/
def ltAt (xs : List Entr) (k l : Nat) : Bool := match xs[k]?, xs[l]? with
  | some x, some y => ltE x y
  | _, _ => false
theorem ltAt_eq {xs : List Entr} {k l : Nat} {x y : Entr} (hx : xs[k]? = some x) (hy : xs[l]? = some y) : ltAt xs k l = ltE x y := by simp [ltAt, hx, hy]
/-- How far a search by halves has come. -/
def Hv (f : Nat → Bool) (lo hi : Nat) (i : Nat × Nat) : Prop := lo ≤ i.1 ∧ i.1 ≤ i.2 ∧ i.2 ≤ hi ∧ (i.1 = lo ∨ f (i.1 - 1) = true) ∧ (i.2 = hi ∨ f i.2 = false)
theorem Hv.init {f : Nat → Bool} {lo hi : Nat} (h : lo ≤ hi) : Hv f lo hi (lo, hi) := ⟨Nat.le_refl _, h, Nat.le_refl _, .inl rfl, .inl rfl⟩
theorem Hv.up {f : Nat → Bool} {lo hi : Nat} {i j : Nat} (h : Hv f lo hi (i, j)) (hij : i < j) (hf : f ((i + j) / 2) = true) : Hv f lo hi ((i + j) / 2 + 1, j) := by
  obtain ⟨a, b, c, d, e⟩ := h
  exact ⟨by show lo ≤ (i + j) / 2 + 1; dsimp only at a; omega, by show (i + j) / 2 + 1 ≤ j; omega, c, .inr (by simpa using hf), e⟩
theorem Hv.down {f : Nat → Bool} {lo hi : Nat} {i j : Nat} (h : Hv f lo hi (i, j)) (hij : i < j) (hf : f ((i + j) / 2) = false) : Hv f lo hi (i, (i + j) / 2) := by
  obtain ⟨a, b, c, d, e⟩ := h
  exact ⟨a, by show i ≤ (i + j) / 2; omega, by show (i + j) / 2 ≤ hi; dsimp only at c; omega, d, .inr hf⟩
section
variable {α : Type} {lt : α → α → Bool} {L : List α} {u x : α}
theorem Srt.under (o : Lt lt) (hs : Srt lt (L ++ [u])) (h : lt u x = true) : ∀ y ∈ L ++ [u], lt y x = true := by
  intro y hy
  rcases List.mem_append.1 hy with hy' | hy'
  · cases hc : lt y x with
    | true => rfl
    | false => have := o.le x y u hc (hs.cross y hy' u (by simp)); rw [h] at this; cases this
  · simp only [List.mem_singleton] at hy'; subst hy'; exact h
theorem Srt.over (o : Lt lt) (hs : Srt lt (u :: L)) (h : lt u x = false) : ∀ y ∈ u :: L, lt y x = false := by
  intro y hy
  rcases List.mem_cons.1 hy with rfl | hy'
  · exact h
  · exact o.le x u y h ((List.pairwise_cons.1 hs).1 y hy')
end
theorem snoc_of {α : Type} {L : List α} (h : 0 < L.length) : ∃ M u, L = M ++ [u] := by
  rcases List.eq_nil_or_concat L with h0 | ⟨l, b, h0⟩
  · subst h0; simp at h
  · exact ⟨l, b, by simpa using h0⟩
theorem cut_at {α : Type} (L : List α) (k : Nat) (h : k ≤ L.length) : ∃ M M', L = M ++ M' ∧ M.length = k := ⟨L.take k, L.drop k, (List.take_append_drop _ _).symm, by simp; omega⟩
/-- A row of one is laid into a row behind it. -/
theorem sym_left {P B S : List Entr} {x : Entr} {i j : Nat} (hs : SrtE B) (h : Hv (fun h => ltAt (P ++ [x] ++ B ++ S) h P.length) (P.length + 1) (P.length + 1 + B.length) (i, j)) (hij : ¬ i < j) :
    ∃ B1 B2, B = B1 ++ B2 ∧ i = P.length + 1 + B1.length ∧ SrtE (B1 ++ x :: B2) := by
  obtain ⟨a, b, c, d, e⟩ := h
  dsimp only at a b c d e
  have : i = j := by omega
  subst this
  obtain ⟨B1, B2, rfl, hB⟩ := cut_at B (i - (P.length + 1)) (by omega)
  simp only [List.length_append] at c e
  have hx : (P ++ [x] ++ (B1 ++ B2) ++ S)[P.length]? = some x := by
    rw [show P ++ [x] ++ (B1 ++ B2) ++ S = P ++ x :: (B1 ++ B2 ++ S) by simp]; exact get_app _ _ _ _ rfl
  refine ⟨B1, B2, rfl, by omega, Srt.put ltE_lt hs ?_ ?_⟩
  · rcases Nat.eq_zero_or_pos B1.length with h0 | h0
    · rw [List.length_eq_zero_iff] at h0; subst h0; simp
    · obtain ⟨M, u, rfl⟩ := snoc_of h0
      simp only [List.length_append, List.length_cons, List.length_nil] at hB
      rcases d with d | d
      · omega
      have hu : (P ++ [x] ++ (M ++ [u] ++ B2) ++ S)[i - 1]? = some u := by
        rw [show P ++ [x] ++ (M ++ [u] ++ B2) ++ S = (P ++ [x] ++ M) ++ u :: (B2 ++ S) by simp]
        exact get_app _ _ _ _ (by simp only [List.length_append, List.length_cons, List.length_nil]; omega)
      rw [ltAt_eq hu hx] at d
      intro y hy
      exact ltE_lt.asym _ _ (Srt.under ltE_lt hs.left d y hy)
  · cases B2 with
    | nil => simp
    | cons u M =>
      simp only [List.length_cons] at c e
      rcases e with e | e
      · omega
      have hu : (P ++ [x] ++ (B1 ++ u :: M) ++ S)[i]? = some u := by
        rw [show P ++ [x] ++ (B1 ++ u :: M) ++ S = (P ++ [x] ++ B1) ++ u :: (M ++ S) by simp]
        exact get_app _ _ _ _ (by simp only [List.length_append, List.length_cons, List.length_nil]; omega)
      rw [ltAt_eq hu hx] at e
      exact Srt.over ltE_lt hs.right e
/-- A row of one is laid into a row before it. -/
theorem sym_right {P A S : List Entr} {x : Entr} {i j : Nat} (hs : SrtE A) (h : Hv (fun h => !ltAt (P ++ A ++ [x] ++ S) (P.length + A.length) h) P.length (P.length + A.length) (i, j)) (hij : ¬ i < j) :
    ∃ A1 A2, A = A1 ++ A2 ∧ i = P.length + A1.length ∧ SrtE (A1 ++ x :: A2) := by
  obtain ⟨a, b, c, d, e⟩ := h
  dsimp only at a b c d e
  have : i = j := by omega
  subst this
  obtain ⟨A1, A2, rfl, hA⟩ := cut_at A (i - P.length) (by omega)
  simp only [List.length_append] at c e d
  have hx : (P ++ (A1 ++ A2) ++ [x] ++ S)[P.length + (A1.length + A2.length)]? = some x := by
    rw [show P ++ (A1 ++ A2) ++ [x] ++ S = (P ++ (A1 ++ A2)) ++ x :: S by simp]; exact get_app _ _ _ _ (by simp only [List.length_append])
  refine ⟨A1, A2, rfl, by omega, Srt.put ltE_lt hs ?_ ?_⟩
  · rcases Nat.eq_zero_or_pos A1.length with h0 | h0
    · rw [List.length_eq_zero_iff] at h0; subst h0; simp
    · obtain ⟨M, u, rfl⟩ := snoc_of h0
      simp only [List.length_append, List.length_cons, List.length_nil] at hA
      rcases d with d | d
      · omega
      have hu : (P ++ (M ++ [u] ++ A2) ++ [x] ++ S)[i - 1]? = some u := by
        rw [show P ++ (M ++ [u] ++ A2) ++ [x] ++ S = (P ++ M) ++ u :: (A2 ++ [x] ++ S) by simp]
        exact get_app _ _ _ _ (by simp only [List.length_append]; omega)
      rw [Bool.not_eq_true', ← List.length_append, ltAt_eq (by simpa only [List.length_append] using hx) hu] at d
      exact Srt.last ltE_lt hs.left d
  · cases A2 with
    | nil => simp
    | cons u M =>
      simp only [List.length_cons] at c e
      rcases e with e | e
      · omega
      have hu : (P ++ (A1 ++ u :: M) ++ [x] ++ S)[i]? = some u := by
        rw [show P ++ (A1 ++ u :: M) ++ [x] ++ S = (P ++ A1) ++ u :: (M ++ [x] ++ S) by simp]
        exact get_app _ _ _ _ (by simp only [List.length_append]; omega)
      rw [Bool.not_eq_false', ltAt_eq (by simpa only [List.length_cons] using hx) hu] at e
      intro y hy
      have h1 : ltE y u = false ∨ y = u := by
        rcases List.mem_cons.1 hy with rfl | hy'
        · exact .inr rfl
        · exact .inl ((List.pairwise_cons.1 hs.right).1 y hy')
      rcases h1 with h1 | rfl
      · exact ltE_lt.le x u y (ltE_lt.asym _ _ e) h1
      · exact ltE_lt.asym _ _ e
/-- Two rows are cut so that the one's head and the other's head come before both tails. -/
theorem sym_cut {P A B S : List Entr} {lo hi i j p m : Nat} (hA : SrtE A) (hB : SrtE B) (hm : m = P.length + A.length)
    (h : Hv (fun c => !ltAt (P ++ A ++ B ++ S) (p - c) c) lo hi (i, j)) (hij : ¬ i < j)
    (hlo : P.length ≤ lo) (hhi : hi ≤ m) (hp : ∀ c, lo ≤ c → c < hi → m ≤ p - c ∧ p - c < m + B.length)
    (h1 : lo = P.length ∨ p + 1 - lo = m + B.length) (h2 : hi = m ∨ p + 1 - hi = m) (hpp : lo ≤ hi) (hph : hi ≤ p + 1) (hq : m ≤ p + 1 - hi) (hq' : p + 1 - lo ≤ m + B.length) :
    ∃ A1 A2 B1 B2, A = A1 ++ A2 ∧ B = B1 ++ B2 ∧ i = P.length + A1.length ∧ p + 1 - i = m + B1.length ∧ (∀ x ∈ A1, ∀ y ∈ B2, ltE y x = false) ∧ (∀ y ∈ B1, ∀ x ∈ A2, ltE x y = false) := by
  obtain ⟨a, b, c, d, e⟩ := h
  dsimp only at a b c d e
  have : i = j := by omega
  subst this
  obtain ⟨A1, A2, rfl, hA1⟩ := cut_at A (i - P.length) (by omega)
  obtain ⟨B1, B2, rfl, hB1⟩ := cut_at B (p + 1 - i - m) (by omega)
  simp only [List.length_append] at hm hq' h1 hp
  refine ⟨A1, A2, B1, B2, rfl, rfl, by omega, by omega, ?_, ?_⟩
  · rcases Nat.eq_zero_or_pos A1.length with h0 | h0
    · rw [List.length_eq_zero_iff] at h0; subst h0; simp
    cases B2 with
    | nil => simp
    | cons u M =>
      simp only [List.length_cons] at hq' h1 hp
      rcases d with d | d
      · omega
      obtain ⟨L, v, rfl⟩ := snoc_of h0
      simp only [List.length_append, List.length_cons, List.length_nil] at hA1 hm
      have hv : (P ++ (L ++ [v] ++ A2) ++ (B1 ++ u :: M) ++ S)[i - 1]? = some v := by
        rw [show P ++ (L ++ [v] ++ A2) ++ (B1 ++ u :: M) ++ S = (P ++ L) ++ v :: (A2 ++ (B1 ++ u :: M) ++ S) by simp]
        exact get_app _ _ _ _ (by simp only [List.length_append]; omega)
      have hu : (P ++ (L ++ [v] ++ A2) ++ (B1 ++ u :: M) ++ S)[p - (i - 1)]? = some u := by
        rw [show P ++ (L ++ [v] ++ A2) ++ (B1 ++ u :: M) ++ S = (P ++ (L ++ [v] ++ A2) ++ B1) ++ u :: (M ++ S) by simp]
        exact get_app _ _ _ _ (by simp only [List.length_append, List.length_cons, List.length_nil]; omega)
      rw [Bool.not_eq_true', ltAt_eq hu hv] at d
      intro x hx y hy
      have h3 : ltE y v = false := Srt.over ltE_lt hB.right d y hy
      exact Srt.last ltE_lt hA.left h3 x hx
  · cases A2 with
    | nil => simp
    | cons u M =>
      rcases Nat.eq_zero_or_pos B1.length with h0 | h0
      · rw [List.length_eq_zero_iff] at h0; subst h0; simp
      simp only [List.length_cons] at hm
      rcases e with e | e
      · omega
      obtain ⟨L, v, rfl⟩ := snoc_of h0
      simp only [List.length_append, List.length_cons, List.length_nil] at hB1
      have hu : (P ++ (A1 ++ u :: M) ++ (L ++ [v] ++ B2) ++ S)[i]? = some u := by
        rw [show P ++ (A1 ++ u :: M) ++ (L ++ [v] ++ B2) ++ S = (P ++ A1) ++ u :: (M ++ (L ++ [v] ++ B2) ++ S) by simp]
        exact get_app _ _ _ _ (by simp only [List.length_append]; omega)
      have hv : (P ++ (A1 ++ u :: M) ++ (L ++ [v] ++ B2) ++ S)[p - i]? = some v := by
        rw [show P ++ (A1 ++ u :: M) ++ (L ++ [v] ++ B2) ++ S = (P ++ (A1 ++ u :: M) ++ L) ++ v :: (B2 ++ S) by simp]
        exact get_app _ _ _ _ (by simp only [List.length_append, List.length_cons]; omega)
      rw [Bool.not_eq_false', ltAt_eq hv hu] at e
      intro y hy x hx
      have h3 : ltE y u = true := Srt.under ltE_lt hB.left e y hy
      have h4 : ltE u y = false := ltE_lt.asym _ _ h3
      exact Srt.over ltE_lt hA.right h4 x hx
end Go.Proofs.YtikodfclemgfoaaDoor
