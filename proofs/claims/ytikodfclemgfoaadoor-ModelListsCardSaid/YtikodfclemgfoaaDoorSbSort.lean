/- Rows in order: plain laws. -/
import Derived.Test.YtikodfclemgfoaaDoorSbCore
set_option linter.all false
namespace Go.Sb
/-- A strict order whose ties hold together. -/
structure Lt {α : Type} (lt : α → α → Bool) : Prop where
  asym : ∀ x y, lt x y = true → lt y x = false
  le : ∀ x y z, lt y x = false → lt z y = false → lt z x = false
def Srt {α : Type} (lt : α → α → Bool) (l : List α) : Prop := l.Pairwise fun x y => lt y x = false
section
variable {α : Type} {lt : α → α → Bool} {A B C L : List α} {u v x y : α}
theorem Srt.append (h : Srt lt A) (k : Srt lt B) (hk : ∀ x ∈ A, ∀ y ∈ B, lt y x = false) : Srt lt (A ++ B) := List.pairwise_append.2 ⟨h, k, hk⟩
theorem Srt.left (h : Srt lt (A ++ B)) : Srt lt A := (List.pairwise_append.1 h).1
theorem Srt.right (h : Srt lt (A ++ B)) : Srt lt B := (List.pairwise_append.1 h).2.1
theorem Srt.cross (h : Srt lt (A ++ B)) : ∀ x ∈ A, ∀ y ∈ B, lt y x = false := (List.pairwise_append.1 h).2.2
theorem Lt.irr (o : Lt lt) (x : α) : lt x x = false := by
  cases h : lt x x with
  | false => rfl
  | true => have := o.asym x x h; rw [h] at this; exact this
/-- One element laid into a sorted row. -/
theorem Srt.put (o : Lt lt) (h : Srt lt (A ++ B)) (h1 : ∀ x ∈ A, lt v x = false) (h2 : ∀ y ∈ B, lt y v = false) : Srt lt (A ++ v :: B) := by
  refine Srt.append h.left (List.pairwise_cons.2 ⟨h2, h.right⟩) ?_
  intro x hx y hy
  rcases List.mem_cons.1 hy with rfl | hy
  · exact h1 x hx
  · exact h.cross x hx y hy
theorem Srt.last (o : Lt lt) (h : Srt lt (A ++ [u])) (hv : lt v u = false) : ∀ x ∈ A ++ [u], lt v x = false := by
  intro x hx
  rcases List.mem_append.1 hx with hx | hx
  · exact o.le x u v (h.cross x hx u (by simp)) hv
  · simp only [List.mem_singleton] at hx; subst hx; exact hv
/-! ### exchanging -/
/-- n elements from a on and n from b on have changed places. -/
def Swp (xs zs : List α) (a b n : Nat) : Prop := zs.length = xs.length ∧ ∀ k : Nat, zs[k]? = if a ≤ k ∧ k < a + n then xs[k - a + b]? else if b ≤ k ∧ k < b + n then xs[k - b + a]? else xs[k]?
theorem Swp.refl (xs : List α) (a b : Nat) : Swp xs xs a b 0 := ⟨rfl, fun k => by rw [if_neg (by omega), if_neg (by omega)]⟩
theorem Swp.step {xs zs : List α} {a b n i : Nat} {p q : α} (h : Swp xs zs a b i) (hab : a + n ≤ b) (hb : b + n ≤ xs.length) (hi : i < n) (hp : xs[a + i]? = some p) (hq : xs[b + i]? = some q) : Swp xs ((zs.set (a + i) q).set (b + i) p) a b (i + 1) := by
  obtain ⟨hl, hk⟩ := h
  refine ⟨by simp [hl], fun k => ?_⟩
  have e1 : a + i ≠ k → b + i ≠ k → ((a ≤ k ∧ k < a + i) ↔ (a ≤ k ∧ k < a + (i + 1))) := fun h1 h2 => ⟨fun h => ⟨h.1, by omega⟩, fun h => ⟨h.1, by omega⟩⟩
  have e2 : a + i ≠ k → b + i ≠ k → ((b ≤ k ∧ k < b + i) ↔ (b ≤ k ∧ k < b + (i + 1))) := fun h1 h2 => ⟨fun h => ⟨h.1, by omega⟩, fun h => ⟨h.1, by omega⟩⟩
  rw [List.getElem?_set, List.getElem?_set]
  by_cases h1 : b + i = k
  · rw [if_pos h1, if_pos (by simp [hl]; omega), if_neg (by omega), if_pos (by omega), ← hp]
    congr 1; omega
  rw [if_neg h1]
  by_cases h2 : a + i = k
  · rw [if_pos h2, if_pos (by omega), if_pos (by omega), ← hq]
    congr 1; omega
  rw [if_neg h2, hk k]
  simp only [e1 h2 h1, e2 h2 h1]
theorem Swp.at_ {xs zs : List α} {a b i : Nat} (h : Swp xs zs a b i) (hab : a + i < b) : zs[a + i]? = xs[a + i]? ∧ zs[b + i]? = xs[b + i]? := by
  constructor
  · rw [h.2, if_neg (by omega), if_neg (by omega)]
  · rw [h.2, if_neg (by omega), if_neg (by omega)]
theorem Swp.blocks {P X M Y S zs : List α} (hn : X.length = Y.length) (h : Swp (P ++ X ++ M ++ Y ++ S) zs P.length (P.length + X.length + M.length) X.length) : zs = P ++ Y ++ M ++ X ++ S := by
  apply List.ext_getElem?
  intro k
  rw [h.2]
  simp only [List.getElem?_append, List.length_append, ← hn]
  by_cases h1 : k < P.length
  · rw [if_neg (by omega), if_neg (by omega)]
    simp [h1, show k < P.length + X.length by omega, show k < P.length + X.length + M.length by omega, show k < P.length + X.length + M.length + X.length by omega]
  by_cases h2 : k < P.length + X.length
  · rw [if_pos (by omega)]
    have e1 : ¬ k - P.length + (P.length + X.length + M.length) < P.length + X.length + M.length := by omega
    have e2 : k - P.length + (P.length + X.length + M.length) < P.length + X.length + M.length + X.length := by omega
    simp only [h1, h2, e1, e2, if_true, if_false, show k < P.length + X.length + M.length by omega, show k < P.length + X.length + M.length + X.length by omega]
    congr 1; omega
  by_cases h3 : k < P.length + X.length + M.length
  · rw [if_neg (by omega), if_neg (by omega)]
    simp only [h1, h2, h3, if_true, if_false, show k < P.length + X.length + M.length + X.length by omega]
  by_cases h4 : k < P.length + X.length + M.length + X.length
  · rw [if_neg (by omega), if_pos (by omega)]
    have e1 : k - (P.length + X.length + M.length) + P.length < P.length + X.length := by omega
    have e2 : ¬ k - (P.length + X.length + M.length) + P.length < P.length := by omega
    simp only [h1, h2, h3, h4, e1, e2, if_true, if_false, show k - (P.length + X.length + M.length) + P.length < P.length + X.length + M.length by omega, show k - (P.length + X.length + M.length) + P.length < P.length + X.length + M.length + X.length by omega]
    congr 1; omega
  · rw [if_neg (by omega), if_neg (by omega)]
    simp only [h1, h2, h3, h4, if_false]
end
/-! ### texts in order -/
theorem bl_irr : ∀ a : List UInt8, Op.bytesLess a a = false
  | [] => rfl
  | a :: x => by simp [Op.bytesLess, bl_irr x]
theorem bl_cons {a b : UInt8} {x y : List UInt8} : Op.bytesLess (a :: x) (b :: y) = true ↔ a.toNat < b.toNat ∨ (a = b ∧ Op.bytesLess x y = true) := by
  simp [Op.bytesLess, UInt8.lt_iff_toNat_lt]
theorem bl_asym : ∀ a b : List UInt8, Op.bytesLess a b = true → Op.bytesLess b a = false
  | _, [], h => by simp [Op.bytesLess] at h
  | [], b :: y, _ => by simp [Op.bytesLess]
  | a :: x, b :: y, h => by
    rw [← Bool.not_eq_true, bl_cons]
    rw [bl_cons] at h
    rintro (h1 | ⟨h1, h2⟩)
    · rcases h with h | ⟨h, _⟩
      · omega
      · subst h; omega
    · subst h1
      rcases h with h | ⟨_, h⟩
      · omega
      · rw [bl_asym _ _ h] at h2; cases h2
theorem bl_tri : ∀ a b : List UInt8, Op.bytesLess a b = false → Op.bytesLess b a = false → a = b
  | [], [], _, _ => rfl
  | a :: x, [], _, h => by simp [Op.bytesLess] at h
  | [], b :: y, h, _ => by simp [Op.bytesLess] at h
  | a :: x, b :: y, h1, h2 => by
    rw [← Bool.not_eq_true, bl_cons] at h1 h2
    have hab : a.toNat = b.toNat := by
      have := fun h => h1 (.inl h)
      have := fun h => h2 (.inl h)
      omega
    have hab' : a = b := UInt8.toNat_inj.1 hab
    subst hab'
    have e1 : Op.bytesLess x y = false := by rw [← Bool.not_eq_true]; exact fun h => h1 (.inr ⟨rfl, h⟩)
    have e2 : Op.bytesLess y x = false := by rw [← Bool.not_eq_true]; exact fun h => h2 (.inr ⟨rfl, h⟩)
    rw [bl_tri x y e1 e2]
theorem bl_trans : ∀ a b c : List UInt8, Op.bytesLess a b = true → Op.bytesLess b c = true → Op.bytesLess a c = true
  | _, [], _, h, _ => by simp [Op.bytesLess] at h
  | _, _ :: _, [], _, h => by simp [Op.bytesLess] at h
  | [], b :: y, c :: z, _, _ => by simp [Op.bytesLess]
  | a :: x, b :: y, c :: z, h1, h2 => by
    rw [bl_cons] at h1 h2 ⊢
    rcases h1 with h1 | ⟨h1, h3⟩
    · rcases h2 with h2 | ⟨h2, _⟩
      · left; omega
      · subst h2; left; exact h1
    · subst h1
      rcases h2 with h2 | ⟨h2, h4⟩
      · left; exact h2
      · exact .inr ⟨h2, bl_trans _ _ _ h3 h4⟩
/-- Not above and not above. -/
theorem bl_le {a b c : List UInt8} (h1 : Op.bytesLess b a = false) (h2 : Op.bytesLess c b = false) : Op.bytesLess c a = false := by
  cases h : Op.bytesLess c a with
  | false => rfl
  | true =>
    cases h3 : Op.bytesLess a b with
    | true => rw [bl_trans _ _ _ h h3] at h2; cases h2
    | false => rw [bl_tri a b h3 h1] at h; rw [h] at h2; cases h2
end Go.Sb
