/- Contracts 32: what a run of calls keeps (plain), Call at Put, Delete, Erase for any names. -/
import Derived.Test.YtikodfclemgfoaaDoorSbK31
set_option linter.all false
set_option linter.unusedVariables false
namespace Go.Proofs.YtikodfclemgfoaaDoor
open Go.Sb
attribute [local irreducible] Go.wpList Go.Code.wp Go.Exit.then Go.Exit.inBlock Go.Sb.Ends Go.Sb.VC Go.Sb.VA Go.Sb.OpV Go.Sb.OpE Go.Sb.OpD
set_option maxHeartbeats 2000000
set_option maxRecDepth 10000
def stepG (σ : St) (x : Cho) (id : Int) (ob ok : Bool) : St :=
  if x.act = 4 then putSt σ x.bucket x.key id x.data (putErr σ x.bucket x.key id x.data ob ok)
  else if x.act = 7 then delSt σ x.bucket x.key id (delErr σ x.bucket x.key id ob ok)
  else eraSt σ x.bucket x.key x.n ob ok
theorem c_CallStepG (m : Nat) (σ : St) (x : Cho) (a : Option Addr) (c : Nat) (id : Int) (ob ok : Bool) (hx : x.act = 4 ∨ x.act = 7 ∨ x.act = 8) (hb : NB x.bucket ob) (hk : NK x.key ok) (hσ : Bound σ) :
    Does Tryd.prog 10 [.pointer (some ⟨m, 0, none⟩), .agg ⟨x.cells a c⟩, .int .i64 id].toArray [rd rB a c x.data, Mdl m σ, TB]
      (fun v : Value => v) (fun _ => True) (fun _ => [Mdl m (stepG σ x id ob ok)]) := by
  intro R w hs
  rcases hx with hx | hx | hx
  · refine (c_CallPut m σ x a c id ob ok hx hb hk R w hs).mono fun e w' ⟨_, h1, _, h2, h3⟩ => ⟨_, h1, trivial, ?_, h3⟩
    rw [stepG, if_pos hx]; exact h2
  · refine (c_CallDelete m σ x a c id ob ok hx hb hk R w hs).mono fun e w' ⟨_, h1, _, h2, h3⟩ => ⟨_, h1, trivial, ?_, h3⟩
    rw [stepG, if_neg (by omega), if_pos hx]; exact h2
  · refine (c_CallErase m σ x a c id ob ok hx hb hk (by have := hσ x.bucket x.key; omega) R w hs).mono fun e w' ⟨_, h1, _, h2, h3⟩ => ⟨_, h1, trivial, ?_, h3⟩
    rw [stepG, if_neg (by omega), if_neg (by omega)]; exact h2
theorem moreErr_zero {σ : St} {b k : Txt} {x : Kept} (h : moreErr σ b k x = 0) : (σ.v b k).length < 64 ∧ 1 ≤ x.v.id ∧ (0 < (σ.v b k).length → lastId (σ.v b k) < x.v.id) := by
  unfold moreErr at h
  split at h
  · omega
  split at h
  · omega
  split at h
  · omega
  split at h
  · omega
  · rename_i h1 h2 h3 h4
    exact ⟨by omega, by omega, fun h5 => by
      rcases Int.lt_or_le (lastId (σ.v b k)) x.v.id with h6 | h6
      · exact h6
      · exact absurd ⟨h5, h6⟩ h4⟩
/-- One more version, or some fewer. -/
def Grows (old l : List Kept) : Prop := l.Sublist old ∨ ∃ y : Kept, l = old ++ [y] ∧ 1 ≤ y.v.id ∧ (0 < old.length → lastId old < y.v.id) ∧ y.data.length ≤ 65536 ∧ old.length < 64
theorem step_cases (σ : St) (x : Cho) (id : Int) (ob ok : Bool) : stepG σ x id ob ok = σ ∨ (ob = true ∧ ok = true ∧ ∃ l, stepG σ x id ob ok = σ.set x.bucket x.key l ∧ Grows (σ.v x.bucket x.key) l) := by
  unfold stepG
  split
  · unfold putSt
    split
    · rename_i he
      unfold putErr at he
      split at he
      · omega
      rename_i hbk
      split at he
      · omega
      split at he
      · omega
      obtain ⟨h1, h2, h3⟩ := moreErr_zero he
      have hb2 : (ob && ok) = true := by simpa using hbk
      rw [Bool.and_eq_true] at hb2
      exact .inr ⟨hb2.1, hb2.2, _, rfl, .inr ⟨_, rfl, h2, h3, by show x.data.length ≤ 65536; omega, h1⟩⟩
    · exact .inl rfl
  split
  · unfold delSt
    split
    · rename_i he
      unfold delErr at he
      split at he
      · exact absurd he (by assumption)
      rename_i hf
      have hb2 : (ob && ok) = true := by
        cases h : (ob && ok) with
        | true => rfl
        | false =>
          exfalso; apply hf
          unfold findR; rw [h]; simp
      rw [Bool.and_eq_true] at hb2
      obtain ⟨h1, h2, h3⟩ := moreErr_zero he
      exact .inr ⟨hb2.1, hb2.2, _, rfl, .inr ⟨_, rfl, h2, h3, by show (0 : Nat) ≤ 65536; omega, h1⟩⟩
    · exact .inl rfl
  · unfold eraSt
    split
    · rename_i he
      have hb2 : (ob && ok) = true := by
        cases h : (ob && ok) with
        | true => rfl
        | false =>
          exfalso
          unfold eraErr findR at he; rw [h] at he; simp at he
      rw [Bool.and_eq_true] at hb2
      refine .inr ⟨hb2.1, hb2.2, _, rfl, .inl ?_⟩
      have h4 : ∀ (l : List Kept) (i : Nat), (l.take i ++ l.drop (i + 1)).Sublist l := fun l i => by
        have h5 : (l.take i ++ l.drop (i + 1)).Sublist (l.take i ++ l.drop i) := List.Sublist.append (List.Sublist.refl _) (by
          rw [← List.drop_drop]
          exact List.drop_sublist 1 _)
        rwa [List.take_append_drop] at h5
      exact h4 _ _
    · exact .inl rfl
/-- Numbers rise. -/
def Rises (l : List Kept) : Prop := l.Pairwise (fun x y => x.v.id < y.v.id) ∧ ∀ x ∈ l, 1 ≤ x.v.id
/-- What holds all along of a model with one bucket whose names are told. -/
structure Inv (σ : St) (n : Nat) : Prop where
  has : σ.has tABC = true
  bound : Bound σ
  lean : Lean0 σ
  keys : ∀ k, σ.v tABC k ≠ [] → k.length ≤ 300 ∧ keyV k = true
  rises : ∀ k, Rises (σ.v tABC k)
  total : ∀ Ks : List Txt, Ks.Nodup → (Ks.map fun k => (σ.v tABC k).length).sum ≤ n
theorem sum_one {f g : Txt → Nat} {k0 : Txt} (h : ∀ k, k ≠ k0 → g k = f k) (h0 : g k0 ≤ f k0 + 1) : ∀ Ks : List Txt, Ks.Nodup → (Ks.map g).sum ≤ (Ks.map f).sum + 1
  | [], _ => by simp
  | k :: Ks, hn => by
    simp only [List.nodup_cons] at hn
    simp only [List.map_cons, List.sum_cons]
    by_cases hk : k = k0
    · subst hk
      have : Ks.map g = Ks.map f := List.map_congr_left fun j hj => h j fun e => hn.1 (e ▸ hj)
      rw [this]; omega
    · have := sum_one h h0 Ks hn.2
      rw [h k hk]; omega
theorem lastId_snoc (l : List Kept) (y : Kept) : lastId (l ++ [y]) = y.v.id := by
  unfold lastId
  rw [List.getD_eq_getElem?_getD]
  simp
theorem Grows.rises {old l : List Kept} (h : Rises old) (hg : Grows old l) : Rises l := by
  rcases hg with hg | ⟨y, rfl, h1, h2, _, _⟩
  · exact ⟨h.1.sublist hg, fun x hx => h.2 x (hg.subset hx)⟩
  · refine ⟨List.pairwise_append.2 ⟨h.1, List.pairwise_singleton _ _, ?_⟩, ?_⟩
    · intro x hx z hz
      simp only [List.mem_singleton] at hz; subst hz
      have hne : 0 < old.length := List.length_pos_of_mem hx
      obtain ⟨L, u, rfl⟩ := snoc_of hne
      have h3 := h2 hne
      rw [lastId_snoc] at h3
      rcases List.mem_append.1 hx with hx | hx
      · have := (List.pairwise_append.1 h.1).2.2 x hx u (by simp)
        omega
      · simp only [List.mem_singleton] at hx; subst hx; exact h3
    · intro x hx
      rcases List.mem_append.1 hx with hx | hx
      · exact h.2 x hx
      · simp only [List.mem_singleton] at hx; subst hx; exact h1
theorem Inv.step {σ : St} {n : Nat} (h : Inv σ n) (x : Cho) (id : Int) (hx : x.bucket = tABC) (hk : x.key.length ≤ 300) : Inv (stepG σ x id true (keyV x.key)) (n + 1) := by
  rcases step_cases σ x id true (keyV x.key) with he | ⟨_, hok, l, he, hg⟩
  · rw [he]
    exact ⟨h.has, h.bound, h.lean, h.keys, h.rises, fun Ks hn => Nat.le_succ_of_le (h.total Ks hn)⟩
  · rw [he, hx]
    rw [hx] at hg
    have hv : ∀ k, (σ.set tABC x.key l).v tABC k = if k = x.key then l else σ.v tABC k := fun k => by
      rw [set_v]; simp
    have hlen : l.length ≤ (σ.v tABC x.key).length + 1 := by
      rcases hg with hg | ⟨y, rfl, _⟩
      · have := hg.length_le; omega
      · simp
    refine ⟨h.has, h.bound.set ?_, ?_, ?_, ?_, ?_⟩
    · rcases hg with hg | ⟨y, rfl, _, _, _, h6⟩
      · have := hg.length_le; have := h.bound tABC x.key; omega
      · simp; omega
    · intro b k y hy
      rw [set_v] at hy
      split at hy
      · rcases hg with hg | ⟨z, rfl, _, _, h5, _⟩
        · exact h.lean tABC x.key y (hg.subset hy)
        · rcases List.mem_append.1 hy with hy | hy
          · exact h.lean tABC x.key y hy
          · simp only [List.mem_singleton] at hy; subst hy; exact h5
      · exact h.lean b k y hy
    · intro k hk2
      rw [hv] at hk2
      by_cases hkx : k = x.key
      · subst hkx; exact ⟨hk, hok⟩
      · rw [if_neg hkx] at hk2; exact h.keys k hk2
    · intro k
      rw [hv]
      split
      · exact Grows.rises (h.rises x.key) hg
      · exact h.rises k
    · intro Ks hn
      refine Nat.le_trans (sum_one (f := fun k => (σ.v tABC k).length) (k0 := x.key) (fun k hk => ?_) ?_ Ks hn) (Nat.succ_le_succ (h.total Ks hn))
      · show ((σ.set tABC x.key l).v tABC k).length = _
        rw [hv, if_neg hk]
      · show ((σ.set tABC x.key l).v tABC x.key).length ≤ _
        rw [hv, if_pos rfl]; exact hlen
theorem inv_1 : Inv σ1 0 := by
  have hv : ∀ b k, σ1.v b k = [] := fun b k => by simp [σ1, St.make, St.empty]
  refine ⟨by simp [σ1, St.make], bound_1, fun b k x hx => (by rw [hv] at hx; simp at hx), fun k hk => absurd (hv _ _) hk, fun k => (by rw [hv]; exact ⟨List.Pairwise.nil, by simp⟩), fun Ks _ => ?_⟩
  have h0 : ∀ L : List Txt, (L.map fun _ => 0).sum = 0 := fun L => by induction L <;> simp_all
  simp only [hv, List.length_nil]
  exact Nat.le_of_eq (h0 Ks)
end Go.Proofs.YtikodfclemgfoaaDoor
