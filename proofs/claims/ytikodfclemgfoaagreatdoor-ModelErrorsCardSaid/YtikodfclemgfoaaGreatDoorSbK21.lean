/- Contracts 21: the document's own names. -/
import Derived.Test.YtikodfclemgfoaaGreatDoorSbK20
set_option linter.all false
set_option linter.unusedVariables false
namespace Go.Proofs.YtikodfclemgfoaaGreatDoor
open Go.Sb
attribute [local irreducible] Go.wpList Go.Code.wp Go.Exit.then Go.Exit.inBlock Go.Sb.Ends Go.Sb.VC Go.Sb.VA Go.Sb.OpV Go.Sb.OpE Go.Sb.OpD
set_option maxHeartbeats 1000000
theorem get_at (s : Txt) (p : Nat) (b : UInt8) (h : s[p]? = some b) : ((⟨⟨s⟩⟩ : ByteArray).get! p) = b := by
  have hp : p < s.length := (List.getElem?_eq_some_iff.1 h).1
  have h1 : s[p]'hp = b := by rw [List.getElem?_eq_getElem hp] at h; exact Option.some.inj h
  show (⟨s⟩ : Array UInt8)[p]! = b
  simp [hp, h1]
theorem decode_lo (s : Txt) (p : Nat) (b : UInt8) (h : s[p]? = some b) (hb : b.toNat < 128) : Go.Utf8.decode ⟨⟨s⟩⟩ p = (b.toNat, 1) := by
  unfold Go.Utf8.decode
  simp only [Nat.add_zero, get_at s p b h]
  rw [if_pos hb]
theorem decode_hi (s : Txt) (p : Nat) (b : UInt8) (h : s[p]? = some b) (hb : ¬ b.toNat < 128) : 128 ≤ (Go.Utf8.decode ⟨⟨s⟩⟩ p).1 := by
  unfold Go.Utf8.decode
  simp only [Nat.add_zero, get_at s p b h]
  rw [if_neg hb]
  repeat' split
  all_goals first | (simp [Go.Utf8.runeError]; done) | (simp_all; omega) | (simp_all)
def refGo : Bool → Txt → Bool
  | was, [] => !was
  | was, b :: r => if !(plainR b.toNat || jointR b.toNat) || (jointR b.toNat && was) then false else refGo (jointR b.toNat) r
theorem bucket_go (s : Txt) : ∀ (n p many : Nat) (was : Bool), s.length - p ≤ n → p ≤ s.length → bucketGo many was (runesAt s n p) = (decide (3 ≤ many + (s.length - p)) && decide (many + (s.length - p) ≤ 63) && refGo was (s.drop p))
  | 0, p, many, was, h1, h2 => by
    have : p = s.length := by omega
    subst this
    simp [runesAt, bucketGo, refGo]
  | n + 1, p, many, was, h1, h2 => by
    by_cases hp : p < s.length
    · rw [runesAt_succ hp]
      obtain ⟨b, hb⟩ := get_some (xs := s) (k := p) hp
      rw [drop_of_get hb, refGo, bucketGo]
      by_cases hl : b.toNat < 128
      · rw [decode_lo s p b hb hl]
        dsimp only
        have ih := bucket_go s n (p + 1) (many + 1) (jointR b.toNat) (by omega) (by omega)
        rw [ih]
        have e1 : many + 1 + (s.length - (p + 1)) = many + (s.length - p) := by omega
        rw [e1]
        have hpj : ¬ (plainR (b.toNat : Int) = true ∧ jointR (b.toNat : Int) = true) := by
          unfold plainR jointR; simp; omega
        cases h1 : plainR (b.toNat : Int) <;> cases h2 : jointR (b.toNat : Int) <;> cases was <;> simp_all
      · have hd := decode_hi s p b hb hl
        generalize (Go.Utf8.decode ⟨⟨s⟩⟩ p) = d at hd ⊢
        have p1 : plainR (d.1 : Int) = false := by unfold plainR; simp; omega
        have j1 : jointR (d.1 : Int) = false := by unfold jointR; simp; omega
        have p2 : plainR (b.toNat : Int) = false := by unfold plainR; simp; omega
        have j2 : jointR (b.toNat : Int) = false := by unfold jointR; simp; omega
        simp [p1, j1, p2, j2]
    · have : p = s.length := by omega
      subst this
      rw [runesAt_over (by omega)]
      simp [bucketGo, refGo]
theorem bucketOk_eq (s : Txt) : bucketOk s = (decide (3 ≤ s.length) && decide (s.length ≤ 63) && refGo true s) := by
  have := bucket_go s s.length 0 0 true (by omega) (by omega)
  simpa [bucketOk, runes] using this
theorem c_RefBucket (s : Txt) (hs : s.length ≤ 1000000) : Does Tryz.prog 18 [str s].toArray [] (fun _ : Unit => .bool (bucketOk s)) (fun _ => True) (fun _ => []) := by
  rw [bucketOk_eq]
  refine spec_of Tryz.func18 rfl Tryz.ntmps18 rfl fun R w0 => ?_
  repeat refine sy ?_
  refine vd (fun h => ?_) (fun h1 => ?_)
  · repeat refine sy ?_
    refine vc_cond_t rfl ?_
    repeat refine sy ?_
    exact en () trivial (hv := by simp [tup]; omega)
  repeat refine sy ?_
  refine vc_cond_dec rfl (fun h2 => ?_) (fun h2 => ?_)
  · repeat refine sy ?_
    exact en () trivial (hv := by simp [tup]; omega)
  have e0 : (decide (3 ≤ s.length) && decide (s.length ≤ 63) && refGo true s) = refGo true s := by
    rw [decide_eq_true (by omega : 3 ≤ s.length), decide_eq_true (by omega : s.length ≤ 63)]; rfl
  rw [e0]
  repeat refine sy ?_
  refine lp (ι := Nat × Bool) (fun i => i.1 ≤ s.length ∧ refGo i.2 (s.drop i.1) = refGo true s) (fun i => [(4, .int .i64 i.1), (3, .bool i.2), (0, str s)]) (fun _ => [R]) (fun i => s.length - i.1) (0, true) ⟨by simp, rfl⟩ ?_
  rintro ⟨p, was⟩ ⟨hp, hg⟩
  dsimp only at hp hg ⊢
  repeat refine sy ?_
  refine vc_cond_dec rfl (fun h => ?_) (fun h => ?_)
  · obtain ⟨b, hb⟩ := get_some (xs := s) (k := p) (by omega)
    have hbb : s.getD p 0 = b := by rw [List.getD_eq_getElem?_getD, hb]; rfl
    rw [drop_of_get hb, refGo] at hg
    repeat refine sy ?_
    rw [show s.getD (Int.toNat (p : Int)) 0 = b from hbb]
    have hP : (plainR (b.toNat : Int) || jointR (b.toNat : Int)) = true ↔ (97 ≤ (b.toNat : Int) ∧ (b.toNat : Int) ≤ 122 ∨ 48 ≤ (b.toNat : Int) ∧ (b.toNat : Int) ≤ 57 ∨ (b.toNat : Int) = 45 ∨ (b.toNat : Int) = 46) := by
      unfold plainR jointR; simp [or_assoc]
    have hJ : jointR (b.toNat : Int) = true ↔ ((b.toNat : Int) = 45 ∨ (b.toNat : Int) = 46) := by
      unfold jointR; simp
    have leafF : (¬ (97 ≤ (b.toNat : Int) ∧ (b.toNat : Int) ≤ 122 ∨ 48 ≤ (b.toNat : Int) ∧ (b.toNat : Int) ≤ 57 ∨ (b.toNat : Int) = 45 ∨ (b.toNat : Int) = 46) ∨ ((b.toNat : Int) = 45 ∨ (b.toNat : Int) = 46) ∧ was = true) → refGo true s = false := by
      intro h0
      rw [← hg]
      rw [← hP, ← hJ] at h0
      rw [if_pos]
      rcases h0 with h0 | ⟨h0, h00⟩
      · simp only [Bool.not_eq_true] at h0; rw [h0]; rfl
      · rw [h0, h00]; simp
    have leafT : ∀ d : Bool, (97 ≤ (b.toNat : Int) ∧ (b.toNat : Int) ≤ 122 ∨ 48 ≤ (b.toNat : Int) ∧ (b.toNat : Int) ≤ 57 ∨ (b.toNat : Int) = 45 ∨ (b.toNat : Int) = 46) → ¬ (((b.toNat : Int) = 45 ∨ (b.toNat : Int) = 46) ∧ was = true) → (d = true ↔ ((b.toNat : Int) = 45 ∨ (b.toNat : Int) = 46)) → refGo d (s.drop (p + 1)) = refGo true s := by
      intro d h0 h1 h2
      rw [← hP] at h0
      rw [← hJ] at h1 h2
      have hd : jointR (b.toNat : Int) = d := by rw [Bool.eq_iff_iff]; exact h2.symm
      rw [← hg, if_neg, hd]
      rw [h0]
      intro h3
      simp at h3
      exact h1 h3
    clear hg hP hJ
    cases was
    all_goals repeat' (first | refine sy ?_ | refine vd (fun h => ?_) (fun h => ?_) | refine vdn (fun h => ?_) (fun h => ?_))
    all_goals first
      | (refine vc_cond_t rfl ?_
         repeat refine sy ?_
         refine en () trivial (hv := ?_)
         show Value.bool (refGo true s) = Value.bool false
         rw [leafF (by first | omega | (simp; done) | (simp; omega))])
      | (refine vc_cond_f rfl ?_
         repeat refine sy ?_
         refine ag (p + 1, _) ?_ (by show s.length - (p + 1) < s.length - p; omega)
         refine ⟨by show p + 1 ≤ s.length; omega, leafT _ (by omega) (by first | omega | (simp; done) | (simp; omega)) ?_⟩
         first
           | (show decide ((b.toNat : Int) = 46) = true ↔ _
              simp
              omega)
           | (simp; done)
           | (simp; omega))
  · have : p = s.length := by omega
    subst this
    rw [List.drop_length, refGo] at hg
    repeat refine sy ?_
    exact en () trivial (hv := by rw [← hg]; rfl)
theorem c_RefKey0 (s : Txt) (hs : s.length ≤ 1000000) (ov : Bool) (hv : Does Tryz.prog 54 [str s].toArray [TB] (fun _ : Unit => .bool ov) (fun _ => True) (fun _ => [])) :
    Does Tryz.prog 19 [str s].toArray [TB] (fun _ : Unit => .bool (keyOk s ov)) (fun _ => True) (fun _ => []) := by
  refine spec_of Tryz.func19 rfl Tryz.ntmps19 rfl fun R w0 => ?_
  repeat refine sy ?_
  refine vd (fun h => ?_) (fun h0 => ?_)
  · repeat refine sy ?_
    refine vc_cond_t rfl ?_
    repeat refine sy ?_
    exact en () trivial (hv := by simp [tup, keyOk, h])
  repeat refine sy ?_
  refine vd (fun h => ?_) (fun h1 => ?_)
  · repeat refine sy ?_
    refine vc_cond_t rfl ?_
    repeat refine sy ?_
    exact en () trivial (hv := by
      have : 200 < s.length := by omega
      simp [tup, keyOk, this])
  repeat refine sy ?_
  refine cd hv ?_
  repeat refine sy ?_
  refine vc_cond rfl (fun h => ?_) (fun h2 => ?_)
  · repeat refine sy ?_
    exact en () trivial (hv := by simp at h; simp [tup, keyOk, h])
  repeat refine sy ?_
  refine so (op_range_str KUnd.out rfl) fun r _ => ?_
  repeat refine sy ?_
  have hok : keyOk s ov = keyGo (runes s) := by
    have : ¬ 200 < s.length := by omega
    simp at h2
    simp [keyOk, h0, this, h2]
  refine lp (ι := Nat × Nat) (fun i => s.length - i.1 ≤ i.2 ∧ keyGo (runesAt s i.2 i.1) = keyOk s ov) (fun i => [(18, .pointer (some ⟨r, 0, none⟩))]) (fun i => [it r s i.1, R]) (fun i => i.2) (0, s.length) ⟨by simp, by rw [hok]; rfl⟩ ?_
  rintro ⟨p, n⟩ ⟨h3, h4⟩
  dsimp only at h3 h4 ⊢
  repeat refine sy ?_
  by_cases hp : p < s.length
  · obtain ⟨n, rfl⟩ : ∃ m, n = m + 1 := ⟨n - 1, by omega⟩
    obtain ⟨c, wd, hd⟩ : ∃ c wd, Go.Utf8.decode ⟨⟨s⟩⟩ p = (c, wd) := ⟨_, _, rfl⟩
    have hw : 1 ≤ wd := by have := decode_pos ⟨⟨s⟩⟩ p; rwa [hd] at this
    rw [runesAt_succ hp, hd, keyGo] at h4
    refine sod (op_next_str hp hd rfl) ?_
    repeat refine sy ?_
    refine vc_cond_t rfl ?_
    repeat refine sy ?_
    refine vd (fun hc => ?_) (fun hc => ?_)
    · repeat refine sy ?_
      refine vc_cond_t rfl ?_
      repeat refine sy ?_
      exact en () trivial (hv := by
        have : c < 32 := by omega
        rw [← h4]; simp [tup, ctl, this])
    · repeat refine sy ?_
      refine vc_cond_dec rfl (fun hc2 => ?_) (fun hc2 => ?_)
      · repeat refine sy ?_
        exact en () trivial (hv := by
          have : c = 127 := by omega
          rw [← h4]; simp [tup, ctl, this])
      · repeat refine sy ?_
        refine ag (p + wd, n) ⟨?_, ?_⟩ ?_
        · dsimp only; omega
        · dsimp only
          have e1 : ¬ c < 32 := by omega
          have e2 : ¬ c = 127 := by omega
          rw [← h4]; simp [ctl, e1, e2]
        · dsimp only; omega
  · refine sod (op_next_over (s := s) (p := p) (by omega) rfl) ?_
    repeat refine sy ?_
    refine vc_cond_f rfl ?_
    repeat refine sy ?_
    rw [runesAt_over hp, keyGo] at h4
    exact en () trivial (hv := by rw [← h4]; rfl)

theorem c_RefKey (s : Txt) (hs : s.length ≤ 1000000) : Does Tryz.prog 19 [str s].toArray [TB] (fun _ : Unit => .bool (keyV s)) (fun _ => True) (fun _ => []) := c_RefKey0 s hs (valid s) (c_Valid s hs)
end Go.Proofs.YtikodfclemgfoaaGreatDoor
