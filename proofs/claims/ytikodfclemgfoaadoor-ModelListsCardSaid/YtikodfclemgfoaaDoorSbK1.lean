/- Contracts 1: names, sums, bytes. -/
import Derived.Test.YtikodfclemgfoaaDoorSbFacts
import Derived.Test.YtikodfclemgfoaaDoorSbText
import Derived.Test.YtikodfclemgfoaaDoorSbTabs
import Derived.Test.YtikodfclemgfoaaDoorSbDrawAuto
set_option linter.all false
set_option linter.unusedVariables false
set_option linter.unusedSimpArgs false
namespace Go.Proofs.YtikodfclemgfoaaDoor
open Go.Sb
attribute [local irreducible] Go.wpList Go.Code.wp Go.Exit.then Go.Exit.inBlock Go.Sb.Ends Go.Sb.VC Go.Sb.OpV Go.Sb.OpE Go.Sb.OpD
set_option maxHeartbeats 1000000

abbrev TB : Asrt := Tabs 0 1
def plainR (c : Int) : Bool := decide (97 ≤ c) && decide (c ≤ 122) || decide (48 ≤ c) && decide (c ≤ 57)
def jointR (c : Int) : Bool := decide (c = 45) || decide (c = 46)
theorem c_plain (c : Int) : Does Tryd.prog 44 [.int .i32 c].toArray [] (fun _ : Unit => .bool (plainR c)) (fun _ => True) (fun _ => []) := by
  refine spec_of Tryd.func44 rfl Tryd.ntmps44 rfl fun R w0 => ?_
  repeat' (first | refine sy ?_ | refine vd (fun h => ?_) (fun h => ?_))
  all_goals exact en () trivial (hv := by simp [plainR, tup, *])
theorem c_joint (c : Int) : Does Tryd.prog 45 [.int .i32 c].toArray [] (fun _ : Unit => .bool (jointR c)) (fun _ => True) (fun _ => []) := by
  refine spec_of Tryd.func45 rfl Tryd.ntmps45 rfl fun R w0 => ?_
  repeat' (first | refine sy ?_ | refine vd (fun h => ?_) (fun h => ?_))
  all_goals exact en () trivial (hv := by simp [jointR, tup, *])
/-- The signs of a text. -/
def runesAt (s : Txt) : Nat → Nat → List Nat
  | 0, _ => []
  | n + 1, p => if p < s.length then (Go.Utf8.decode ⟨⟨s⟩⟩ p).1 :: runesAt s n (p + (Go.Utf8.decode ⟨⟨s⟩⟩ p).2) else []
theorem runesAt_succ {s : Txt} {n p : Nat} (h : p < s.length) : runesAt s (n + 1) p = (Go.Utf8.decode ⟨⟨s⟩⟩ p).1 :: runesAt s n (p + (Go.Utf8.decode ⟨⟨s⟩⟩ p).2) := by
  rw [runesAt.eq_def]; exact if_pos h
theorem runesAt_over {s : Txt} {n p : Nat} (h : ¬ p < s.length) : runesAt s n p = [] := by
  cases n with
  | zero => rfl
  | succ n => rw [runesAt.eq_def]; exact if_neg h
def runes (s : Txt) : List Nat := runesAt s s.length 0
theorem decode_pos (s : ByteArray) (p : Nat) : 1 ≤ (Go.Utf8.decode s p).2 := by
  unfold Go.Utf8.decode
  simp only []
  repeat' split
  all_goals simp
def bucketGo : Nat → Bool → List Nat → Bool
  | many, was, [] => decide (3 ≤ many) && decide (many ≤ 63) && !was
  | many, was, r :: rs => if !plainR r && (!jointR r || was) then false else bucketGo (many + 1) (jointR r) rs
def bucketOk (s : Txt) : Bool := bucketGo 0 true (runes s)
theorem c_Bucket (s : Txt) (hs : s.length ≤ 1000000) : Does Tryd.prog 20 [str s].toArray [] (fun _ : Unit => .bool (bucketOk s)) (fun _ => True) (fun _ => []) := by
  refine spec_of Tryd.func20 rfl Tryd.ntmps20 rfl fun R w0 => ?_
  repeat refine sy ?_
  refine so (op_range_str KUnd.out rfl) fun r _ => ?_
  repeat refine sy ?_
  refine lp (ι := Nat × Nat × Nat × Bool) (fun i => s.length - i.1 ≤ i.2.1 ∧ i.2.2.1 + i.2.1 ≤ 1000000 ∧ bucketGo i.2.2.1 i.2.2.2 (runesAt s i.2.1 i.1) = bucketOk s) (fun i => [(8, .pointer (some ⟨r, 0, none⟩)), (3, .int .i64 i.2.2.1), (4, .bool i.2.2.2)]) (fun i => [it r s i.1, R]) (fun i => i.2.1) (0, s.length, 0, true) ⟨by simp, by simpa using hs, rfl⟩ ?_
  rintro ⟨p, n, many, was⟩ ⟨h1, h2, h3⟩
  dsimp only at h1 h2 h3 ⊢
  repeat refine sy ?_
  by_cases hp : p < s.length
  · obtain ⟨n, rfl⟩ : ∃ m, n = m + 1 := ⟨n - 1, by omega⟩
    obtain ⟨c, wd, hd⟩ : ∃ c wd, Go.Utf8.decode ⟨⟨s⟩⟩ p = (c, wd) := ⟨_, _, rfl⟩
    have hw : 1 ≤ wd := by have := decode_pos ⟨⟨s⟩⟩ p; rwa [hd] at this
    rw [runesAt_succ hp, hd, bucketGo] at h3
    refine sod (op_next_str hp hd rfl) ?_
    repeat refine sy ?_
    refine vc_cond_t rfl ?_
    repeat refine sy ?_
    refine cd (c_plain _) ?_
    repeat refine sy ?_
    refine vb (fun hp1 => ?_) (fun hp1 => ?_)
    · repeat refine sy ?_
      refine cd (c_joint _) ?_
      repeat refine sy ?_
      refine vb (fun hj => ?_) (fun hj => ?_)
      · repeat refine sy ?_
        refine vc_cond_t rfl ?_
        repeat refine sy ?_
        exact en () trivial (hv := by rw [← h3]; simp_all [tup])
      · repeat refine sy ?_
        refine vc_cond rfl (fun hw => ?_) (fun hw => ?_)
        · repeat refine sy ?_
          exact en () trivial (hv := by rw [← h3]; simp_all [tup])
        · repeat refine sy ?_
          refine cd (c_joint _) ?_
          repeat refine sy ?_
          refine ag (p + wd, n, many + 1, jointR c) ⟨?_, ?_, ?_⟩ ?_
          · dsimp only; omega
          · dsimp only; omega
          · dsimp only; rw [← h3]; simp_all
          · dsimp only; omega
    · repeat refine sy ?_
      refine vc_cond_f rfl ?_
      repeat refine sy ?_
      refine cd (c_joint _) ?_
      repeat refine sy ?_
      refine ag (p + wd, n, many + 1, jointR c) ⟨?_, ?_, ?_⟩ ?_
      · dsimp only; omega
      · dsimp only; omega
      · dsimp only; rw [← h3]; simp_all
      · dsimp only; omega
  · refine sod (op_next_over (s := s) (p := p) (by omega) rfl) ?_
    repeat refine sy ?_
    refine vc_cond_f rfl ?_
    repeat refine sy ?_
    rw [runesAt_over hp, bucketGo] at h3
    repeat' (first | refine sy ?_ | refine vd (fun h => ?_) (fun h => ?_))
    all_goals exact en () trivial (hv := by simp only [tup]; congr 1; rw [← h3]; cases was <;> simp <;> omega)
def ctl (c : Nat) : Bool := decide (c < 32) || decide (c = 127)
def keyGo : List Nat → Bool
  | [] => true
  | r :: rs => if ctl r then false else keyGo rs
def keyOk (s : Txt) (valid : Bool) : Bool := !(decide (s = []) || decide (200 < s.length) || !valid) && keyGo (runes s)
theorem c_Key (s : Txt) (hs : s.length ≤ 1000000) (ov : Bool) (hv : Does Tryd.prog 67 [str s].toArray [TB] (fun _ : Unit => .bool ov) (fun _ => True) (fun _ => [])) :
    Does Tryd.prog 56 [str s].toArray [TB] (fun _ : Unit => .bool (keyOk s ov)) (fun _ => True) (fun _ => []) := by
  refine spec_of Tryd.func56 rfl Tryd.ntmps56 rfl fun R w0 => ?_
  repeat refine sy ?_
  refine vd (fun h => ?_) (fun h0 => ?_)
  · repeat refine sy ?_
    refine vc_cond_t rfl ?_
    repeat refine sy ?_
    exact en () trivial (hv := by simp [tup, keyOk, h])
  repeat refine sy ?_
  refine vd (fun h => ?_) (fun h1 => ?_)
  · repeat refine sy ?_
    refine vc_cond_t rfl ?_
    repeat refine sy ?_
    exact en () trivial (hv := by
      have : 200 < s.length := by omega
      simp [tup, keyOk, this])
  repeat refine sy ?_
  refine cd hv ?_
  repeat refine sy ?_
  refine vc_cond rfl (fun h => ?_) (fun h2 => ?_)
  · repeat refine sy ?_
    exact en () trivial (hv := by simp at h; simp [tup, keyOk, h])
  repeat refine sy ?_
  refine so (op_range_str KUnd.out rfl) fun r _ => ?_
  repeat refine sy ?_
  have hok : keyOk s ov = keyGo (runes s) := by
    have : ¬ 200 < s.length := by omega
    simp at h2
    simp [keyOk, h0, this, h2]
  refine lp (ι := Nat × Nat) (fun i => s.length - i.1 ≤ i.2 ∧ keyGo (runesAt s i.2 i.1) = keyOk s ov) (fun i => [(18, .pointer (some ⟨r, 0, none⟩))]) (fun i => [it r s i.1, R]) (fun i => i.2) (0, s.length) ⟨by simp, by rw [hok]; rfl⟩ ?_
  rintro ⟨p, n⟩ ⟨h3, h4⟩
  dsimp only at h3 h4 ⊢
  repeat refine sy ?_
  by_cases hp : p < s.length
  · obtain ⟨n, rfl⟩ : ∃ m, n = m + 1 := ⟨n - 1, by omega⟩
    obtain ⟨c, wd, hd⟩ : ∃ c wd, Go.Utf8.decode ⟨⟨s⟩⟩ p = (c, wd) := ⟨_, _, rfl⟩
    have hw : 1 ≤ wd := by have := decode_pos ⟨⟨s⟩⟩ p; rwa [hd] at this
    rw [runesAt_succ hp, hd, keyGo] at h4
    refine sod (op_next_str hp hd rfl) ?_
    repeat refine sy ?_
    refine vc_cond_t rfl ?_
    repeat refine sy ?_
    refine vd (fun hc => ?_) (fun hc => ?_)
    · repeat refine sy ?_
      refine vc_cond_t rfl ?_
      repeat refine sy ?_
      exact en () trivial (hv := by
        have : c < 32 := by omega
        rw [← h4]; simp [tup, ctl, this])
    · repeat refine sy ?_
      refine vc_cond_dec rfl (fun hc2 => ?_) (fun hc2 => ?_)
      · repeat refine sy ?_
        exact en () trivial (hv := by
          have : c = 127 := by omega
          rw [← h4]; simp [tup, ctl, this])
      · repeat refine sy ?_
        refine ag (p + wd, n) ⟨?_, ?_⟩ ?_
        · dsimp only; omega
        · dsimp only
          have e1 : ¬ c < 32 := by omega
          have e2 : ¬ c = 127 := by omega
          rw [← h4]; simp [ctl, e1, e2]
        · dsimp only; omega
  · refine sod (op_next_over (s := s) (p := p) (by omega) rfl) ?_
    repeat refine sy ?_
    refine vc_cond_f rfl ?_
    repeat refine sy ?_
    rw [runesAt_over hp, keyGo] at h4
    exact en () trivial (hv := by rw [← h4]; rfl)

/-! ### Sums -/
def crcBit (s : Int) : Int := if bop .and .u32 s 1 = 1 then bop .xor .u32 (s / 2 ^ (1 : Int).toNat) 2197175160 else s / 2 ^ (1 : Int).toNat
def crcBits : Nat → Int → Int
  | 0, s => s
  | j + 1, s => crcBit (crcBits j s)
def crcByte (s : Int) (b : UInt8) : Int := crcBits 8 (bop .xor .u32 s (IntKind.u32.wrap b.toNat))
theorem foldl_take {α β : Type} (f : β → α → β) (z : β) (l : List α) (k : Nat) (x : α) (h : l[k]? = some x) : (l.take (k + 1)).foldl f z = f ((l.take k).foldl f z) x := by
  rw [List.take_add_one, h]; simp
def crcMore (s : Int) (b : List UInt8) : Int := bop .xor .u32 IntKind.u32.max (b.foldl crcByte (bop .xor .u32 IntKind.u32.max s))
theorem c_More (s : Int) (a : Option Addr) (c : Nat) (b : List UInt8) : Does Tryd.prog 57 [.int .u32 s, .slice a b.length c].toArray [rd rB a c b] (fun _ : Unit => .int .u32 (crcMore s b)) (fun _ => True) (fun _ => []) := by
  refine spec_of Tryd.func57 rfl Tryd.ntmps57 rfl fun R w0 => ?_
  refine vc_know (p := b.length ≤ 9223372036854775807) (fun w hs => by have := (Sat.rd hs).1.2; simpa [maxLen] using this) fun hb => ?_
  repeat refine sy ?_
  refine lp (ι := Nat × Int) (fun i => i.1 ≤ b.length ∧ i.2 = (b.take i.1).foldl crcByte (bop .xor .u32 IntKind.u32.max s)) (fun i => [(12, .int .i64 i.1), (11, .int .i64 b.length), (10, .slice a b.length c), (0, .int .u32 i.2)]) (fun k => [rd rB a c b, R]) (fun i => b.length - i.1) (0, _) ⟨by simp, rfl⟩ ?_
  rintro ⟨k, z⟩ ⟨hk, hz⟩
  dsimp only at hk hz ⊢
  subst hz
  repeat refine sy ?_
  refine vc_cond_dec rfl (fun h => ?_) (fun h => ?_)
  · obtain ⟨x, hx⟩ := get_some (xs := b) (k := k) (by omega)
    repeat refine sy ?_
    refine lp (ι := Nat × Int) (fun i => i.1 ≤ 8 ∧ i.2 = crcBits i.1 (bop .xor .u32 ((b.take k).foldl crcByte (bop .xor .u32 IntKind.u32.max s)) (IntKind.u32.wrap x.toNat))) (fun i => [(20, .int .i64 i.1), (12, .int .i64 k), (11, .int .i64 b.length), (10, .slice a b.length c), (0, .int .u32 i.2)]) (fun k => [rd rB a c b, R]) (fun i => 8 - i.1) (0, _) ⟨by simp, rfl⟩ ?_
    rintro ⟨j, z⟩ ⟨hj, hz⟩
    dsimp only at hj hz ⊢
    repeat refine sy ?_
    refine vc_cond_dec rfl (fun h => ?_) (fun h => ?_)
    · repeat refine sy ?_
      refine vc_cond_dec rfl (fun h => ?_) (fun h => ?_)
      · repeat refine sy ?_
        refine ag (j + 1, _) ⟨by simp; omega, ?_⟩ (by simp; omega)
        show _ = crcBit (crcBits j _)
        rw [← hz, crcBit, if_pos h]
      · repeat refine sy ?_
        refine ag (j + 1, _) ⟨by simp; omega, ?_⟩ (by simp; omega)
        show _ = crcBit (crcBits j _)
        rw [← hz, crcBit, if_neg h]
    · repeat refine sy ?_
      have : j = 8 := by omega
      subst this
      refine ag (k + 1, _) ⟨by simp; omega, ?_⟩ (by simp; omega)
      rw [foldl_take _ _ _ _ _ hx]
      exact hz
  · repeat refine sy ?_
    have : k = b.length := by omega
    subst this
    exact en () trivial (hv := by simp [tup, crcMore])
def crcSum (b : List UInt8) : Int := crcMore 0 b
theorem c_Sum (a : Option Addr) (c : Nat) (b : List UInt8) : Does Tryd.prog 41 [.slice a b.length c].toArray [rd rB a c b] (fun _ : Unit => .int .u32 (crcSum b)) (fun _ => True) (fun _ => []) := by
  refine spec_of Tryd.func41 rfl Tryd.ntmps41 rfl fun R w0 => ?_
  repeat refine sy ?_
  refine cd (c_More _ a c b) ?_
  repeat refine sy ?_
  exact en () trivial

/-! ### Bytes -/
theorem c_BEqual (a : Option Addr) (c : Nat) (b : List UInt8) (a' : Option Addr) (c' : Nat) (b' : List UInt8) : Does Tryd.prog 31 [.slice a b.length c, .slice a' b'.length c'].toArray [rd rB a c b, rd rB a' c' b'] (fun _ : Unit => .bool (decide (b = b'))) (fun _ => True) (fun _ => []) := by
  refine spec_of Tryd.func31 rfl Tryd.ntmps31 rfl fun R w0 => ?_
  repeat refine sy ?_
  refine sod (op_bytes_str (xs := b) (a := a) (c := c) KUnd.out KUnd.out KUnd.out rfl) ?_
  repeat refine sy ?_
  refine sod (op_bytes_str (xs := b') (a := a') (c := c') KUnd.out KUnd.out KUnd.out rfl) ?_
  repeat refine sy ?_
  exact en () trivial
theorem c_BClone (a : Option Addr) (c : Nat) (b : List UInt8) (hb : b.length ≤ 1000000) : Does Tryd.prog 42 [.slice a b.length c].toArray [rd rB a c b] (fun p : Option Addr × Nat => .slice p.1 b.length p.2) (fun _ => True) (fun p => [rd rB p.1 p.2 b]) := by
  refine spec_of Tryd.func42 rfl Tryd.ntmps42 rfl fun R w0 => ?_
  repeat refine sy ?_
  cases a with
  | none =>
    refine vc_know (p := b = []) (fun w hs => ?_) fun h0 => ?_
    · by_cases h : b = []
      · exact h
      · obtain ⟨g', o, l, E', fr, cs, h1, _⟩ := (Sat.rd hs).2 h; cases h1
    subst h0
    refine vc_cond_t rfl ?_
    repeat refine sy ?_
    exact en (none, 0) trivial
  | some a =>
    refine vc_cond_f rfl ?_
    repeat refine sy ?_
    refine so (op_buildSlice0 rfl KSlice.und KInfo.out) fun bb _ => ?_
    repeat refine sy ?_
    refine so (op_append (R := rB) (E := 5) (c := 0) (xs := []) (ys := b) rfl KUnd.out KUnd.out KInfo.out (by decide) rfl rfl rfl (by simp; omega)) fun p _ => ?_
    repeat refine sy ?_
    refine vc_own_freeze ?_
    exact en p trivial
end Go.Proofs.YtikodfclemgfoaaDoor
