/- Contracts 3: the model's finding. -/
import Derived.Test.YtikodfclemgfoaaDoorSbK2
set_option linter.all false
set_option linter.unusedVariables false
set_option linter.unusedSimpArgs false
namespace Go.Proofs.YtikodfclemgfoaaDoor
open Go.Sb
attribute [local irreducible] Go.wpList Go.Code.wp Go.Exit.then Go.Exit.inBlock Go.Sb.Ends Go.Sb.VC Go.Sb.OpV Go.Sb.OpE Go.Sb.OpD
set_option maxHeartbeats 1000000

theorem vc_lk {N : Nat} {e : Slots} {l : List Asrt} {w0 : World} {K : Act → World → Prop} {o : Option (List Kept)} {v : Value} (h : ∀ a c, v = .slice a (o.getD []).length c → VC N e (rd rKept a c (o.getD []) :: l) w0 K) : VC N e (lk rV (.slice none 0 0) o v :: l) w0 K := by
  refine vc_head (B := ex fun p : Option Addr × Nat => star (pure (v = .slice p.1 (o.getD []).length p.2)) (rd rKept p.1 p.2 (o.getD []))) ?_ (vc_ex fun p => vc_star (vc_pure fun hc => h p.1 p.2 hc))
  intro hh f hx
  cases o with
  | none => exact ⟨(none, 0), PHeap.emp, hh, PHeap.emp_le _, PHeap.le_refl _, PHeap.emp_disj _, hx, ⟨⟨by simp, by simp⟩, fun h => absurd rfl h⟩⟩
  | some xs =>
    obtain ⟨a, c, h1, h2⟩ := hx
    exact ⟨(a, c), PHeap.emp, hh, PHeap.emp_le _, PHeap.le_refl _, PHeap.emp_disj _, h1, h2⟩
def verErr (σ : St) (b k : Txt) : Int := if σ.has b then if (σ.v b k).length = 0 then 14 else 0 else 13
theorem c_versions (m : Nat) (σ : St) (b k : Txt) : Does Tryd.prog 58 [.pointer (some ⟨m, 0, none⟩), str b, str k].toArray [Mdl m σ] (fun p : Option Addr × Nat => .tuple ⟨[.slice p.1 (σ.v b k).length p.2, .int .i64 (verErr σ b k)]⟩) (fun _ => True) (fun p => [rd rKept p.1 p.2 (σ.v b k), Mdl m σ]) := by
  refine spec_of Tryd.func58 rfl Tryd.ntmps58 rfl fun R w0 => ?_
  refine vc_mdl fun mb D hr hn => ?_
  repeat refine sy ?_
  refine sod (op_lookup_enc (D := D) KUnd.out KUnd.out KZero.out rfl rfl) ?_
  cases hf : findA D b with
  | none =>
    have hh : σ.has b = false := by rw [hr.has, hf]; rfl
    have hv : σ.v b k = [] := by rw [hr.v, verOf, hf]; rfl
    repeat refine sy ?_
    refine vc_cond_t rfl ?_
    repeat refine sy ?_
    exact en (none, 0) trivial (hv := by simp [verErr, hh, hv, tup]) (ht := by rw [hv]; exact Takes.cons take_rd_nil (Takes.cons (take_mdl hr hn) Takes.one))
  | some p =>
    obtain ⟨ib, I⟩ := p
    have hh : σ.has b = true := by rw [hr.has, hf]; rfl
    have hv : σ.v b k = (findA I k).getD [] := by rw [hr.v, verOf, hf]; rfl
    repeat refine sy ?_
    refine vc_cond_f rfl ?_
    repeat refine sy ?_
    refine sod (op_lookup_enc (D := D) KUnd.out KUnd.out KZero.out rfl rfl) ?_
    rw [hf]
    repeat refine sy ?_
    refine vc_take (A := inns D) (by repeat (first | exact Take.here | apply Take.there)) ?_
    refine vc_inns_out hf ?_
    refine so (op_lookup (V := rV) (D := I) KUnd.out KUnd.out KZero.out rfl rfl) fun v _ => ?_
    refine vc_lk fun a c hvv => ?_
    subst hvv
    rw [← hv]
    repeat refine sy ?_
    refine vc_cond_dec rfl (fun h => ?_) (fun h => ?_)
    · have h0 : σ.v b k = [] := List.length_eq_zero_iff.1 (by omega)
      repeat refine sy ?_
      exact en (none, 0) trivial (hv := by simp [verErr, hh, h0, tup]) (ht := by
        rw [h0]
        exact Takes.cons take_rd_nil (Takes.cons (take_mdl hr hn (h3 := take_inns_same (p := (ib, I)) hf)) (Takes.cons (by repeat (first | exact Take.here | apply Take.there)) Takes.nil)))
    · have h0 : ¬ (σ.v b k).length = 0 := by omega
      repeat refine sy ?_
      exact en (a, c) trivial (hv := by simp [verErr, hh, h0, tup]) (ht := by
        exact Takes.cons Take.keep (Takes.cons (take_mdl hr hn (h3 := take_inns_same (p := (ib, I)) hf)) (Takes.cons (by repeat (first | exact Take.here | apply Take.there)) Takes.nil)))
theorem c_find1 (bid : Nat) (id : Int) (q : Kept) (cs : List Value) : Does Tryd.prog 60 (⟨[.agg ⟨cs⟩, .pointer (some ⟨bid, 0, none⟩)]⟩) [hold rKept q cs, blk bid 3 [.int .i64 id]] (fun _ : Unit => .bool (decide (q.v.id = id))) (fun _ => True) (fun _ => [blk bid 3 [.int .i64 id]]) := by
  refine spec_of (args := [.agg ⟨cs⟩, .pointer (some ⟨bid, 0, none⟩)]) Tryd.func60 rfl Tryd.ntmps60 rfl fun R w0 => ?_
  refine vc_kept fun a c hc => ?_
  subst hc
  repeat refine sy ?_
  refine s_box (fun bb => ?_)
  repeat refine sy ?_
  exact en () trivial
/-- The first of which it holds, or -1. -/
def idxOf (p : Kept → Bool) : List Kept → Int → Int
  | [], _ => -1
  | q :: l, i => if p q then i else idxOf p l (i + 1)
theorem c_IndexFunc (g : Nat) [KCall Tryd.prog g] (capt : List Value) (C : Asrt) (p : Kept → Bool) (hp : ∀ q cs, Does Tryd.prog g ⟨[.agg ⟨cs⟩] ++ capt⟩ [hold rKept q cs, C] (fun _ : Unit => .bool (p q)) (fun _ => True) (fun _ => [C])) (a : Option Addr) (c : Nat) (xs : List Kept) :
    Does Tryd.prog 59 [.slice a xs.length c, .func (.func g) #[] ⟨capt⟩].toArray [rd rKept a c xs, C] (fun _ : Unit => .int .i64 (idxOf p xs 0)) (fun _ => True) (fun _ => [C]) := by
  refine spec_of Tryd.func59 rfl Tryd.ntmps59 rfl fun R w0 => ?_
  refine vc_know (p := xs.length ≤ 9223372036854775807) (fun w hs => by have := (Sat.rd hs).1.2; simpa [maxLen] using this) fun hb => ?_
  repeat refine sy ?_
  refine lp (ι := Nat) (fun i => i ≤ xs.length ∧ idxOf p (xs.drop i) i = idxOf p xs 0) (fun i => [(8, .int .i64 i), (7, .int .i64 xs.length), (0, .slice a xs.length c), (1, .func (.func g) #[] ⟨capt⟩)]) (fun _ => [rd rKept a c xs, C, R]) (fun i => xs.length - i) 0 ⟨by omega, rfl⟩ ?_
  rintro i ⟨hi, hx⟩
  repeat refine sy ?_
  refine vc_cond_dec rfl (fun h => ?_) (fun h => ?_)
  · obtain ⟨q, hq⟩ := get_some (xs := xs) (k := i) (by omega)
    have hdr : xs.drop i = q :: xs.drop (i + 1) := by
      have := List.drop_eq_getElem_cons (l := xs) (i := i) (by omega)
      rw [this]; congr 1
      rw [List.getElem?_eq_getElem (by omega)] at hq
      exact Option.some.inj hq
    rw [hdr, idxOf] at hx
    repeat refine sy ?_
    refine s_loadx_rd (fun cs => ?_)
    refine so (op_callv (first := []) (capt := capt) (vs := [.agg ⟨cs⟩]) rfl (hp q cs) KCall.out rfl) fun _ _ => ?_
    repeat refine sy ?_
    refine vc_cond rfl (fun hpq => ?_) (fun hpq => ?_)
    · repeat refine sy ?_
      exact en () trivial (hv := by rw [← hx, if_pos hpq]; rfl)
    · repeat refine sy ?_
      refine ag (i + 1) ⟨by omega, ?_⟩ (by omega)
      rw [← hx, if_neg (by rw [hpq]; decide)]
      rfl
  · repeat refine sy ?_
    have : i = xs.length := by omega
    subst this
    rw [List.drop_length, idxOf] at hx
    exact en () trivial (hv := by rw [← hx]; rfl)
def Kept.zero : Kept := ⟨⟨0, false, 0, 0⟩, []⟩
/-- A version of a key, its place, or an error. -/
def findR (σ : St) (b k : Txt) (id least : Int) (ob ok : Bool) : Kept × Int × Int :=
  if !(ob && ok) then (Kept.zero, 0, 12) else if id < least then (Kept.zero, 0, 1) else if verErr σ b k ≠ 0 then (Kept.zero, 0, verErr σ b k) else
    let i := if id ≠ 0 then idxOf (fun q => decide (q.v.id = id)) (σ.v b k) 0 else (σ.v b k).length - 1
    if i < 0 then (Kept.zero, 0, 15) else ((σ.v b k).getD i.toNat Kept.zero, i, 0)
theorem idxOf_lt {p : Kept → Bool} : ∀ {l : List Kept} {i : Int}, 0 ≤ i → idxOf p l i = -1 ∨ i ≤ idxOf p l i ∧ idxOf p l i < i + l.length
  | [], i, _ => .inl rfl
  | q :: l, i, h => by
    unfold idxOf
    split
    · right; simp; omega
    · rcases idxOf_lt (p := p) (l := l) (i := i + 1) (by omega) with h1 | ⟨h1, h2⟩
      · exact .inl h1
      · right; simp; omega
theorem c_find (m : Nat) (σ : St) (b k : Txt) (id least : Int) (ob ok : Bool) (hb : Does Tryd.prog 20 [str b].toArray [] (fun _ : Unit => .bool ob) (fun _ => True) (fun _ => [])) (hk : Does Tryd.prog 56 [str k].toArray [TB] (fun _ : Unit => .bool ok) (fun _ => True) (fun _ => [])) :
    Does Tryd.prog 43 [.pointer (some ⟨m, 0, none⟩), str b, str k, .int .i64 id, .int .i64 least].toArray [Mdl m σ, TB]
      (fun p : Option Addr × Nat => .tuple ⟨[.agg ⟨(findR σ b k id least ob ok).1.cells p.1 p.2⟩, .int .i64 (findR σ b k id least ob ok).2.1, .int .i64 (findR σ b k id least ob ok).2.2]⟩) (fun _ => True) (fun p => [rd rB p.1 p.2 (findR σ b k id least ob ok).1.data, Mdl m σ]) := by
  refine spec_of Tryd.func43 rfl Tryd.ntmps43 rfl fun R w0 => ?_
  repeat refine sy ?_
  refine s_box (fun bid => ?_)
  refine s_alloc (fun br => ?_)
  repeat refine sy ?_
  refine cd (c_named m σ b k ob ok hb hk) ?_
  repeat refine sy ?_
  by_cases ho : (ob && ok) = true
  rotate_left
  · rw [if_neg ho]
    refine vc_cond_t rfl ?_
    repeat refine sy ?_
    have hR : findR σ b k id least ob ok = (Kept.zero, 0, 12) := by simp only [findR]; rw [if_pos (by simp only [Bool.not_eq_true] at ho; simp [ho])]
    rw [hR]
    exact en (none, 0) trivial
  rw [if_pos ho]
  refine vc_cond_f rfl ?_
  repeat refine sy ?_
  refine vc_cond_dec rfl (fun h1 => ?_) (fun h1 => ?_)
  · repeat refine sy ?_
    have hR : findR σ b k id least ob ok = (Kept.zero, 0, 1) := by simp only [findR]; rw [if_neg (by rw [ho]; decide), if_pos h1]
    rw [hR]
    exact en (none, 0) trivial
  repeat refine sy ?_
  refine ca (c_versions m σ b k) fun p _ => ?_
  obtain ⟨a, c⟩ := p
  repeat refine sy ?_
  refine vc_cond_dec rfl (fun h2 => ?_) (fun h2 => ?_)
  · repeat refine sy ?_
    have hR : findR σ b k id least ob ok = (Kept.zero, 0, verErr σ b k) := by simp only [findR]; rw [if_neg (by rw [ho]; decide), if_neg h1, if_pos h2]
    rw [hR]
    exact en (none, 0) trivial
  refine vc_know (p := (σ.v b k).length ≤ 9223372036854775807) (fun w hs => by have := (Sat.rd hs).1.2; simpa [maxLen] using this) fun hlen => ?_
  repeat refine sy ?_
  have h0 : findR σ b k id least ob ok = let i := if id ≠ 0 then idxOf (fun q => decide (q.v.id = id)) (σ.v b k) 0 else (σ.v b k).length - 1
      if i < 0 then (Kept.zero, 0, 15) else ((σ.v b k).getD i.toNat Kept.zero, i, 0) := by
    simp only [findR]; rw [if_neg (by rw [ho]; decide), if_neg h1, if_neg h2]
  have hi1 := idxOf_lt (p := fun q => decide (q.v.id = id)) (l := σ.v b k) (i := 0) (by omega)
  refine vc_cond_dec rfl (fun h3 => ?_) (fun h3 => ?_)
  · rw [if_pos h3] at h0
    repeat refine sy ?_
    repeat refine sy ?_
    refine cd (c_IndexFunc 60 [.pointer (some ⟨bid, 0, none⟩)] (blk bid 3 [.int .i64 id]) (fun q => decide (q.v.id = id)) (fun q cs => c_find1 bid id q cs) a c (σ.v b k)) ?_
    have hi2 : idxOf (fun q => decide (q.v.id = id)) (σ.v b k) 0 < 0 ∨ 0 ≤ idxOf (fun q => decide (q.v.id = id)) (σ.v b k) 0 ∧ idxOf (fun q => decide (q.v.id = id)) (σ.v b k) 0 < (σ.v b k).length := by omega
    generalize idxOf (fun q => decide (q.v.id = id)) (σ.v b k) 0 = i at h0 hi2 ⊢
    repeat refine sy ?_
    refine vc_cond_dec rfl (fun h4 => ?_) (fun h4 => ?_)
    · repeat refine sy ?_
      rw [if_pos h4] at h0
      rw [h0]
      exact en (none, 0) trivial
    · rw [if_neg h4] at h0
      obtain ⟨q, hq⟩ := get_some (xs := σ.v b k) (k := i.toNat) (by omega)
      repeat refine sy ?_
      refine s_loadx_rd (fun cs => ?_)
      refine vc_kept fun a' c' hc => ?_
      subst hc
      repeat refine sy ?_
      rw [h0, List.getD_eq_getElem?_getD, hq]
      exact en (a', c') trivial
  · rw [if_neg h3] at h0
    have hi2 : ((σ.v b k).length : Int) - 1 < 0 ∨ 0 ≤ ((σ.v b k).length : Int) - 1 ∧ ((σ.v b k).length : Int) - 1 < (σ.v b k).length := by omega
    generalize ((σ.v b k).length : Int) - 1 = i at h0 hi2 ⊢
    repeat refine sy ?_
    refine vc_cond_dec rfl (fun h4 => ?_) (fun h4 => ?_)
    · repeat refine sy ?_
      rw [if_pos h4] at h0
      rw [h0]
      exact en (none, 0) trivial
    · rw [if_neg h4] at h0
      obtain ⟨q, hq⟩ := get_some (xs := σ.v b k) (k := i.toNat) (by omega)
      repeat refine sy ?_
      refine s_loadx_rd (fun cs => ?_)
      refine vc_kept fun a' c' hc => ?_
      subst hc
      repeat refine sy ?_
      rw [h0, List.getD_eq_getElem?_getD, hq]
      exact en (a', c') trivial
end Go.Proofs.YtikodfclemgfoaaDoor
