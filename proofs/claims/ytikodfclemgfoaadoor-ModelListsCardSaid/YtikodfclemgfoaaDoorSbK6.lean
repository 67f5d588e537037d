/- Contracts 6: slices.Delete, Erase. -/
import Derived.Test.YtikodfclemgfoaaDoorSbK5
import Derived.Test.YtikodfclemgfoaaDoorSbSelf
set_option linter.all false
set_option linter.unusedVariables false
set_option linter.unusedSimpArgs false
namespace Go.Proofs.YtikodfclemgfoaaDoor
open Go.Sb
attribute [local irreducible] Go.wpList Go.Code.wp Go.Exit.then Go.Exit.inBlock Go.Sb.Ends Go.Sb.VC Go.Sb.VA Go.Sb.OpV Go.Sb.OpE Go.Sb.OpD
set_option maxHeartbeats 1000000
theorem own_le {α : Type} {R : Rel α} {E : Nat} {a : Option Addr} {c : Nat} {xs : List α} {l : List Asrt} {w : World} (h : Sat (own R E a c xs :: l) w) : xs.length ≤ c ∧ c ≤ 9223372036854775807 ∧ (xs ≠ [] → ∃ g, a = some ⟨g, 0, none⟩) := by
  rcases Sat.own h with ⟨h0, h1, _⟩ | ⟨g, d, fr, cs, e1, h3, h4, h5, _⟩
  · subst h0 h1; exact ⟨by simp, by omega, fun h => absurd rfl h⟩
  · exact ⟨h4, by simpa [maxLen] using h5, fun _ => ⟨g, e1⟩⟩
theorem c_KDelete (g c : Nat) (xs : List Kept) (i : Nat) (hi : i < xs.length) : Does Tryd.prog 48 [.slice (some ⟨g, 0, none⟩) xs.length c, .int .i64 i, .int .i64 (i + 1)].toArray [own rKept 74 (some ⟨g, 0, none⟩) c xs]
    (fun _ : Unit => .slice (some ⟨g, 0, none⟩) (xs.take i ++ xs.drop (i + 1)).length c) (fun _ => True) (fun _ => [own rKept 74 (some ⟨g, 0, none⟩) c (xs.take i ++ xs.drop (i + 1))]) := by
  refine spec_of Tryd.func48 rfl Tryd.ntmps48 rfl fun R w0 => ?_
  refine vc_know (p := xs.length ≤ c ∧ c ≤ 9223372036854775807) (fun w hs => ⟨(own_le hs).1, (own_le hs).2.1⟩) fun hc => ?_
  repeat refine sy ?_
  refine sv ?_ (op_slice_v3 KSlice.out rfl rfl rfl rfl (by omega))
  repeat refine sy ?_
  refine vc_cond_f (by show some _ = some _; congr 2; simp; omega) ?_
  repeat refine sy ?_
  refine vd_start ?_
  repeat refine dq ?_
  refine dq ?_ (hq := q_pure (ho := op_slice_vhi KSlice.out rfl rfl (by omega)))
  repeat refine dq ?_
  refine dq ?_ (hq := q_pure (ho := op_slice_vlo KSlice.out rfl rfl (by omega)))
  refine de (opD_e (op_append_self (R := rKept) (E := 74) (xs := xs) (i := i) (j := i + 1) rfl KUnd.out KInfo.out (by omega) rfl rfl (fun h => by subst h; cases hi))) (fun _ _ => ⟨?_, ?_⟩)
  · exact aq
  refine dv ⟨?_, ?_⟩
  · exact aq
  refine va_end ?_
  repeat refine sy ?_
  have hL : (xs.take i ++ xs.drop (i + 1)).length = xs.length - 1 := by simp; omega
  refine sv ?_ (op_slice_vmid KSlice.out rfl rfl rfl (by omega))
  have hp0 : part0 g c ((xs.take i ++ xs.drop (i + 1)).length : Int).toNat 5 = some ⟨g, (xs.length - 1) * 5, none⟩ := by
    unfold part0; rw [if_neg (by omega)]; congr 2; rw [hL]; simp
  rw [hp0]
  have hm : ((xs.length : Int).toNat - ((xs.take i ++ xs.drop (i + 1)).length : Int).toNat) = 1 := by omega
  rw [hm]
  refine sod0 (op_clear_tail (T := 77) (R := rKept) (g := g) (c := c) (zl := [.int .i64 0, .bool false, .int .i64 0, .int .u32 0, .slice none 0 0]) (xs := xs.take i ++ xs.drop (i + 1)) (k := xs.length - 1) (m := 1) rfl KUnd.out KInfo.out rfl (by intro v hv; simp at hv; rcases hv with rfl | rfl | rfl | rfl | rfl <;> rfl) (by omega) (by decide) rfl) ?_
  repeat refine sy ?_
  exact en () trivial
/-- A key's versions are looked up. -/
theorem op_lookup_rv {P : Go.Program} {e : Slots} {x y : Operand} {dst : Option Tmp} {t : TypeId} {pos : String} {aft : Array Edge} {g : Option (Nat × Bool)} {T E K ib : Nat} {I : Keys} {k : Txt} (ht : P.underlying T = some (.map K E)) (hk : P.underlying K = some .string) (hz : (P.info? E).map (·.zero) = some (some (.slice none 0 0)))
    (hx : see e x = some (.map (some ib))) (hy : see e y = some (str k)) : OpE P e ⟨dst, .lookup T x y false, t, pos, aft, g⟩ [mp rV ib I] (fun p : Option Addr × Nat => .slice p.1 ((findA I k).getD []).length p.2) (fun _ => True) (fun p => [rd rKept p.1 p.2 ((findA I k).getD []), mp rV ib I]) := by
  have h0 := op_lookup (V := rV) (D := I) (dst := dst) (t := t) (pos := pos) (aft := aft) (g := g) ht hk hz hx hy
  unfold OpE at h0 ⊢
  intro ρ hρ R w hs
  refine uponV.mono (h0 ρ hρ R w hs) ?_
  rintro v w' ⟨v', rfl, _, hs', he⟩
  cases hf : findA I k with
  | none =>
    rw [hf] at hs'
    have hv := Sat.rof hs'
    simp only at hv
    refine ⟨(none, 0), hv, trivial, ?_, he⟩
    exact hs'.tail.ent (take_rd_nil (R := rKept) (a := none) (c := 0))
  | some xs =>
    rw [hf] at hs'
    obtain ⟨hh, f, d, h1, h2, k1, k2, p1, p2, p3, ⟨a, c, hv, hr⟩, r⟩ := hs'
    exact ⟨(a, c), hv, trivial, ⟨hh, f, d, h1, h2, k1, k2, p1, p2, p3, hr, r⟩, he⟩
def eraErr (σ : St) (b k : Txt) (id : Int) (ob ok : Bool) : Int := (findR σ b k id 1 ob ok).2.2
def eraSt (σ : St) (b k : Txt) (id : Int) (ob ok : Bool) : St :=
  if eraErr σ b k id ob ok = 0 then σ.set b k ((σ.v b k).take (findR σ b k id 1 ob ok).2.1.toNat ++ (σ.v b k).drop ((findR σ b k id 1 ob ok).2.1.toNat + 1)) else σ
theorem c_Erase (m : Nat) (σ : St) (b k : Txt) (id : Int) (ob ok : Bool) (hb : NB b ob) (hk : NK k ok) (hσ : (σ.v b k).length ≤ 1000000) :
    Does Tryd.prog 24 [.pointer (some ⟨m, 0, none⟩), str b, str k, .int .i64 id].toArray [Mdl m σ, TB]
      (fun _ : Unit => .int .i64 (eraErr σ b k id ob ok)) (fun _ => True) (fun _ => [Mdl m (eraSt σ b k id ob ok)]) := by
  refine spec_of Tryd.func24 rfl Tryd.ntmps24 rfl fun R w0 => ?_
  repeat refine sy ?_
  refine ca (c_find m σ b k id 1 ob ok hb hk) fun p _ => ?_
  obtain ⟨a, c⟩ := p
  have hmem := findR_mem (σ := σ) (b := b) (k := k) (id := id) (least := 1) (ob := ob) (ok := ok)
  have hG : eraErr σ b k id ob ok = (findR σ b k id 1 ob ok).2.2 := rfl
  have hS : eraSt σ b k id ob ok = if (findR σ b k id 1 ob ok).2.2 = 0 then σ.set b k ((σ.v b k).take (findR σ b k id 1 ob ok).2.1.toNat ++ (σ.v b k).drop ((findR σ b k id 1 ob ok).2.1.toNat + 1)) else σ := rfl
  generalize findR σ b k id 1 ob ok = r at hmem hG hS ⊢
  obtain ⟨q, i, er⟩ := r
  dsimp only at hmem hG hS ⊢
  repeat refine sy ?_
  refine s_alloc (fun bq => ?_)
  repeat refine sy ?_
  refine vc_cond_dec rfl (fun h1 => ?_) (fun h1 => ?_)
  rotate_left
  · rw [if_neg h1] at hS
    repeat refine sy ?_
    rw [hG, hS]
    exact en () trivial
  rw [if_pos h1] at hS
  obtain ⟨_, hh, hi0, hi1⟩ := hmem h1
  obtain ⟨n, rfl⟩ : ∃ n : Nat, i = n := ⟨i.toNat, by omega⟩
  rw [Int.toNat_natCast] at hS
  refine vc_take (A := Mdl m σ) (by repeat (first | exact Take.here | apply Take.there)) ?_
  refine vc_mdl fun mb D hr hn => ?_
  obtain ⟨⟨ib, I⟩, hf⟩ : ∃ p, findA D b = some p := Option.isSome_iff_exists.1 (by rw [← hr.has]; exact hh)
  have hv : σ.v b k = (findA I k).getD [] := by rw [hr.v, verOf, hf]; rfl
  refine vc_take (A := inns D) (by repeat (first | exact Take.here | apply Take.there)) ?_
  refine vc_inns_out hf ?_
  repeat refine sy ?_
  refine vd_start ?_
  repeat refine dq ?_
  refine va_pick 16 ?_
  refine dq ?_
  refine va_pick 17 ?_
  refine dq ?_
  refine va_pick 18 ?_
  refine dq ?_
  refine va_pick 14 ?_
  refine de (op_lookup_rv (I := I) KUnd.out KUnd.out KZero.out rfl rfl) (fun p _ => ⟨?_, ?_⟩)
  · exact aq
  obtain ⟨a', c'⟩ := p
  rw [← hv]
  refine de (op_call (c_KClone a' c' (σ.v b k) hσ) KCall.out rfl) (fun p _ => ⟨?_, ?_⟩)
  · exact aq
  obtain ⟨a2, c2⟩ := p
  refine va_know (p := ∃ g, a2 = some ⟨g, 0, none⟩) (fun w hs => (own_le hs).2.2 (fun h => by rw [h] at hi1; simp at hi1; omega)) fun hg => ?_
  obtain ⟨g, rfl⟩ := hg
  refine de (op_call (c_KDelete g c2 (σ.v b k) n (by omega)) KCall.out rfl) (fun _ _ => ⟨?_, ?_⟩)
  · exact aq
  refine de0 (op_put KUnd.out KUnd.out rfl rfl rfl) (fun _ _ => ⟨?_, ?_⟩)
  · exact aq
  refine va_end ?_
  repeat refine sy ?_
  rw [hG, hS]
  exact en () trivial (ht := Takes.cons (take_mdl_put hr hn hf) (Takes.cons (by repeat (first | exact Take.here | apply Take.there)) Takes.nil))
end Go.Proofs.YtikodfclemgfoaaDoor
