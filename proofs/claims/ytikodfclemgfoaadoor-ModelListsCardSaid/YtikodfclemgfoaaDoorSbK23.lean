/- Contracts 23: entries in order (slices.SortStableFunc). -/
import Derived.Test.YtikodfclemgfoaaDoorSbK20
import Derived.Test.YtikodfclemgfoaaDoorSbOwn
import Derived.Test.YtikodfclemgfoaaDoorSbSort
set_option linter.all false
set_option linter.unusedVariables false
namespace Go.Proofs.YtikodfclemgfoaaDoor
open Go.Sb
attribute [local irreducible] Go.wpList Go.Code.wp Go.Exit.then Go.Exit.inBlock Go.Sb.Ends Go.Sb.VC Go.Sb.VA Go.Sb.OpV Go.Sb.OpE Go.Sb.OpD
set_option maxHeartbeats 2000000
set_option maxRecDepth 10000
structure Entr where
  key : Txt
  v : Ver
  latest : Bool
  deriving DecidableEq
abbrev Entr.cells (x : Entr) : List Value := [str x.key, .int .i64 x.v.id, .bool x.v.mark, .int .i64 x.v.size, .int .u32 x.v.sum, .bool x.latest]
def rEn : Rel Entr := Rel.ofEnc 6 (by decide) Entr.cells (fun _ => rfl) (fun x v hv => by
  simp only [Entr.cells, List.mem_cons, List.not_mem_nil, or_false] at hv
  rcases hv with rfl | rfl | rfl | rfl | rfl | rfl <;> rfl)
abbrev TE : Nat := 49
theorem own_len {α : Type} {R : Rel α} {E : Nat} {a : Option Addr} {c : Nat} {xs : List α} {l : List Asrt} {w : World} (h : Sat (own R E a c xs :: l) w) : xs.length ≤ 9223372036854775807 := by
  have := own_le h; omega
theorem c_eSwap (a : Option Addr) (c : Nat) (xs : List Entr) (p q n : Nat) (cmp : Value) (h1 : p + n ≤ q) (h2 : q + n ≤ xs.length) :
    Does Tryd.prog 103 [.slice a xs.length c, .int .i64 p, .int .i64 q, .int .i64 n, cmp].toArray [own rEn TE a c xs] (fun _ : List Entr => .tuple ⟨[]⟩) (fun zs => Swp xs zs p q n) (fun zs => [own rEn TE a c zs]) := by
  refine spec_of Tryd.func103 rfl Tryd.ntmps103 rfl fun R w0 => ?_
  refine vc_know (fun w hs => own_len hs) fun hlen => ?_
  repeat refine sy ?_
  refine lp (ι := Nat × List Entr) (fun i => i.1 ≤ n ∧ Swp xs i.2 p q i.1) (fun i => [(10, .int .i64 i.1), (0, .slice a xs.length c), (1, .int .i64 p), (2, .int .i64 q), (3, .int .i64 n)]) (fun i => [own rEn TE a c i.2, R]) (fun i => n - i.1) (0, xs) ⟨by simp, Swp.refl xs p q⟩ ?_
  rintro ⟨i, zs⟩ ⟨hi, hs⟩
  dsimp only at hi hs ⊢
  repeat refine sy ?_
  refine vc_cond_dec rfl (fun h => ?_) (fun h => ?_)
  · have hl := hs.1
    obtain ⟨x, hx⟩ := get_some (xs := xs) (k := p + i) (by omega)
    obtain ⟨y, hy⟩ := get_some (xs := xs) (k := q + i) (by omega)
    have hx' : zs[((p : Int) + (i : Int)).toNat]? = some x := by rw [show ((p : Int) + (i : Int)).toNat = p + i by omega, (hs.at_ (by omega)).1]; exact hx
    have hy' : zs[((q : Int) + (i : Int)).toNat]? = some y := by rw [show ((q : Int) + (i : Int)).toNat = q + i by omega, (hs.at_ (by omega)).2]; exact hy
    repeat refine sy ?_
    refine vd_start ?_
    repeat refine dq ?_
    refine dq ?_ (hq := q_index_own_len (i := (q : Int) + (i : Int)) (xs := zs) hl.symm ⟨by omega, by omega⟩)
    refine dq ?_ (hq := q_loada_own hy')
    repeat refine dq ?_
    refine dq ?_ (hq := q_index_own_len (i := (p : Int) + (i : Int)) (xs := zs) hl.symm ⟨by omega, by omega⟩)
    refine dq ?_ (hq := q_loada_own hx')
    refine dq ?_ (hq := q_index_own_len (i := (p : Int) + (i : Int)) (xs := zs) hl.symm ⟨by omega, by omega⟩)
    refine d_store_own (R := rEn) (xs := zs) (j := ((p : Int) + (i : Int)).toNat) (q' := y) (cs := y.cells) (by omega) ⟨?_, ?_⟩
    · exact aq
    refine dq ?_ (hq := q_index_own_len (nn := xs.length) (i := (q : Int) + (i : Int)) (xs := zs.set ((p : Int) + (i : Int)).toNat y) (by simp [hl]) ⟨by omega, by simp; omega⟩)
    refine d_store_own (R := rEn) (xs := zs.set ((p : Int) + (i : Int)).toNat y) (j := ((q : Int) + (i : Int)).toNat) (q' := x) (cs := x.cells) (by simp; omega) ⟨?_, ?_⟩
    · exact aq
    refine va_end ?_
    repeat refine sy ?_
    rw [show ((p : Int) + (i : Int)).toNat = p + i by omega, show ((q : Int) + (i : Int)).toNat = q + i by omega]
    exact ag (i + 1, (zs.set (p + i) y).set (q + i) x) ⟨by show i + 1 ≤ n; omega, hs.step h1 h2 (by omega) hx hy⟩ (by show n - (i + 1) < n - i; omega)
  · repeat refine sy ?_
    have : i = n := by omega
    subst this
    exact en zs hs
theorem c_eSwap' (a : Option Addr) (c nn : Nat) (xs : List Entr) (p q n : Nat) (pi qi ni : Int) (cmp : Value) (hnn : nn = xs.length) (e1 : pi = p) (e2 : qi = q) (e3 : ni = n) (h1 : p + n ≤ q) (h2 : q + n ≤ xs.length) :
    Does Tryd.prog 103 [.slice a nn c, .int .i64 pi, .int .i64 qi, .int .i64 ni, cmp].toArray [own rEn TE a c xs] (fun _ : List Entr => .tuple ⟨[]⟩) (fun zs => Swp xs zs p q n) (fun zs => [own rEn TE a c zs]) := by
  subst hnn; subst e1; subst e2; subst e3; exact c_eSwap a c xs p q n cmp h1 h2
theorem c_eRotate (a : Option Addr) (c nn : Nat) (P A B S : List Entr) (pi mi bi : Int) (cmp : Value) (hnn : nn = (P ++ A ++ B ++ S).length) (e1 : pi = P.length) (e2 : mi = P.length + A.length) (e3 : bi = P.length + A.length + B.length) (hA : 0 < A.length) (hB : 0 < B.length) :
    Does Tryd.prog 102 [.slice a nn c, .int .i64 pi, .int .i64 mi, .int .i64 bi, cmp].toArray [own rEn TE a c (P ++ A ++ B ++ S)] (fun _ : Unit => .tuple ⟨[]⟩) (fun _ => True) (fun _ => [own rEn TE a c (P ++ B ++ A ++ S)]) := by
  refine spec_of Tryd.func102 rfl Tryd.ntmps102 rfl fun R w0 => ?_
  refine vc_know (fun w hs => own_len hs) fun hlen => ?_
  simp only [List.length_append] at hlen hnn
  repeat refine sy ?_
  rw [show mi - pi = (A.length : Int) by omega, show bi - mi = (B.length : Int) by omega]
  refine lp (ι := List Entr × List Entr × List Entr × List Entr) (fun i => 0 < i.2.1.length ∧ 0 < i.2.2.1.length ∧ (i.1.length : Int) + i.2.1.length = mi ∧ i.1 ++ i.2.2.1 ++ i.2.1 ++ i.2.2.2 = P ++ B ++ A ++ S) (fun i => [(10, .int .i64 i.2.1.length), (11, .int .i64 i.2.2.1.length), (0, .slice a nn c), (2, .int .i64 mi), (4, cmp)]) (fun i => [own rEn TE a c (i.1 ++ i.2.1 ++ i.2.2.1 ++ i.2.2.2), R]) (fun i => i.2.1.length + i.2.2.1.length) (P, A, B, S) ⟨hA, hB, e2.symm, rfl⟩ ?_
  rintro ⟨P', X, Y, S'⟩ ⟨hX, hY, hm, hg⟩
  dsimp only at hX hY hm hg ⊢
  have hl := congrArg List.length hg
  simp only [List.length_append] at hl
  repeat refine sy ?_
  refine vc_cond_dec rfl (fun h => ?_) (fun h => ?_)
  · repeat refine sy ?_
    refine vc_cond_dec rfl (fun h1 => ?_) (fun h1 => ?_)
    · -- X is longer: its head changes places with Y
      obtain ⟨X1, X2, rfl, hX1⟩ : ∃ X1 X2, X = X1 ++ X2 ∧ X1.length = Y.length := ⟨X.take Y.length, X.drop Y.length, (List.take_append_drop _ _).symm, by simp; omega⟩
      simp only [List.length_append] at hX hm hl h h1
      have hXL : (X1 ++ X2).length = X1.length + X2.length := List.length_append
      repeat refine sy ?_
      refine ca (c_eSwap' a c nn (P' ++ X1 ++ X2 ++ Y ++ S') P'.length (P'.length + X1.length + X2.length) X1.length (mi - ((X1 ++ X2).length : Int)) mi (Y.length : Int) cmp (by simp only [List.length_append]; omega) (by simp only [List.length_append]; omega) (by omega) (by omega) (by omega) (by simp only [List.length_append]; omega)) (fun zs hz => ?_) (ht := Takes.cons (by
        rw [show P' ++ X1 ++ X2 ++ Y ++ S' = P' ++ (X1 ++ X2) ++ Y ++ S' by simp]; exact Take.here) Takes.nil)
      have hz' := hz.blocks hX1
      subst hz'
      repeat refine sy ?_
      rw [show ((X1 ++ X2).length : Int) - Y.length = (X2.length : Int) by simp only [List.length_append]; omega]
      rw [show P' ++ Y ++ X2 ++ X1 ++ S' = (P' ++ Y) ++ X2 ++ X1 ++ S' by simp, show (Y.length : Int) = (X1.length : Int) by omega]
      refine ag (P' ++ Y, X2, X1, S') ⟨by show 0 < X2.length; omega, by show 0 < X1.length; omega, by show ((P' ++ Y).length : Int) + X2.length = mi; simp only [List.length_append]; omega, by show P' ++ Y ++ X1 ++ X2 ++ S' = _; rw [← hg]; simp⟩ (by show X2.length + X1.length < (X1 ++ X2).length + Y.length; simp only [List.length_append]; omega)
    · -- Y is longer: X changes places with its end
      obtain ⟨Y1, Y2, rfl, hY2⟩ : ∃ Y1 Y2, Y = Y1 ++ Y2 ∧ Y2.length = X.length := ⟨Y.take (Y.length - X.length), Y.drop (Y.length - X.length), (List.take_append_drop _ _).symm, by simp; omega⟩
      simp only [List.length_append] at hY hl h h1
      have hYL : (Y1 ++ Y2).length = Y1.length + Y2.length := List.length_append
      repeat refine sy ?_
      refine ca (c_eSwap' a c nn (P' ++ X ++ Y1 ++ Y2 ++ S') P'.length (P'.length + X.length + Y1.length) X.length (mi - (X.length : Int)) (mi + ((Y1 ++ Y2).length : Int) - (X.length : Int)) (X.length : Int) cmp (by simp only [List.length_append]; omega) (by omega) (by simp only [List.length_append]; omega) (by omega) (by omega) (by simp only [List.length_append]; omega)) (fun zs hz => ?_) (ht := Takes.cons (by
        rw [show P' ++ X ++ Y1 ++ Y2 ++ S' = P' ++ X ++ (Y1 ++ Y2) ++ S' by simp]; exact Take.here) Takes.nil)
      have hz' := hz.blocks hY2.symm
      subst hz'
      repeat refine sy ?_
      rw [show ((Y1 ++ Y2).length : Int) - X.length = (Y1.length : Int) by simp only [List.length_append]; omega]
      rw [show P' ++ Y2 ++ Y1 ++ X ++ S' = P' ++ Y2 ++ Y1 ++ (X ++ S') by simp, show (X.length : Int) = (Y2.length : Int) by omega]
      refine ag (P', Y2, Y1, X ++ S') ⟨by show 0 < Y2.length; omega, by show 0 < Y1.length; omega, by show (P'.length : Int) + Y2.length = mi; omega, by show P' ++ Y1 ++ Y2 ++ (X ++ S') = _; rw [← hg]; simp⟩ (by show Y2.length + Y1.length < X.length + (Y1 ++ Y2).length; simp only [List.length_append]; omega)
  · repeat refine sy ?_
    refine ca (c_eSwap' a c nn (P' ++ X ++ [] ++ Y ++ S') P'.length (P'.length + X.length + 0) X.length (mi - (X.length : Int)) mi (X.length : Int) cmp (by simp only [List.length_append]; simp; omega) (by omega) (by omega) (by omega) (by omega) (by simp only [List.length_append]; simp; omega)) (fun zs hz => ?_) (ht := Takes.cons (by
      rw [show P' ++ X ++ [] ++ Y ++ S' = P' ++ X ++ Y ++ S' by simp]; exact Take.here) Takes.nil)
    have hz' := Swp.blocks (M := []) (by omega) hz
    subst hz'
    repeat refine sy ?_
    rw [show P' ++ Y ++ [] ++ X ++ S' = P ++ B ++ A ++ S by rw [← hg]; simp]
    exact en () trivial
end Go.Proofs.YtikodfclemgfoaaDoor
