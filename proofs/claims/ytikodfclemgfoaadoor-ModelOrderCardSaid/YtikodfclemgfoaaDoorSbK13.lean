/- Contracts 13: bent; Call at Put, Delete, Erase. -/
import Derived.Test.YtikodfclemgfoaaDoorSbK12
set_option linter.all false
set_option linter.unusedVariables false
set_option linter.unusedSimpArgs false
namespace Go.Proofs.YtikodfclemgfoaaDoor
open Go.Sb
attribute [local irreducible] Go.wpList Go.Code.wp Go.Exit.then Go.Exit.inBlock Go.Sb.Ends Go.Sb.VC Go.Sb.VA Go.Sb.OpV Go.Sb.OpE Go.Sb.OpD
set_option maxHeartbeats 1000000
def rI : Rel Int := Rel.ofEnc 1 (by decide) (fun i => [.int .i64 i]) (fun _ => rfl) (fun _ v hv => by simp at hv; subst hv; rfl)
/-- A block given up, read as a row. -/
theorem Sat.blk_rd {α : Type} {R : Rel α} {b E c : Nat} {ls : List Value} {xs : List α} {l : List Asrt} {w : World} (h : Sat (blk b E ls :: l) w) (hr : ∀ f, rows R f xs ls) (hc : xs.length ≤ c ∧ xs.length ≤ maxLen) : Sat (rd R (some ⟨b, 0, none⟩) c xs :: l) w := by
  refine h.freeze.ent (star_mono (fun hh f p => ?_) (Ent.refl _))
  exact ⟨hc, fun _ => ⟨b, 0, ls, E, (0, 0), ls, rfl, p, hr f, by simp⟩⟩
theorem opE_post {P : Go.Program} {e : Slots} {o : Oper} {A : List Asrt} {α : Type} {val : α → Value} {pu : α → Prop} {res res' : α → List Asrt} (h : OpE P e o A val pu res) (hs : ∀ x (R : Asrt) w, Sat (res x ++ [R]) w → Sat (res' x ++ [R]) w) : OpE P e o A val pu res' := by
  unfold OpE at h ⊢
  exact fun ρ hρ R w hS => uponV.mono (h ρ hρ R w hS) fun v w' ⟨x, h1, h2, h3, h4⟩ => ⟨x, h1, h2, hs x R w' h3, h4⟩
def actOf (a : Int) : Int := [4, 7, 8].getD (IntKind.u64.wrap a % 3).toNat 4
def bentC (key : Txt) (x : Cho) : Cho := { act := actOf x.act, bucket := [97, 98, 99], key := key, data := x.data, n := 10 + IntKind.i64.wrap (IntKind.u64.wrap x.n % 30), at_ := 0, pre := [], frm := [], fid := 0, most := 0 }
theorem u64_wrap_nonneg (a : Int) : 0 ≤ IntKind.u64.wrap a := by
  unfold IntKind.wrap
  simp [IntKind.signed]
  omega
theorem wrap_rem (a : Int) : 0 ≤ IntKind.i64.wrap (IntKind.u64.wrap a % 30) ∧ IntKind.i64.wrap (IntKind.u64.wrap a % 30) < 30 := by
  have h := u64_wrap_nonneg a
  rw [IntWalk.i64_in _ ⟨by omega, by omega⟩]; omega
theorem actOf_at (a : Int) : ([4, 7, 8] : List Int)[(IntKind.u64.wrap a % 3).toNat]? = some (actOf a) := by
  have h := u64_wrap_nonneg a
  unfold actOf
  rw [List.getD_eq_getElem?_getD]
  have h3 : (IntKind.u64.wrap a % 3).toNat < 3 := by omega
  generalize (IntKind.u64.wrap a % 3).toNat = j at h3
  match j, h3 with
  | 0, _ => rfl
  | 1, _ => rfl
  | 2, _ => rfl
def bentL (key : Txt) (xs : List Cho) : List Cho := xs.map (bentC key)
theorem bentL_succ {key : Txt} {xs : List Cho} {i : Nat} {q : Cho} (h : xs[i]? = some q) : bentL key (xs.take (i + 1)) = bentL key (xs.take i) ++ [bentC key q] := by
  unfold bentL
  rw [List.take_add_one, h]; simp
theorem c_bent (a : Option Addr) (c : Nat) (xs : List Cho) (key : Txt) (hb : xs.length ≤ 1000) : Does Tryd.prog 14 [.slice a xs.length c, str key].toArray [rd rCho a c xs] (fun p : Option Addr × Nat => .slice p.1 (bentL key xs).length p.2) (fun _ => True) (fun p => [rd rCho p.1 p.2 (bentL key xs)]) := by
  refine spec_of Tryd.func14 rfl Tryd.ntmps14 rfl fun R w0 => ?_
  repeat refine sy ?_
  refine lp (ι := Nat × Option Addr × Nat) (fun i => i.1 ≤ xs.length) (fun i => [(6, .int .i64 i.1), (5, .slice i.2.1 (bentL key (xs.take i.1)).length i.2.2), (0, .slice a xs.length c), (1, str key)]) (fun i => [rd rCho a c xs, own rCho 33 i.2.1 i.2.2 (bentL key (xs.take i.1)), R]) (fun i => xs.length - i.1) (0, none, 0) (by simp) ?_
  rintro ⟨i, a', c'⟩ hi
  dsimp only at hi ⊢
  repeat refine sy ?_
  refine vc_cond_dec rfl (fun h => ?_) (fun h => ?_)
  · obtain ⟨q, hq⟩ := get_some (xs := xs) (k := i) (by omega)
    refine vc_rd_elem hq fun cs _ => ?_
    refine vc_take (A := hold rCho q cs) (by repeat (first | exact Take.here | apply Take.there)) ?_
    refine vc_cho fun a1 c1 hc => ?_
    subst hc
    have w1 := u64_wrap_nonneg q.act
    have w2 := u64_wrap_nonneg q.n
    have w3 := wrap_rem q.n
    have w4 := actOf_at q.act
    have hlen : (bentL key (xs.take i)).length = i := by simp [bentL]; omega
    repeat refine sy ?_
    refine vd_start ?_
    refine va_pick 1 ?_
    refine dq ?_
    refine va_pick 2 ?_
    refine dq ?_
    refine va_pick 3 ?_
    refine dq ?_
    refine va_pick 4 ?_
    refine dq ?_
    refine va_pick 5 ?_
    refine dq ?_
    refine va_pick 6 ?_
    refine dq ?_
    refine va_pick 7 ?_
    refine dq ?_
    refine va_pick 10 ?_
    refine dq ?_
    refine va_pick 11 ?_
    refine dq ?_
    refine va_pick 12 ?_
    refine dq ?_
    refine va_pick 13 ?_
    refine dq ?_
    refine va_pick 14 ?_
    refine dq ?_
    refine va_pick 15 ?_
    refine dq ?_
    refine va_pick 16 ?_
    refine dq ?_
    refine va_pick 17 ?_
    refine dq ?_
    refine va_pick 18 ?_
    refine dq ?_
    refine va_pick 19 ?_
    refine dq ?_
    refine va_pick 20 ?_
    refine dq ?_
    refine va_pick 21 ?_
    refine dq ?_
    refine va_pick 22 ?_
    refine dq ?_
    refine va_pick 23 ?_
    refine dq ?_
    refine va_pick 24 ?_
    refine dq ?_
    refine va_pick 26 ?_
    refine va_pick 0 ?_
    refine de2 (opE_post (res' := fun b => [rd rI (some ⟨b, 0, none⟩) 3 [4, 7, 8]]) oe_buildSlice fun b R w h => Sat.blk_rd (R := rI) (c := 3) (xs := [4, 7, 8]) h (fun f => (rows_ofEnc).2 rfl) (by decide)) (op_alloc KInfo.out) (fun b _ => ⟨?_, ?_⟩) (fun b7 _ => ⟨?_, ?_⟩)
    · exact aq
    · refine va_pick 8 ?_
      refine dq ?_ (hq := q_index_rd (R := rI) (xs := [4, 7, 8]) (hi := by simp; omega))
      refine va_pick 9 ?_
      refine dq ?_ (hq := q_load_rd0 (R := rI) (xs := [4, 7, 8]) (hq := w4))
      refine va_pick 25 ?_
      refine dq ?_
      refine de (op_alloc KInfo.out) (fun b7 _ => ⟨?_, ?_⟩)
      · refine AllQ.cons rfl q_build (AllQ.cons rfl (q_load_rd0 (R := rI) (xs := [4, 7, 8]) (hq := w4)) (AllQ.cons rfl (q_index_rd (R := rI) (xs := [4, 7, 8]) (hi := by simp; omega)) ?_))
        exact aq
      refine d_storea ⟨?_, ?_⟩
      · exact aq
      refine va_end ?_
      repeat refine sy ?_
      refine s_buildSlice (fun bb => ?_)
      refine so (op_append_one (R := rCho) (E := 33) (xs := bentL key (xs.take i)) (q := bentC key q) rfl KUnd.out KInfo.out (by decide) rfl rfl rfl (by omega)) (fun p' _ => ?_) (Takes.cons (by repeat (first | exact Take.here | apply Take.there)) (Takes.cons (by repeat (first | exact Take.here | apply Take.there)) (Takes.cons (take_cho (a := a1) (c := c1) (by repeat (first | exact Take.keep | apply Take.there))) Takes.nil)))
      rw [← bentL_succ hq]
      repeat refine sy ?_
      exact ag (i + 1, p'.1, p'.2) (by show i + 1 ≤ xs.length; omega) (by show xs.length - (i + 1) < xs.length - i; omega)
    · exact aq
    · refine de (opE_post (res' := fun b => [rd rI (some ⟨b, 0, none⟩) 3 [4, 7, 8]]) oe_buildSlice fun b R w h => Sat.blk_rd (R := rI) (c := 3) (xs := [4, 7, 8]) h (fun f => (rows_ofEnc).2 rfl) (by decide)) (fun b _ => ⟨?_, ?_⟩)
      · exact aq
      refine va_pick 8 ?_
      refine dq ?_ (hq := q_index_rd (R := rI) (xs := [4, 7, 8]) (hi := by simp; omega))
      refine va_pick 9 ?_
      refine dq ?_ (hq := q_load_rd0 (R := rI) (xs := [4, 7, 8]) (hq := w4))
      refine va_pick 25 ?_
      refine dq ?_
      refine d_storea ⟨?_, ?_⟩
      · exact aq
      refine va_end ?_
      repeat refine sy ?_
      refine s_buildSlice (fun bb => ?_)
      refine so (op_append_one (R := rCho) (E := 33) (xs := bentL key (xs.take i)) (q := bentC key q) rfl KUnd.out KInfo.out (by decide) rfl rfl rfl (by omega)) (fun p' _ => ?_) (Takes.cons (by repeat (first | exact Take.here | apply Take.there)) (Takes.cons (by repeat (first | exact Take.here | apply Take.there)) (Takes.cons (take_cho (a := a1) (c := c1) (by repeat (first | exact Take.keep | apply Take.there))) Takes.nil)))
      rw [← bentL_succ hq]
      repeat refine sy ?_
      exact ag (i + 1, p'.1, p'.2) (by show i + 1 ≤ xs.length; omega) (by show xs.length - (i + 1) < xs.length - i; omega)
  · repeat refine sy ?_
    have : i = xs.length := by omega
    subst this
    rw [List.take_length]
    refine vc_take (A := own rCho 33 a' c' (bentL key xs)) (by repeat (first | exact Take.here | apply Take.there)) ?_
    refine vc_own_freeze ?_
    exact en (a', c') trivial
end Go.Proofs.YtikodfclemgfoaaDoor
