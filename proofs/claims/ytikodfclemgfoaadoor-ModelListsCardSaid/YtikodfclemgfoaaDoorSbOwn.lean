/- Elements of one's own row that are told by their cells: read, written, in regions of a drawn order too. -/
import Derived.Test.YtikodfclemgfoaaDoorSbDrawAuto
set_option linter.all false
set_option linter.unusedVariables false
namespace Go.Sb
open Go.RowKit
attribute [local irreducible] Go.wpList Go.Code.wp Go.Exit.then Go.Exit.inBlock Go.Sb.Ends Go.Sb.VC Go.Sb.VA
section
variable {P : Program} {N : Nat} {ops : Array Oper} {Q : Exit → Act → World → Prop} {e : Slots} {l m nn : List Asrt} {w0 : World} {done : List Nat} {pend pend' : List (Nat × Value)} {rest : List (Nat × Oper)}
variable {d : Nat} {op : Op} {t : TypeId} {pos : String} {aft : Array Edge} {g : Option (Nat × Bool)} {v : Value} {dst : Option Tmp}
variable {x y : Operand} {n j k c E T : Nat} {cs : List Value} {α : Type} {R : Rel α} {a : Option Addr} {xs : List α} {q q' : α}
theorem take_hold_enc {hn : 0 < n} {enc : α → List Value} {hl : ∀ x, (enc x).length = n} {h1 : ∀ x, ∀ v ∈ enc x, v.oneCell' = true} : Take (hold (Rel.ofEnc n hn enc hl h1) q (enc q)) l l := fun h f p => ⟨PHeap.emp, h, PHeap.emp_le _, PHeap.le_refl _, PHeap.emp_disj _, rfl, p⟩
theorem op_load_own_enc (h1 : agg1 P T n) (hn : n = R.n) (hx : see e x = some (.pointer (some ⟨bk a, of a + j * R.n, none⟩))) (hq : xs[j]? = some q) (hd : ∀ f c, R.rel f q c → c = cs) : OpD P e ⟨dst, .load T x, t, pos, aft, g⟩ [own R E a c xs] (.agg ⟨cs⟩) [own R E a c xs] := by
  have h0 := op_load_own_all (P := P) (E := E) (c := c) (dst := dst) (t := t) (pos := pos) (aft := aft) (g := g) h1 hn hx hq
  unfold OpE at h0
  unfold OpD OpE
  intro ρ hρ A w hs
  refine uponV.mono (h0 ρ hρ A w hs) ?_
  rintro v w' ⟨cs', rfl, _, hs', he⟩
  have := hd _ _ (Sat.rof hs')
  subst this
  exact ⟨(), rfl, trivial, hs'.tail, he⟩
theorem op_index_own_len {n' : Nat} {i : Int} {kk : IntKind} {nn : Nat} (hl : nn = xs.length) (ht : slice1 P T E n') (hx : see e x = some (.slice a nn c)) (hy : see e y = some (.int kk i)) (hi : 0 ≤ i ∧ i < xs.length) : OpD P e ⟨dst, .indexAddr T x y, t, pos, aft, g⟩ [own R E a c xs] (.pointer (some ⟨bk a, of a + i.toNat * n', none⟩)) [own R E a c xs] := by
  subst hl; exact op_index_own ht hx hy hi
theorem q_index_own_len [KSlice P T E n] {i : Int} {kk : IntKind} {nn : Nat} {nn' : List Asrt} (hl : nn = xs.length) (hi : 0 ≤ i ∧ i < xs.length) (hx : see e x = some (.slice a nn c) := by rfl) (hy : see e y = some (.int kk i) := by rfl) (ht : Take (own R E a c xs) l m := by repeat (first | exact Take.here | apply Take.there))
    (hb : Takes l (own R E a c xs :: m) nn' := by repeat (first | exact Takes.nil | (apply Takes.cons; repeat (first | exact Take.keep | exact Take.here | exact take_rd_nil | exact take_own_nil | apply Take.there))))
    (hw : Wants ops e ⟨some d, .indexAddr T x y, t, pos, aft, g⟩ true := by first | exact wants_none | exact wants_some rfl rfl rfl rfl) (hd : Nat.blt d N = true := by rfl) (hlk : look e d = some (.pointer (some ⟨bk a, of a + i.toNat * n, none⟩)) := by rfl) : QtO P N ops e l ⟨some d, .indexAddr T x y, t, pos, aft, g⟩ (.pointer (some ⟨bk a, of a + i.toNat * n, none⟩)) :=
  qt_read (op_index_own_len hl KSlice.out hx hy hi) (.cons ht .nil) hb hw hd hlk
theorem q_loada_own [KAgg P T n] (hq : xs[j]? = some q) (hx : see e x = some (.pointer (some ⟨bk a, of a + j * n, none⟩)) := by rfl) (ht : Take (own R E a c xs) l m := by repeat (first | exact Take.here | apply Take.there))
    (hn : R.n = n := by rfl) (hv : ∀ f c, R.rel f q c → c = cs := by intro f c h; exact h) (hb : Takes l (own R E a c xs :: m) nn := by repeat (first | exact Takes.nil | (apply Takes.cons; repeat (first | exact Take.keep | exact Take.here | exact take_rd_nil | exact take_own_nil | apply Take.there))))
    (hw : Wants ops e ⟨some d, .load T x, t, pos, aft, g⟩ true := by first | exact wants_none | exact wants_some rfl rfl rfl rfl) (hd : Nat.blt d N = true := by rfl) (hlk : look e d = some (.agg ⟨cs⟩) := by rfl) : QtO P N ops e l ⟨some d, .load T x, t, pos, aft, g⟩ (.agg ⟨cs⟩) :=
  qt_read (op_load_own_enc KAgg.out hn.symm (by rw [hn]; exact hx) hq hv) (.cons ht .nil) hb hw hd hlk
theorem op_store_own_enc (h1 : size1 P T R.n) (hx : see e x = some (.pointer (some ⟨bk a, of a + j * R.n, none⟩))) (hy : see e y = some v) (hc : v.cells = ⟨cs⟩) (hj : j < xs.length) (hr : ∀ f, R.rel f q' cs) :
    OpD P e ⟨dst, .store T x y, t, pos, aft, g⟩ [own R E a c xs] undef [own R E a c (xs.set j q')] := by
  have h0 := op_store_own_all (P := P) (E := E) (c := c) (q' := q') (dst := dst) (t := t) (pos := pos) (aft := aft) (g := g) h1 hx hy hc hj
  unfold OpD OpE at h0 ⊢
  intro ρ hρ A w hs
  refine h0 ρ hρ A w ?_
  exact hs.ent (fun h f p => ⟨PHeap.emp, h, PHeap.emp_le _, PHeap.le_refl _, PHeap.emp_disj _, hr f, p⟩)
/-- An element of one's own is set, in a region of a drawn order. -/
theorem d_store_own {i : Nat} [KSize P T n]
    (hj : j < xs.length)
    (h : AllQ P N ops e (own R E a c (xs.set j q') :: m) pend' ∧ VA P N ops Q (i :: (inP (anc2 ops.toList (aftersL aft.toList)) pend ++ done)) pend' rest e (own R E a c (xs.set j q') :: m) w0)
    (hr : ∀ f, R.rel f q' cs := by intro f; rfl)
    (hx : see e x = some (.pointer (some ⟨bk a, of a + j * n, none⟩)) := by rfl) (hy : see e y = some v := by rfl) (hc : v.cells = ⟨cs⟩ := by rfl)
    (ht : Take (own R E a c xs) l m := by repeat (first | exact Take.here | apply Take.there)) (hn : R.n = n := by rfl)
    (hL : Left (anc2 ops.toList (aftersL aft.toList)) pend pend' := by repeat (first | exact Left.nil | (apply Left.drop; rfl) | (apply Left.keep; rfl)))
    (hb : blocked done pend rest = true := by rfl)
    (hg : Wants ops e ⟨none, .store T x y, t, pos, aft, g⟩ true := by first | exact wants_none | exact wants_some rfl rfl rfl rfl) :
    VA P N ops Q done pend ((i, ⟨none, .store T x y, t, pos, aft, g⟩) :: rest) e l w0 := de0 (opD_e (op_store_own_enc (q' := q') (by rw [hn]; exact KSize.out) (by rw [hn]; exact hx) hy hc hj hr)) (fun _ _ => h) hL (.cons ht .nil) hb hg
end
end Go.Sb
