/- From a row's premise to the chunks, and from a contract to a row's end. -/
import Derived.Test.YtikodfclemgfoaaDoorSbTabs
import Derived.Carry
import Derived.ChangeArms
import Derived.Lib.LaidU8
import Derived.ProofKit
import Derived.OpenShut
import Derived.LaidMore
import Derived.Lay
set_option linter.all false
set_option linter.unusedVariables false
namespace Go.Sb
open Go.RowKit
/-- All that was there is there still. -/
def keepAll (w : World) : Asrt := rof (fun f => PHeap.le (heapOf w) f) (fun y h => PHeap.le_trans h y)
instance (w : World) : Pers (keepAll w) := inferInstanceAs (Pers (rof _ _))
theorem below_of {w w' : World} (h : PHeap.le (heapOf w) (heapOf w')) (e : Env w w') : Below w.heap.size w w' := by
  refine ⟨e.os, e.tape, e.output, ?_, fun k hk => ?_⟩
  · rcases Nat.eq_zero_or_pos w.heap.size with h0 | h0
    · omega
    · have h1 : w.heap[w.heap.size - 1]? = some (w.heap[w.heap.size - 1]'(by omega)) := Array.getElem?_eq_getElem (by omega)
      have h2 := (Array.getElem?_eq_some_iff.1 (h _ _ h1)).1
      omega
  · have h1 : w.heap[k]? = some (w.heap[k]'hk) := Array.getElem?_eq_getElem hk
    rw [h1]; exact h _ _ h1
/-- Frozen facts of a world, at its begin. -/
theorem Sat.begin_with {w : World} {p : PHeap → Prop} {hm} (hp : p (heapOf w)) {l : List Asrt} (h : Sat l w) (hl : ∀ h f, (all l).holds h f → PHeap.le (heapOf w) f) : Sat (Sb.rof p hm :: l) w := by
  obtain ⟨a, f, d, x, y, r⟩ := h
  exact ⟨a, f, d, x, y, PHeap.emp, a, PHeap.emp_le _, PHeap.le_refl _, PHeap.emp_disj _, hm (hl a f r) hp, r⟩
theorem Sat.begin_keep (w : World) : Sat [keepAll w] w := Sat.begin w
/-- A contract with frozen chunks alone, at a world: what it comes to. -/
theorem Does.at_begin {P : Program} {f : FuncId} {args : Array Value} {pre : List Asrt} {v : Value} {w : World} (h : Does P f args pre (fun _ : Unit => v) (fun _ => True) (fun _ => [])) (hs : Sat (pre ++ [keepAll w]) w) :
    Calls P f args w fun e w' => e = .returned v ∧ Below w.heap.size w w' :=
  (h (keepAll w) w hs).mono fun _ _ ⟨_, he, _, hs', hv⟩ => ⟨he, below_of (Sat.rof hs') hv⟩
section
variable {P : Program} {w : World} {H : Type} {enc : TypeId × Value → H} {sp : Nat → Bool} {held : Bool} {α : Type}
theorem rows_of {R : Rel α} {f : PHeap} : ∀ {xs : List α} {cs : List Value}, cs.length = xs.length * R.n → (∀ i x, xs[i]? = some x → R.rel f x ((cs.drop (i * R.n)).take R.n)) → rows R f xs cs
  | [], cs, hl, _ => by
    have : cs = [] := List.length_eq_zero_iff.1 (by simpa using hl)
    exact this
  | x :: xs, cs, hl, h => by
    refine ⟨cs.take R.n, cs.drop R.n, (List.take_append_drop _ _).symm, by simpa using h 0 x rfl, rows_of ?_ fun i y hy => ?_⟩
    · simp only [List.length_cons, Nat.succ_mul] at hl; simp; omega
    · have := h (i + 1) y (by simpa using hy)
      rw [List.drop_drop]
      have e : R.n + i * R.n = (i + 1) * R.n := by rw [Nat.succ_mul]; omega
      rw [e]; exact this
theorem choose_list {p : Nat → α → Prop} : ∀ n : Nat, (∀ i, i < n → ∃ q, p i q) → ∃ xs : List α, xs.length = n ∧ ∀ i x, xs[i]? = some x → p i x
  | 0, _ => ⟨[], rfl, fun i x h => by simp at h⟩
  | n + 1, h => by
    obtain ⟨xs, h1, h2⟩ := choose_list n fun i hi => h i (by omega)
    obtain ⟨q, hq⟩ := h n (by omega)
    refine ⟨xs ++ [q], by simp [h1], fun i x hx => ?_⟩
    rcases Nat.lt_or_ge i xs.length with hi | hi
    · rw [List.getElem?_append_left hi] at hx; exact h2 i x hx
    · rw [List.getElem?_append_right hi] at hx
      have : i - xs.length = 0 := by
        rcases Nat.eq_zero_or_pos (i - xs.length) with h0 | h0
        · exact h0
        · rw [List.getElem?_eq_none (by simp; omega)] at hx; cases hx
      rw [this] at hx
      simp at hx
      subst hx
      have : i = n := by omega
      rw [this]; exact hq
theorem heap_of_cell {a : Addr} {v : Value} (h : w.cell? a = some v) : ∃ c E fr, w.heap[a.block]? = some (.cells c E fr) ∧ a.spot = none ∧ c[a.off]? = some v := by
  unfold World.cell? at h
  split at h
  · rename_i c E fr hh
    split at h
    · cases h
    · rename_i hs
      exact ⟨c, E, fr, hh, by simpa using hs, h⟩
  · cases h
/-- A slice that is read: a row that is kept for good. -/
theorem rd_of_trod {R : Rel α} {t e : TypeId} {fuel : Nat} {cs : List Value} {x : DataW H × List MemPlace} (ht : P.underlying t = some (.slice e)) (hn : P.cellsOf e = R.n)
    (hE : ∀ fuel cs x, DataW.trod enc P w 0 sp held fuel e cs = some x → ∃ q, R.rel (heapOf w) q cs) (h : DataW.trod enc P w 0 sp held fuel t cs = some x) :
    ∃ a c xs, cs = [.slice a xs.length c] ∧ rdP R a c xs (heapOf w) := by
  rcases DataW.trod_slice ht h with ⟨rfl, _⟩ | ⟨a, len, cap, elems, rest, n, _, rfl, _, _, hlc, hcm, hlen, hel, _, _⟩
  · exact ⟨none, 0, ([] : List α), rfl, ⟨by simp, by simp⟩, fun h => absurd rfl h⟩
  · have key : ∀ i, i < len → ∃ q : α × List Value, w.cells? 0 (a.add (i * R.n)) R.n = some q.2 ∧ R.rel (heapOf w) q.1 q.2 := by
      intro i hi
      have h1 := hel i hi
      rw [hn, List.getElem?_eq_getElem (by omega)] at h1
      obtain ⟨cs', h2, h3⟩ := Option.bind_eq_some_iff.1 h1
      obtain ⟨q, hq⟩ := hE _ _ _ h3
      exact ⟨(q, cs'), h2, hq⟩
    obtain ⟨ys, hy1, hy2⟩ := choose_list len key
    refine ⟨some a, cap, ys.map (·.1), by simp [hy1], ⟨by simp [hy1]; exact hlc, by simp [hy1]; omega⟩, fun hne => ?_⟩
    have h0 : 0 < len := by
      rcases Nat.eq_zero_or_pos len with h0 | h0
      · exfalso; apply hne; have : ys = [] := List.length_eq_zero_iff.1 (by omega)
        rw [this]; rfl
      · exact h0
    have cell : ∀ i k, i < len → k < R.n → ∃ y, ys[i]? = some y ∧ w.cell? (a.add (i * R.n + k)) = y.2[k]? ∧ y.2.length = R.n := by
      intro i k hi hk
      obtain ⟨y, hy⟩ : ∃ y, ys[i]? = some y := ⟨ys[i]'(by omega), List.getElem?_eq_getElem (by omega)⟩
      obtain ⟨h1, _⟩ := hy2 i y hy
      obtain ⟨_, h2, h3⟩ := World.cells?_some h1
      refine ⟨y, hy, ?_, h2⟩
      rw [← h3 k hk, Addr.add_add]
    obtain ⟨y0, hy0, hc0, hl0⟩ := cell 0 0 h0 R.pos
    obtain ⟨v0, hv0⟩ : ∃ v, y0.2[0]? = some v := ⟨y0.2[0]'(by have := R.pos; omega), List.getElem?_eq_getElem (by have := R.pos; omega)⟩
    rw [hv0] at hc0
    simp only [Nat.zero_mul, Nat.add_zero, Addr.add, if_true] at hc0
    obtain ⟨c, E, fr, hh, hsp, hc⟩ := heap_of_cell hc0
    obtain ⟨blk, off, spot⟩ := a
    simp only at hh hsp hc
    subst hsp
    have at_ : ∀ i k, i < len → k < R.n → ∃ y, ys[i]? = some y ∧ c.toList[off + i * R.n + k]? = y.2[k]? ∧ y.2.length = R.n := by
      intro i k hi hk
      obtain ⟨y, hy, hcc, hl⟩ := cell i k hi hk
      refine ⟨y, hy, ?_, hl⟩
      rw [← hcc, add_plain]
      simp only [World.cell?, hh, Option.isSome_none, Bool.false_eq_true, if_false, Array.getElem?_toList]
      congr 1; omega
    have hbig : off + len * R.n ≤ c.toList.length := by
      obtain ⟨y, hy, h1, h2⟩ := at_ (len - 1) (R.n - 1) (by omega) (by have := R.pos; omega)
      rw [List.getElem?_eq_getElem (show R.n - 1 < y.2.length by have := R.pos; omega)] at h1
      have := (List.getElem?_eq_some_iff.1 h1).1
      have h3 : len * R.n = (len - 1) * R.n + R.n := by rw [← Nat.succ_mul]; congr 1; omega
      have := R.pos
      omega
    have hcl : ((c.toList.drop off).take (len * R.n)).length = len * R.n := by simp; simp at hbig; omega
    refine ⟨blk, off, c.toList, E, fr, (c.toList.drop off).take (len * R.n), rfl, hh, ?_, by rw [hcl]⟩
    refine rows_of (by rw [hcl]; simp [hy1]) fun i q hq => ?_
    rw [List.getElem?_map] at hq
    obtain ⟨y, hy, rfl⟩ := Option.map_eq_some_iff.1 hq
    have hi : i < len := by have := (List.getElem?_eq_some_iff.1 hy).1; omega
    obtain ⟨_, hrel⟩ := hy2 i y hy
    have : ((((c.toList.drop off).take (len * R.n)).drop (i * R.n)).take R.n) = y.2 := by
      have hyl : y.2.length = R.n := R.len hrel
      have hin : i * R.n + R.n ≤ len * R.n := by rw [← Nat.succ_mul]; exact Nat.mul_le_mul_right _ hi
      apply List.ext_getElem?
      intro k
      rcases Nat.lt_or_ge k R.n with hk | hk
      · obtain ⟨y', hy', h1, _⟩ := at_ i k hi hk
        rw [hy] at hy'; cases hy'
        rw [List.getElem?_take, if_pos hk, List.getElem?_drop, List.getElem?_take, if_pos (by omega), List.getElem?_drop, ← h1]
        congr 1; omega
      · rw [List.getElem?_take, if_neg (by omega), List.getElem?_eq_none (by omega)]
    rw [this]; exact hrel
/-- A field of a struct that is read. -/
theorem trod_at {t : TypeId} {fs : Array Field} {fuel : Nat} {cs : List Value} {x : DataW H × List MemPlace} {L : List (TypeId × Nat)} (ht : P.underlying t = some (.struct fs)) (hL : fs.toList.map (fun f => (f.type, f.offset)) = L)
    (h : DataW.trod enc P w 0 sp held fuel t cs = some x) {i : Nat} {t' : TypeId} {o : Nat} (hi : L[i]? = some (t', o)) : ∃ n y, DataW.trod enc P w 0 sp held n t' ((cs.drop o).take (P.cellsOf t')) = some y := by
  obtain ⟨xs, n, _, _, _, hl, hall⟩ := DataW.trod_struct ht h
  rw [← hL, List.getElem?_map] at hi
  obtain ⟨f, hf, he⟩ := Option.map_eq_some_iff.1 hi
  cases he
  have hf' : fs[i]? = some f := by simpa using hf
  have h1 := hall i f hf'
  have hlt : i < xs.length := by rw [hl]; exact (Array.getElem?_eq_some_iff.1 hf').1
  rw [List.getElem?_eq_getElem hlt] at h1
  exact ⟨n, _, h1⟩
theorem trod_len {t : TypeId} {fs : Array Field} {fuel : Nat} {cs : List Value} {x : DataW H × List MemPlace} (ht : P.underlying t = some (.struct fs)) (h : DataW.trod enc P w 0 sp held fuel t cs = some x) : cs.length = P.cellsOf t := by
  obtain ⟨_, _, _, _, hl, _⟩ := DataW.trod_struct ht h; exact hl
theorem txt_of_trod {t : TypeId} {fuel : Nat} {cs : List Value} {x : DataW H × List MemPlace} (ht : P.underlying t = some .string) (h : DataW.trod enc P w 0 sp held fuel t cs = some x) : ∃ s : List UInt8, cs = [str s] := by
  obtain ⟨s, rfl, _⟩ := DataW.trod_string ht h
  exact ⟨s.data.toList, rfl⟩
theorem int_of_trod {t : TypeId} {k : IntKind} {fuel : Nat} {cs : List Value} {x : DataW H × List MemPlace} (ht : P.underlying t = some (.int k)) (h : DataW.trod enc P w 0 sp held fuel t cs = some x) : ∃ n, cs = [.int k n] ∧ (Lit.int k n).wf = true := by
  obtain ⟨n, rfl, _, hw⟩ := DataW.trod_int ht h
  exact ⟨n, rfl, hw⟩
theorem byte_of_trod {t : TypeId} {fuel : Nat} {cs : List Value} {x : DataW H × List MemPlace} (ht : P.underlying t = some (.int .u8)) (f : PHeap) (h : DataW.trod enc P w 0 sp held fuel t cs = some x) : ∃ q, rB.rel f q cs := by
  obtain ⟨n, rfl, hw⟩ := int_of_trod ht h
  have hn : 0 ≤ n ∧ n ≤ 255 := by simpa [Lit.wf, IntKind.min, IntKind.max, IntKind.signed, IntKind.bits] using hw
  refine ⟨UInt8.ofNat n.toNat, ?_⟩
  show [Value.int .u8 n] = [.int .u8 (UInt8.ofNat n.toNat).toNat]
  rw [UInt8.toNat_ofNat_of_lt' (by show n.toNat < 256; omega)]
  congr 2; omega
/-- The tables, out of what a row lists. -/
theorem tabs_of_reads {gF gA u8 tF tA tS : Nat} {fs : Array Field} (u5 : P.underlying u8 = some (.int .u8)) (uF : P.underlying tF = some (.array 256 u8)) (uA : P.underlying tA = some (.array 16 tS)) (uS : P.underlying tS = some (.struct fs))
    (hfs : fs.toList.map (fun f => (f.type, f.offset)) = [(u8, 0), (u8, 1)]) (c5 : P.cellsOf u8 = 1) (cF : P.cellsOf tF = 256) (cS : P.cellsOf tS = 2)
    (nF : P.globalNamed "unicode/utf8.first" = some gF) (nA : P.globalNamed "unicode/utf8.acceptRanges" = some gA) (yF : (P.globals[gF]?).map (·.type) = some tF) (yA : (P.globals[gA]?).map (·.type) = some tA)
    (h3 : Lib.VarReads P w "unicode/utf8.first" Lib.firstData) (h4 : Lib.VarReads P w "unicode/utf8.acceptRanges" Lib.acceptData) : tabsP gF gA (heapOf w) := by
  have hf2 : ∀ (i : Nat) (f : Field), fs[i]? = some f → P.underlying f.type = some (.int .u8) ∧ f.offset = i ∧ P.cellsOf f.type = 1 := by
    intro i f hf
    have h1 : (fs.toList.map (fun f => (f.type, f.offset)))[i]? = some (f.type, f.offset) := by rw [List.getElem?_map]; simp [hf]
    rw [hfs] at h1
    match i, h1 with
    | 0, h1 => simp at h1; rw [← h1.1, ← h1.2]; exact ⟨u5, rfl, c5⟩
    | 1, h1 => simp at h1; rw [← h1.1, ← h1.2]; exact ⟨u5, rfl, c5⟩
    | i + 2, h1 => simp at h1
  have hsz : fs.size = 2 := by have := congrArg List.length hfs; simpa using this
  have kF : ∀ c, c < 256 → w.cell? ⟨gF, c, none⟩ = some (.int .u8 (Lib.firstT c)) := by
    intro c hc
    obtain ⟨g, t, cs, fuel, p, hg, hty, hvar, hd⟩ := h3
    obtain rfl := Option.some.inj (nF.symm.trans hg)
    obtain rfl := Option.some.inj (yF.symm.trans hty)
    have hcs := Lib.cells_of_tab uF u5 c5 cF hd
    have := World.var?_cell hg hvar c
    rw [this, ← Array.getElem?_toList, hcs]
    simp [Lib.firstTab, hc]
  have kA : ∀ i, i < 16 → w.cell? ⟨gA, 2 * i, none⟩ = some (.int .u8 (Lib.accLo i)) ∧ w.cell? ⟨gA, 2 * i + 1, none⟩ = some (.int .u8 (Lib.accHi i)) := by
    intro i hi
    obtain ⟨g, t, cs, fuel, p, hg, hty, hvar, hd⟩ := h4
    obtain rfl := Option.some.inj (nA.symm.trans hg)
    obtain rfl := Option.some.inj (yA.symm.trans hty)
    obtain ⟨fuel', d, q, hdi, he⟩ := Lib.array_elem uA hd i hi
    simp only [List.getElem?_map, List.getElem?_range hi, Option.map_some, Option.some.injEq] at hdi
    subst hdi
    rw [cS] at he
    have hcs := Lib.ints_of_struct uS hf2 (by rw [cS, hsz]) he
    have e0 := congrArg (·[0]?) hcs
    have e1 := congrArg (·[1]?) hcs
    simp only [List.getElem?_take, List.getElem?_drop] at e0 e1
    constructor
    · rw [World.var?_cell hg hvar (2 * i), ← Array.getElem?_toList]
      simpa [Nat.mul_comm] using e0
    · rw [World.var?_cell hg hvar (2 * i + 1), ← Array.getElem?_toList]
      simpa [Nat.mul_comm] using e1
  obtain ⟨c, E, r, h1, _, h2⟩ := heap_of_cell (kF 0 (by decide))
  obtain ⟨c', E', r', h1', _, h2'⟩ := heap_of_cell (kA 0 (by decide)).1
  refine ⟨c.toList, E, r, c'.toList, E', r', h1, h1', fun k hk => ?_, fun i hi => ⟨?_, ?_⟩⟩
  · have := kF k hk
    simp only [World.cell?, h1, Option.isSome_none, Bool.false_eq_true, if_false] at this
    simpa using this
  · have := (kA i hi).1
    simp only [World.cell?, h1', Option.isSome_none, Bool.false_eq_true, if_false] at this
    simpa using this
  · have := (kA i hi).2
    simp only [World.cell?, h1', Option.isSome_none, Bool.false_eq_true, if_false] at this
    simpa using this
end
end Go.Sb
