/- What a row of choices reads as; the tables, out of what the rows list. -/
import Derived.Test.YtikodfclemgfoaaDoorSbK15
import Derived.Test.YtikodfclemgfoaaDoorSbEnd
import Derived.Test.YtikodfclemgfoaaDoorRows
set_option linter.all false
set_option linter.unusedVariables false
namespace Go.Proofs.YtikodfclemgfoaaDoor
set_option maxRecDepth 100000
open Go.Sb Go.ChangeShapes Go.WideShapes Go.ChangeAt Go.RowKit
theorem cho_of_trod {w : World} {H : Type} {enc : TypeId × Value → H} {sp : Nat → Bool} {held : Bool} (fuel : Nat) (cs : List Value) (x : DataW H × List MemPlace) (h : DataW.trod enc Tryd.prog w 0 sp held fuel 33 cs = some x) : ∃ q, rCho.rel (heapOf w) q cs := by
  have hS : Tryd.prog.underlying 33 = some (.struct (Tryd.prog.fieldsOf 33)) := by kernel_rfl
  have hL : (Tryd.prog.fieldsOf 33).toList.map (fun f => (f.type, f.offset)) = [(3, 0), (9, 1), (9, 2), (29, 3), (3, 4), (3, 5), (31, 6)] := by kernel_rfl
  have hS2 : Tryd.prog.underlying 31 = some (.struct (Tryd.prog.fieldsOf 31)) := by kernel_rfl
  have hL2 : (Tryd.prog.fieldsOf 31).toList.map (fun f => (f.type, f.offset)) = [(9, 0), (9, 1), (3, 2), (3, 3)] := by kernel_rfl
  have ui : Tryd.prog.underlying 3 = some (.int .i64) := KUnd.out
  have us : Tryd.prog.underlying 9 = some .string := KUnd.out
  have ub : Tryd.prog.underlying 29 = some (.slice 5) := KUnd.out
  have u8 : Tryd.prog.underlying 5 = some (.int .u8) := KUnd.out
  have ci : Tryd.prog.cellsOf 3 = 1 := by kernel_rfl
  have cS : Tryd.prog.cellsOf 9 = 1 := by kernel_rfl
  have cb : Tryd.prog.cellsOf 29 = 1 := by kernel_rfl
  have c8 : Tryd.prog.cellsOf 5 = 1 := by kernel_rfl
  have ca : Tryd.prog.cellsOf 31 = 4 := by kernel_rfl
  have cc : Tryd.prog.cellsOf 33 = 10 := by kernel_rfl
  have hlen := trod_len hS h
  rw [cc] at hlen
  obtain ⟨_, _, h0⟩ := trod_at hS hL h (i := 0) rfl
  obtain ⟨_, _, h1⟩ := trod_at hS hL h (i := 1) rfl
  obtain ⟨_, _, h2⟩ := trod_at hS hL h (i := 2) rfl
  obtain ⟨_, _, h3⟩ := trod_at hS hL h (i := 3) rfl
  obtain ⟨_, _, h4⟩ := trod_at hS hL h (i := 4) rfl
  obtain ⟨_, _, h5⟩ := trod_at hS hL h (i := 5) rfl
  obtain ⟨_, _, h6⟩ := trod_at hS hL h (i := 6) rfl
  obtain ⟨_, _, g0⟩ := trod_at hS2 hL2 h6 (i := 0) rfl
  obtain ⟨_, _, g1⟩ := trod_at hS2 hL2 h6 (i := 1) rfl
  obtain ⟨_, _, g2⟩ := trod_at hS2 hL2 h6 (i := 2) rfl
  obtain ⟨_, _, g3⟩ := trod_at hS2 hL2 h6 (i := 3) rfl
  rw [ci] at h0 h4 h5 g2 g3
  rw [cS] at h1 h2 g0 g1
  rw [cb] at h3
  rw [ca] at g0 g1 g2 g3
  obtain ⟨n0, e0, _⟩ := int_of_trod ui h0
  obtain ⟨s1, e1⟩ := txt_of_trod us h1
  obtain ⟨s2, e2⟩ := txt_of_trod us h2
  obtain ⟨a, c, xs, e3, hr⟩ := rd_of_trod (R := rB) ub c8 (fun fuel cs x h => byte_of_trod u8 _ h) h3
  obtain ⟨n4, e4, _⟩ := int_of_trod ui h4
  obtain ⟨n5, e5, _⟩ := int_of_trod ui h5
  obtain ⟨s6, e6⟩ := txt_of_trod us g0
  obtain ⟨s7, e7⟩ := txt_of_trod us g1
  obtain ⟨n8, e8, _⟩ := int_of_trod ui g2
  obtain ⟨n9, e9, _⟩ := int_of_trod ui g3
  match cs, hlen with
  | [v0, v1, v2, v3, v4, v5, v6, v7, v8, v9], _ =>
    simp only [List.drop, List.take, List.cons.injEq, and_true] at e0 e1 e2 e3 e4 e5 e6 e7 e8 e9
    exact ⟨⟨n0, s1, s2, xs, n4, n5, s6, s7, n8, n9⟩, a, c, by simp only [Cho.cells, e0, e1, e2, e3, e4, e5, e6, e7, e8, e9], hr⟩
theorem chos_of_trod {w : World} {base : Nat} {H : Type} {enc : TypeId × Value → H} {sp : Nat → Bool} {held : Bool} {v : Value} {d : DataW H} {p : List MemPlace} (hv : Value.okWide Tryd.prog w .any base 22 v) (h : DataW.Trod enc Tryd.prog w 0 sp held 22 v d p) :
    ∃ a c xs, v = .slice a (List.length xs) c ∧ rdP rCho a c xs (heapOf w) := by
  have ut : Tryd.prog.underlying 22 = some (.slice 33) := KUnd.out
  obtain ⟨b, l, k, rfl⟩ := okWide_slice ut hv
  obtain ⟨fuel, hf⟩ := h
  obtain ⟨a, c, xs, he, hr⟩ := rd_of_trod (R := rCho) ut (by kernel_rfl) (fun fuel cs x h => cho_of_trod fuel cs x h) hf
  refine ⟨a, c, xs, ?_, hr⟩
  simpa [Value.cells] using he
theorem first_eq : Go.Pinned.utf8First = Lib.firstData := by kernel_rfl
theorem accept_eq : (Rows.laid_unicode_utf8_acceptRanges : DataW Unit) = Lib.acceptData := by kernel_rfl
abbrev laidL : List (String × DataW Unit) := [("unicode/utf8.acceptRanges", Rows.laid_unicode_utf8_acceptRanges), ("unicode/utf8.first", Rows.laid_unicode_utf8_first)]
theorem tabs_of_laid {W : World} (h : laidMetH Tryd.prog laidL W) : tabsP 0 1 (heapOf W) := by
  rw [MakeChecks.laidMetH_plain _ _ _ (by kernel_rfl)] at h
  have h3 : Lib.VarReads Tryd.prog W "unicode/utf8.first" Lib.firstData := by
    rw [← first_eq]; exact Lib.laidMet.reads h (List.mem_cons_of_mem _ (List.mem_cons_self ..))
  have h4 : Lib.VarReads Tryd.prog W "unicode/utf8.acceptRanges" Lib.acceptData := by
    rw [← accept_eq]; exact Lib.laidMet.reads h (List.mem_cons_self ..)
  have hfs : (Tryd.prog.fieldsOf 123).toList.map (fun f => (f.type, f.offset)) = [(5, 0), (5, 1)] := by kernel_rfl
  exact tabs_of_reads (u8 := 5) (tF := 121) (tA := 124) (tS := 123) (fs := Tryd.prog.fieldsOf 123) (by kernel_rfl) (by kernel_rfl) (by kernel_rfl) (by kernel_rfl) hfs (by kernel_rfl) (by kernel_rfl) (by kernel_rfl) (by kernel_rfl) (by kernel_rfl) (by kernel_rfl) (by kernel_rfl) h3 h4
end Go.Proofs.YtikodfclemgfoaaDoor
