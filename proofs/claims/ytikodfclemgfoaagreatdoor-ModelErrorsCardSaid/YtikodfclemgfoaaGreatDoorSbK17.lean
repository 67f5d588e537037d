/- What a row of choices reads as; the tables, out of what the rows list. -/
import Derived.Test.YtikodfclemgfoaaGreatDoorSbK15
import Derived.Test.YtikodfclemgfoaaGreatDoorSbEnd
import Derived.Test.YtikodfclemgfoaaGreatDoorRows
set_option linter.all false
set_option linter.unusedVariables false
namespace Go.Proofs.YtikodfclemgfoaaGreatDoor
set_option maxRecDepth 100000
open Go.Sb Go.ChangeShapes Go.WideShapes Go.ChangeAt Go.RowKit
theorem cho_of_trod {w : World} {H : Type} {enc : TypeId × Value → H} {sp : Nat → Bool} {held : Bool} (fuel : Nat) (cs : List Value) (x : DataW H × List MemPlace) (h : DataW.trod enc Tryz.prog w 0 sp held fuel 34 cs = some x) : ∃ q, rCho.rel (heapOf w) q cs := by
  have hS : Tryz.prog.underlying 34 = some (.struct (Tryz.prog.fieldsOf 34)) := by kernel_rfl
  have hL : (Tryz.prog.fieldsOf 34).toList.map (fun f => (f.type, f.offset)) = [(3, 0), (9, 1), (9, 2), (30, 3), (3, 4), (3, 5), (32, 6)] := by kernel_rfl
  have hS2 : Tryz.prog.underlying 32 = some (.struct (Tryz.prog.fieldsOf 32)) := by kernel_rfl
  have hL2 : (Tryz.prog.fieldsOf 32).toList.map (fun f => (f.type, f.offset)) = [(9, 0), (9, 1), (3, 2), (3, 3)] := by kernel_rfl
  have ui : Tryz.prog.underlying 3 = some (.int .i64) := KUnd.out
  have us : Tryz.prog.underlying 9 = some .string := KUnd.out
  have ub : Tryz.prog.underlying 30 = some (.slice 5) := KUnd.out
  have u8 : Tryz.prog.underlying 5 = some (.int .u8) := KUnd.out
  have ci : Tryz.prog.cellsOf 3 = 1 := by kernel_rfl
  have cS : Tryz.prog.cellsOf 9 = 1 := by kernel_rfl
  have cb : Tryz.prog.cellsOf 30 = 1 := by kernel_rfl
  have c8 : Tryz.prog.cellsOf 5 = 1 := by kernel_rfl
  have ca : Tryz.prog.cellsOf 32 = 4 := by kernel_rfl
  have cc : Tryz.prog.cellsOf 34 = 10 := by kernel_rfl
  have hlen := trod_len hS h
  rw [cc] at hlen
  obtain ⟨_, _, h0⟩ := trod_at hS hL h (i := 0) rfl
  obtain ⟨_, _, h1⟩ := trod_at hS hL h (i := 1) rfl
  obtain ⟨_, _, h2⟩ := trod_at hS hL h (i := 2) rfl
  obtain ⟨_, _, h3⟩ := trod_at hS hL h (i := 3) rfl
  obtain ⟨_, _, h4⟩ := trod_at hS hL h (i := 4) rfl
  obtain ⟨_, _, h5⟩ := trod_at hS hL h (i := 5) rfl
  obtain ⟨_, _, h6⟩ := trod_at hS hL h (i := 6) rfl
  obtain ⟨_, _, g0⟩ := trod_at hS2 hL2 h6 (i := 0) rfl
  obtain ⟨_, _, g1⟩ := trod_at hS2 hL2 h6 (i := 1) rfl
  obtain ⟨_, _, g2⟩ := trod_at hS2 hL2 h6 (i := 2) rfl
  obtain ⟨_, _, g3⟩ := trod_at hS2 hL2 h6 (i := 3) rfl
  rw [ci] at h0 h4 h5 g2 g3
  rw [cS] at h1 h2 g0 g1
  rw [cb] at h3
  rw [ca] at g0 g1 g2 g3
  obtain ⟨n0, e0, _⟩ := int_of_trod ui h0
  obtain ⟨s1, e1⟩ := txt_of_trod us h1
  obtain ⟨s2, e2⟩ := txt_of_trod us h2
  obtain ⟨a, c, xs, e3, hr⟩ := rd_of_trod (R := rB) ub c8 (fun fuel cs x h => byte_of_trod u8 _ h) h3
  obtain ⟨n4, e4, _⟩ := int_of_trod ui h4
  obtain ⟨n5, e5, _⟩ := int_of_trod ui h5
  obtain ⟨s6, e6⟩ := txt_of_trod us g0
  obtain ⟨s7, e7⟩ := txt_of_trod us g1
  obtain ⟨n8, e8, _⟩ := int_of_trod ui g2
  obtain ⟨n9, e9, _⟩ := int_of_trod ui g3
  match cs, hlen with
  | [v0, v1, v2, v3, v4, v5, v6, v7, v8, v9], _ =>
    simp only [List.drop, List.take, List.cons.injEq, and_true] at e0 e1 e2 e3 e4 e5 e6 e7 e8 e9
    exact ⟨⟨n0, s1, s2, xs, n4, n5, s6, s7, n8, n9⟩, a, c, by simp only [Cho.cells, e0, e1, e2, e3, e4, e5, e6, e7, e8, e9], hr⟩
theorem chos_of_trod {w : World} {base : Nat} {H : Type} {enc : TypeId × Value → H} {sp : Nat → Bool} {held : Bool} {v : Value} {d : DataW H} {p : List MemPlace} (hv : Value.okWide Tryz.prog w .any base 22 v) (h : DataW.Trod enc Tryz.prog w 0 sp held 22 v d p) :
    ∃ a c xs, v = .slice a (List.length xs) c ∧ rdP rCho a c xs (heapOf w) := by
  have ut : Tryz.prog.underlying 22 = some (.slice 34) := KUnd.out
  obtain ⟨b, l, k, rfl⟩ := okWide_slice ut hv
  obtain ⟨fuel, hf⟩ := h
  obtain ⟨a, c, xs, he, hr⟩ := rd_of_trod (R := rCho) ut (by kernel_rfl) (fun fuel cs x h => cho_of_trod fuel cs x h) hf
  refine ⟨a, c, xs, ?_, hr⟩
  simpa [Value.cells] using he
theorem first_eq : Go.Pinned.utf8First = Lib.firstData := by kernel_rfl
theorem accept_eq : (Rows.laid_unicode_utf8_acceptRanges : DataW Unit) = Lib.acceptData := by kernel_rfl
abbrev laidL : List (String × DataW Unit) := [("unicode/utf8.acceptRanges", Rows.laid_unicode_utf8_acceptRanges), ("unicode/utf8.first", Rows.laid_unicode_utf8_first)]
theorem tabs_of_laid {W : World} (h : laidMetH Tryz.prog laidL W) : tabsP 0 1 (heapOf W) := by
  rw [MakeChecks.laidMetH_plain _ _ _ (by kernel_rfl)] at h
  have h3 : Lib.VarReads Tryz.prog W "unicode/utf8.first" Lib.firstData := by
    rw [← first_eq]; exact Lib.laidMet.reads h (List.mem_cons_of_mem _ (List.mem_cons_self ..))
  have h4 : Lib.VarReads Tryz.prog W "unicode/utf8.acceptRanges" Lib.acceptData := by
    rw [← accept_eq]; exact Lib.laidMet.reads h (List.mem_cons_self ..)
  have hfs : (Tryz.prog.fieldsOf 133).toList.map (fun f => (f.type, f.offset)) = [(5, 0), (5, 1)] := by kernel_rfl
  exact tabs_of_reads (u8 := 5) (tF := 131) (tA := 134) (tS := 133) (fs := Tryz.prog.fieldsOf 133) (by kernel_rfl) (by kernel_rfl) (by kernel_rfl) (by kernel_rfl) hfs (by kernel_rfl) (by kernel_rfl) (by kernel_rfl) (by kernel_rfl) (by kernel_rfl) (by kernel_rfl) (by kernel_rfl) h3 h4
end Go.Proofs.YtikodfclemgfoaaGreatDoor
