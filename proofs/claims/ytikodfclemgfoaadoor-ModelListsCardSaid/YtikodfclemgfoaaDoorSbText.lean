/- Texts: conversions, ranges over a text, equality of structs. -/
import Derived.Test.YtikodfclemgfoaaDoorSbRange
import Derived.Laws.IdiomStrings
import Derived.Laws.StructEq
set_option linter.all false
set_option linter.unusedVariables false
set_option linter.unusedSimpArgs false
namespace Go.Sb
open Go.RowKit
open Go.ChangeMaps (setBlock)
attribute [local irreducible] Go.wpList Go.Code.wp Go.Exit.then Go.Exit.inBlock Go.Sb.Ends Go.Sb.VC
section
variable {P : Program} {e : Slots} {x y z : Operand} {u v : Value} {dst : Option Tmp} {t : TypeId} {pos : String} {aft : Array Edge} {g : Option (Nat × Bool)} {b r n c : Nat} {T E K src dt : TypeId} {a : Option Addr} {xs : List UInt8}
/-- string(b) -/
theorem op_bytes_str (hs : P.underlying src = some (.slice E)) (he : P.underlying E = some (.int .u8)) (hd : P.underlying dt = some .string) (hx : see e x = some (.slice a xs.length c)) :
    OpD P e ⟨dst, .convert src dt x, t, pos, aft, g⟩ [rd rB a c xs] (str xs) [] := fun ρ hρ => op_of_run fun A w hsat => by
  refine ⟨(), w, ?_, trivial, hsat.tail, Env.refl w⟩
  cases a with
  | none =>
    have : xs = [] := by
      by_cases h : xs = []
      · exact h
      · obtain ⟨g', o, l, E', fr, cs, h1, _⟩ := (Sat.rd hsat).2 h; cases h1
    subst this
    simp only [execOp, hρ x _ hx, Sem.run_bind, run_convert_bytes_string w src dt E none _ c hs he hd, Conv.bytesToString, Sem.run_pure, Result.andThen_ok]
    rfl
  | some a =>
    have hc : ∀ j (hj : j < xs.length), w.cell? (a.add j) = some (.int .u8 (xs[j].toNat : Int)) := fun j hj => by
      obtain ⟨l, E', fr, cs, h1, h2, h3, h4⟩ := Sat.rd_at hsat (List.getElem?_eq_getElem hj)
      have hrel : cs = [.int .u8 (xs[j].toNat : Int)] := Sat.rof h4
      obtain ⟨g', o, l', E2, fr2, cs2, h5, _⟩ := (Sat.rd hsat).2 (fun h => by subst h; cases hj)
      cases h5
      have e1 : (rB.n) = 1 := rfl
      simp only [bk, of, e1, Nat.mul_one] at h1 h2 h3
      rw [hrel] at h3
      have h6 : l[o + j]? = some (.int .u8 (xs[j].toNat : Int)) := by
        have := congrArg (·[0]?) h3
        simpa [List.getElem?_take, List.getElem?_drop] using this
      have hadd : (⟨g', o, none⟩ : Addr).add j = ⟨g', o + j, none⟩ := add_plain _ _ _
      rw [hadd]
      simp [World.cell?, h1, h6]
    simp only [execOp, hρ x _ hx, Sem.run_bind, run_convert_bytes_back w src dt E a c xs hs he hd hc, Sem.run_pure, Result.andThen_ok]
/-- '[]byte("..")' of a constant: the row that was built, marked. -/
theorem op_mark {ls : List Value} {k : Nat} (heq : (src == dt) = true) (hs : P.underlying src = some (.slice E)) (he : P.underlying E = some (.int .u8)) (hx : see e x = some (.slice (some ⟨b, 0, none⟩) xs.length k)) (hl : ls = xs.flatMap encByte) (hk : xs.length ≤ k ∧ xs.length ≤ maxLen) :
    OpD P e ⟨dst, .convert src dt x, t, pos, aft, g⟩ [blk b E ls] (.slice (some ⟨b, 0, none⟩) xs.length k) [rd rB (some ⟨b, 0, none⟩) k xs] := fun ρ hρ => by
  intro R w hsat
  have hd : P.underlying dt = some (.slice E) := by have := eq_of_beq heq; rw [← this]; exact hs
  have hp := hsat.pts
  have hlt : b < w.heap.size := (Array.getElem?_eq_some_iff.1 hp).1
  have hsh : w.shape? b = some (E, ls.length) := by simp [World.shape?, hp]
  have hrun : (convert src dt (.slice (some ⟨b, 0, none⟩) xs.length k)).run P w = .ok (.slice (some ⟨b, 0, none⟩) xs.length k) (w.freeze ⟨b, ls.length, none⟩ 1) := by
    simp [convert, run_underlying hs, run_underlying hd, run_underlying he, heq, markStringish, hsh, Result.andThen]
  simp only [execOp, hρ x _ hx, Sem.run_bind, hrun, Result.andThen_ok, Sem.run_pure]
  refine ⟨(), rfl, trivial, ?_, ⟨rfl, rfl, rfl⟩⟩
  have h2 : Sat (Sb.pts b (.cells ⟨ls⟩ E (ls.length, ls.length + 1)) :: [R]) (w.freeze ⟨b, ls.length, none⟩ 1) :=
    hsat.write (by simp [World.freeze, Array.getElem?_modify, hp]) (fun j hj _ => by simp [World.freeze, Array.getElem?_modify, Ne.symm hj])
  refine h2.freeze.ent (star_mono (fun h f p => ⟨hk, fun _ => ⟨b, 0, ls, E, _, ls, rfl, p, ?_, by simp⟩⟩) (Ent.refl _))
  rw [hl]; exact rows_ofEnc.2 rfl
theorem op_buildSlice0 {ps : Array (Nat × Operand)} (hp : ps = #[]) (ht : P.underlying T = some (.slice E)) {zl : List Value} {sz by' : Nat} (hz : info1 P E zl sz by') : OpE P e ⟨dst, .buildSlice T 0 ps, t, pos, aft, g⟩ [] (fun b : Nat => .slice (some ⟨b, 0, none⟩) 0 0) (fun _ => True) (fun _ => []) := fun ρ hρ R w hs => by
  subst hp
  obtain ⟨i, zv, hi, _⟩ := hz.parts
  simp [execOp, Instr.buildSlice, run_underlying ht, sizeOf, typeInfo, hi, Instr.fill, newRow, Result.andThen, uponV]
  exact ⟨(hs.alloc _).tail, ⟨rfl, rfl, rfl⟩⟩
/-- A range over a text. -/
abbrev it (r : Nat) (s : List UInt8) (p : Nat) : Asrt := pts r (.stringIter ⟨⟨s⟩⟩ p)
theorem op_range_str {s : List UInt8} (ht : P.underlying T = some .string) (hx : see e x = some (str s)) : OpE P e ⟨dst, .range T x, t, pos, aft, g⟩ [] (fun r : Nat => .pointer (some ⟨r, 0, none⟩)) (fun _ => True) (fun r => [it r s 0]) := fun ρ hρ R w hs => by
  simp only [execOp, hρ x _ hx, Instr.range, Sem.run_bind, run_underlying ht, Result.andThen_ok, Sem.run_pure, run_newObj]
  exact ⟨w.heap.size, rfl, trivial, hs.alloc _, ⟨rfl, rfl, rfl⟩⟩
theorem op_next_over {s : List UInt8} {p : Nat} (hp : s.length ≤ p) (hx : see e x = some (.pointer (some ⟨r, 0, none⟩))) : OpD P e ⟨dst, .next x true, t, pos, aft, g⟩ [it r s p] (.tuple #[.bool false]) [it r s p] := fun ρ hρ => by
  intro R w hs
  have hpt := hs.pts
  have hsz : ¬ p < (⟨⟨s⟩⟩ : ByteArray).size := by show ¬ p < s.length; omega
  have hrun : (Instr.next (.pointer (some ⟨r, 0, none⟩)) true t).run P w = .ok (.tuple #[.bool false]) w := by
    simp only [Instr.next, getObj, Sem.run_bind, Sem.run, hpt, Result.andThen, if_neg hsz]
    rfl
  simp only [execOp, hρ x _ hx, Sem.run_bind, hrun, Result.andThen_ok, Sem.run_pure]
  exact ⟨(), rfl, trivial, hs, Env.refl w⟩
theorem op_next_str {s : List UInt8} {p ch wd : Nat} (hp : p < s.length) (hd : Utf8.decode ⟨⟨s⟩⟩ p = (ch, wd)) (hx : see e x = some (.pointer (some ⟨r, 0, none⟩))) :
    OpD P e ⟨dst, .next x true, t, pos, aft, g⟩ [it r s p] (.tuple #[.bool true, .int .i64 p, .int .i32 ch]) [it r s (p + wd)] := fun ρ hρ => by
  intro R w hs
  have hpt := hs.pts
  have hsz : p < (⟨⟨s⟩⟩ : ByteArray).size := hp
  have hlt : r < w.heap.size := (Array.getElem?_eq_some_iff.1 hpt).1
  have hrun : (Instr.next (.pointer (some ⟨r, 0, none⟩)) true t).run P w = .ok (.tuple #[.bool true, .int .i64 p, .int .i32 ch]) (setBlock w r (.stringIter ⟨⟨s⟩⟩ (p + wd))) := by
    simp only [Instr.next, getObj, setObj, Sem.run_bind, Sem.run, hpt, Result.andThen, if_pos hsz, hd]
    rfl
  simp only [execOp, hρ x _ hx, Sem.run_bind, hrun, Result.andThen_ok, Sem.run_pure]
  refine ⟨(), rfl, trivial, hs.write (by simp [setBlock, hlt]) (fun j hj _ => by simp [setBlock, Ne.symm hj]), ⟨rfl, rfl, rfl⟩⟩
/-- Structs held against each other. -/
theorem op_eq_of {us vs : Array Value} {bb : Bool} {xt yt : TypeId} (hg : P.eqGuardType P.depth xt = false) (hb : ∀ w, (binOp .eql xt (.agg us) (.agg vs)).run P w = .ok (.bool bb) w) (hx : see e x = some (.agg us)) (hy : see e y = some (.agg vs)) :
    OpV P e ⟨dst, .binOp .eql xt x y yt, t, pos, aft, g⟩ (.bool bb) := fun ρ hρ w => by
  simp only [execOp, hρ x _ hx, hρ y _ hy, Sem.run_bind, run_eqGuard_agg w .eql xt x y us vs hg, Result.andThen_ok, hb, Sem.run_pure]
theorem op_ne_of {us vs : Array Value} {bb : Bool} {xt yt : TypeId} (hg : P.eqGuardType P.depth xt = false) (hb : ∀ w, (binOp .neq xt (.agg us) (.agg vs)).run P w = .ok (.bool bb) w) (hx : see e x = some (.agg us)) (hy : see e y = some (.agg vs)) :
    OpV P e ⟨dst, .binOp .neq xt x y yt, t, pos, aft, g⟩ (.bool bb) := fun ρ hρ w => by
  simp only [execOp, hρ x _ hx, hρ y _ hy, Sem.run_bind, run_eqGuard_agg w .neq xt x y us vs hg, Result.andThen_ok, hb, Sem.run_pure]
end
end Go.Sb
