/- Rows in memory: what they hold, and the operations on them. -/
import Derived.Test.YtikodfclemgfoaaDoorSbOps
set_option linter.all false
set_option linter.unusedVariables false
set_option linter.unusedSimpArgs false
namespace Go.Sb
open Go.RowKit

/-! ### 1. Blocks of cells, written out -/
abbrev blk (b : Nat) (E : TypeId) (l : List Value) : Asrt := pts b (.cells ⟨l⟩ E (0, 0))
abbrev rblk (b : Nat) (E : TypeId) (l : List Value) : Asrt := ro b (.cells ⟨l⟩ E (0, 0))
/-- A type's zero value, its size in cells and in bytes. -/
def info1 (P : Program) (t : TypeId) (z : List Value) (size bytes : Nat) : Prop := (P.info? t).map (fun i => (i.zero.map (·.cells), i.size, i.bytes)) = some (some ⟨z⟩, size, bytes)
theorem info1.parts {P : Program} {t : TypeId} {z : List Value} {size bytes : Nat} (h : info1 P t z size bytes) : ∃ i zv, P.info? t = some i ∧ i.zero = some zv ∧ zv.cells = ⟨z⟩ ∧ i.size = size ∧ i.bytes = bytes := by
  unfold info1 at h
  cases hi : P.info? t with
  | none => simp [hi] at h
  | some i =>
    simp only [hi, Option.map_some, Option.some.injEq, Prod.mk.injEq] at h
    obtain ⟨h1, h2, h3⟩ := h
    cases hz : i.zero with
    | none => simp [hz] at h1
    | some zv => exact ⟨i, zv, rfl, hz, by simpa [hz] using h1, h2, h3⟩
/-- A type of one cell. -/
def one1 (P : Program) (t : TypeId) : Prop := (match P.underlying t with | some (.struct _) | some (.array _ _) | none => false | _ => true) = true
/-- A struct or an array of n cells. -/
def agg1 (P : Program) (t : TypeId) (n : Nat) : Prop := (match P.underlying t, P.info? t with | some (.struct _), some i | some (.array _ _), some i => decide (i.size = n) | _, _ => false) = true
theorem one1.isAgg {P : Program} {t : TypeId} (h : one1 P t) (w : World) : (isAgg t).run P w = .ok false w := by
  unfold one1 at h
  cases hu : P.underlying t with
  | none => simp [hu] at h
  | some d =>
    unfold Go.isAgg
    cases d <;> simp_all [run_underlying hu]
theorem agg1.isAgg {P : Program} {t : TypeId} {n : Nat} (h : agg1 P t n) (w : World) : (isAgg t).run P w = .ok true w ∧ (sizeOf t).run P w = .ok n w := by
  unfold agg1 at h
  cases hu : P.underlying t with
  | none => simp [hu] at h
  | some d =>
    cases hi : P.info? t with
    | none => cases d <;> simp_all
    | some i =>
      cases d <;> simp_all [Go.isAgg, run_underlying hu, sizeOf, typeInfo]

section
variable {P : Program} {e : Slots} {x y z : Operand} {u v : Value} {dst : Option Tmp} {t : TypeId} {pos : String} {aft : Array Edge} {g : Option (Nat × Bool)} {b o n k : Nat} {T E : TypeId} {l cs : List Value}
theorem op_alloc {size bytes : Nat} (hi : info1 P T l size bytes) : OpE P e ⟨dst, .alloc T, t, pos, aft, g⟩ [] (fun b : Nat => .pointer (some ⟨b, 0, none⟩)) (fun _ => True) (fun b => [blk b T l]) := fun ρ hρ R w hs => by
  obtain ⟨i, zv, h1, h2, h3, _, _⟩ := hi.parts
  simp only [execOp, Instr.alloc, zeroValue, typeInfo, newVar, newRow, Sem.run_bind, run_program, Result.andThen_ok, h1, h2, Sem.run_pure, run_newObj, h3]
  exact ⟨w.heap.size, rfl, trivial, hs.alloc _, ⟨rfl, rfl, rfl⟩⟩
theorem op_box (hx : see e x = some v) (hc : v.cells = ⟨l⟩) : OpE P e ⟨dst, .box T x, t, pos, aft, g⟩ [] (fun b : Nat => .pointer (some ⟨b, 0, none⟩)) (fun _ => True) (fun b => [blk b T l]) := fun ρ hρ R w hs => by
  simp only [execOp, Instr.box, newVar, newRow, Sem.run_bind, Result.andThen_ok, Sem.run_pure, run_newObj, hρ x _ hx, hc]
  exact ⟨w.heap.size, rfl, trivial, hs.alloc _, ⟨rfl, rfl, rfl⟩⟩
/-- The slice that a literal makes. -/
def builtSlice (P : Program) (T : TypeId) (len : Nat) (ps : List (Nat × Value)) : Option (TypeId × Array Value) :=
  match P.underlying T with
  | some (.slice E) => match P.info? E with
    | some i => match i.zero with
      | some zv => if len * i.size > 2 ^ 24 || len * i.size == 0 then none else
        (Instr.fill (fun j => some (j * i.size, i.size)) ((Array.range (len * i.size)).map (zv.cells[· % zv.cells.size]!)) ps).map fun c => (E, c)
      | none => none
    | none => none
  | _ => none
theorem op_buildSlice {ps : Array (Nat × Operand)} {vs : List (Nat × Value)} (hp : ps.toList.map (fun q => (q.1, see e q.2)) = vs.map fun q => (q.1, some q.2)) (hb : builtSlice P T n vs = some (E, ⟨l⟩)) :
    OpE P e ⟨dst, .buildSlice T n ps, t, pos, aft, g⟩ [] (fun b : Nat => .slice (some ⟨b, 0, none⟩) n n) (fun _ => True) (fun b => [blk b E l]) := fun ρ hρ R w hs => by
  have key : ∀ (xs : List (Nat × Operand)) (ys : List (Nat × Value)), xs.map (fun q => (q.1, see e q.2)) = ys.map (fun q => (q.1, some q.2)) → xs.map (fun q => (q.1, ρ q.2)) = ys := by
    intro xs
    induction xs with
    | nil => intro ys h; cases ys <;> simp_all
    | cons x xs ih =>
      intro ys h
      cases ys with
      | nil => simp at h
      | cons y ys =>
        simp only [List.map_cons, List.cons.injEq, Prod.mk.injEq] at h
        simp only [List.map_cons, hρ x.2 y.2 h.1.2, ih ys h.2, h.1.1]
  have h1 : (ps.map fun (i, x) => (i, ρ x)).toList = vs := by simpa using key _ _ hp
  unfold builtSlice at hb
  split at hb
  · rename_i E' hu
    split at hb
    · rename_i i hi
      split at hb
      · rename_i zv hz
        split at hb
        · cases hb
        · rename_i hle
          obtain ⟨c, hc, hcc⟩ := Option.map_eq_some_iff.1 hb
          simp only [Prod.mk.injEq] at hcc
          obtain ⟨rfl, rfl⟩ := hcc
          have : (Instr.buildSlice T n (ps.map fun (i, x) => (i, ρ x))).run P w = .ok (.slice (some ⟨w.heap.size, 0, none⟩) n n) (w.alloc (.cells ⟨l⟩ E')) := by
            have hle1 : ¬ n * i.size > 2 ^ 24 := fun h => hle (by simp; exact .inl (by simpa using h))
            have hle2 : ¬ n * i.size = 0 := fun h => hle (by simp; exact .inr (by simpa using h))
            simp only [Instr.buildSlice, Sem.run_bind, run_underlying hu, Result.andThen_ok, sizeOf, typeInfo, run_program, hi, Sem.run_pure, hle1, hle2, if_false, Sem.run_ite, zeroValue, hz]
            rw [h1, hc]
            rfl
          simp only [execOp, Sem.run_bind, this, Result.andThen_ok, Sem.run_pure]
          exact ⟨w.heap.size, rfl, trivial, hs.alloc _, ⟨rfl, rfl, rfl⟩⟩
      · cases hb
    · cases hb
  · cases hb

theorem add_plain (b o n : Nat) : (⟨b, o, none⟩ : Addr).add n = ⟨b, o + n, none⟩ := by unfold Addr.add; split <;> simp_all
theorem cell_of_blk {w : World} {fr : Nat × Nat} (h : w.heap[b]? = some (.cells ⟨l⟩ E fr)) (j : Nat) : w.cell? ⟨b, j, none⟩ = l[j]? := by simp [World.cell?, h]
theorem run_loadCellsFrom_blk {w : World} {fr : Nat × Nat} (h : w.heap[b]? = some (.cells ⟨l⟩ E fr)) (o : Nat) : ∀ (n i : Nat) (acc : Array Value), o + i + n ≤ l.length →
    (loadCellsFrom ⟨b, o, none⟩ i n acc).run P w = .ok (acc ++ ((l.drop (o + i)).take n).toArray) w
  | 0, i, acc, _ => by simp [loadCellsFrom]
  | n + 1, i, acc, hl => by
    have hlt : o + i < l.length := by omega
    have hd : l.drop (o + i) = l[o + i] :: l.drop (o + (i + 1)) := by rw [List.drop_eq_getElem_cons hlt]; rfl
    simp only [loadCellsFrom, Sem.run_bind, run_load, add_plain, cell_of_blk h, List.getElem?_eq_getElem hlt, Result.andThen_ok, run_loadCellsFrom_blk h o n (i + 1) _ (by omega), hd]
    congr 1
    apply Array.ext'
    simp
theorem run_loadCells_blk {w : World} {fr : Nat × Nat} (h : w.heap[b]? = some (.cells ⟨l⟩ E fr)) (o n : Nat) (hl : o + n ≤ l.length) : (loadCells ⟨b, o, none⟩ n).run P w = .ok ((l.drop o).take n).toArray w := by
  unfold loadCells
  rw [run_loadCellsFrom_blk h o n 0 #[] (by omega)]
  simp
theorem run_loadAt_one {w : World} {fr : Nat × Nat} (h : w.heap[b]? = some (.cells ⟨l⟩ E fr)) (h1 : one1 P T) (hv : l[o]? = some v) : (Instr.loadAt T (.pointer (some ⟨b, o, none⟩))).run P w = .ok v w := by
  simp [Instr.loadAt, Instr.sureAddr, loadVar, h1.isAgg, cell_of_blk h, hv]
theorem run_loadAt_agg {w : World} {fr : Nat × Nat} (h : w.heap[b]? = some (.cells ⟨l⟩ E fr)) (h1 : agg1 P T n) (hn : o + n ≤ l.length) : (Instr.loadAt T (.pointer (some ⟨b, o, none⟩))).run P w = .ok (.agg ((l.drop o).take n).toArray) w := by
  simp [Instr.loadAt, Instr.sureAddr, loadVar, (h1.isAgg _).1, (h1.isAgg _).2, run_loadCells_blk h o n hn]
theorem op_of_run {α : Type} {val : α → Value} {pu : α → Prop} {res : α → List Asrt} {A : List Asrt} {op : Oper} {ρ : Operand → Value} 
    (h : ∀ (R : Asrt) (w : World), Sat (A ++ [R]) w → ∃ x w', (execOp ρ op).run P w = .ok (.value (val x)) w' ∧ pu x ∧ Sat (res x ++ [R]) w' ∧ Env w w') : OpS P op ρ A val pu res := fun R w hs => by
  obtain ⟨x, w', h1, h2, h3, h4⟩ := h R w hs
  rw [h1]; exact ⟨x, rfl, h2, h3, h4⟩
theorem op_load (h1 : one1 P T) (hx : see e x = some (.pointer (some ⟨b, o, none⟩))) (hv : l[o]? = some v) : OpD P e ⟨dst, .load T x, t, pos, aft, g⟩ [blk b E l] v [blk b E l] := fun ρ hρ => op_of_run fun R w hs =>
  ⟨(), w, by simp only [execOp, hρ x _ hx, Sem.run_bind, run_loadAt_one hs.pts h1 hv, Result.andThen_ok, Sem.run_pure], trivial, hs, Env.refl w⟩
theorem op_load_ro (h1 : one1 P T) (hx : see e x = some (.pointer (some ⟨b, o, none⟩))) (hv : l[o]? = some v) : OpD P e ⟨dst, .load T x, t, pos, aft, g⟩ [rblk b E l] v [] := fun ρ hρ => op_of_run fun R w hs =>
  ⟨(), w, by simp only [execOp, hρ x _ hx, Sem.run_bind, run_loadAt_one hs.ro h1 hv, Result.andThen_ok, Sem.run_pure], trivial, hs.tail, Env.refl w⟩
/-- Some cells, one after the other. -/
def cut (l : List Value) (o n : Nat) : List Value := (l.drop o).take n
theorem op_load_agg (h1 : agg1 P T n) (hx : see e x = some (.pointer (some ⟨b, o, none⟩))) (hl : Nat.ble (o + n) l.length = true) (hv : cut l o n = cs) : OpD P e ⟨dst, .load T x, t, pos, aft, g⟩ [blk b E l] (.agg ⟨cs⟩) [blk b E l] := fun ρ hρ => op_of_run fun R w hs =>
  ⟨(), w, by subst hv; simp only [execOp, hρ x _ hx, Sem.run_bind, run_loadAt_agg hs.pts h1 (Nat.le_of_ble_eq_true hl), Result.andThen_ok, Sem.run_pure]; rfl, trivial, hs, Env.refl w⟩
theorem op_load_agg_ro (h1 : agg1 P T n) (hx : see e x = some (.pointer (some ⟨b, o, none⟩))) (hl : Nat.ble (o + n) l.length = true) (hv : cut l o n = cs) : OpD P e ⟨dst, .load T x, t, pos, aft, g⟩ [rblk b E l] (.agg ⟨cs⟩) [] := fun ρ hρ => op_of_run fun R w hs =>
  ⟨(), w, by subst hv; simp only [execOp, hρ x _ hx, Sem.run_bind, run_loadAt_agg hs.ro h1 (Nat.le_of_ble_eq_true hl), Result.andThen_ok, Sem.run_pure]; rfl, trivial, hs.tail, Env.refl w⟩

/-! ### 2. Stores -/
/-- The cells lo to hi may be written. -/
def clear (fr : Nat × Nat) (lo hi : Nat) : Prop := ∀ j, lo ≤ j → j < hi → ¬ (fr.1 ≤ j ∧ j < fr.2)
theorem clear_zero (lo hi : Nat) : clear (0, 0) lo hi := fun j _ _ h => by simp at h
theorem clear.mono {fr : Nat × Nat} {lo hi lo' hi' : Nat} (h : clear fr lo hi) (h1 : lo ≤ lo') (h2 : hi' ≤ hi) : clear fr lo' hi' := fun j a b => h j (by omega) (by omega)
theorem run_storeCells_blk (b o : Nat) (E : TypeId) (fr : Nat × Nat) : ∀ (vs : List Value) (i : Nat) (cur : Array Value) (w : World), w.heap[b]? = some (.cells cur E fr) → clear fr (o + i) (o + i + vs.length) → o + i + vs.length ≤ cur.size → (∀ v ∈ vs, v.oneCell' = true) →
    (storeCells ⟨b, o, none⟩ vs i).run P w = .ok () (w.setRow b (cur.toList.take (o + i) ++ vs ++ cur.toList.drop (o + i + vs.length)).toArray)
  | [], i, cur, w, hg, _, _, _ => by
    simp only [storeCells, List.append_nil, List.length_nil, Nat.add_zero, List.take_append_drop, Array.toArray_toList]
    rw [setRow_self w b cur E fr hg]
    rfl
  | v :: rest, i, cur, w, hg, hfz, hl, h1 => by
    have hi : o + i < cur.size := by simp at hl; omega
    have hcell : w.cell? ⟨b, o + i, none⟩ = some cur[o + i] := by simp [World.cell?, hg, hi]
    have hfro : w.frozen? ⟨b, o + i, none⟩ = false := by
      have := hfz (o + i) (Nat.le_refl _) (by simp)
      obtain ⟨lo, hi'⟩ := fr
      simp only [World.frozen?, hg, Bool.and_eq_false_iff, decide_eq_false_iff_not]
      simp only at this
      omega
    have hst : (store ((⟨b, o, none⟩ : Addr).add i) v).run P w = .ok () (w.setRow b (cur.setIfInBounds (o + i) v)) := by
      rw [add_plain, run_store P w _ v _ (h1 v (by simp)), hcell]
      simp [hfro, setCell_eq_setRow w b (o + i) cur E fr v hg]
    have ih := run_storeCells_blk b o E fr rest (i + 1) (cur.setIfInBounds (o + i) v) (w.setRow b (cur.setIfInBounds (o + i) v)) (setRow_heap w b cur _ E _ hg) (hfz.mono (by omega) (by simp; omega)) (by simp at hl ⊢; omega) (fun x hx => h1 x (by simp [hx]))
    simp only [storeCells, Sem.run_bind, hst, Result.andThen_ok, ih, setRow_setRow]
    congr 3
    have e := list_seg_step cur.toList (o + i) v rest (by simp at hl ⊢; omega)
    simpa [Array.toList_setIfInBounds, Nat.add_assoc] using e
/-- l with vs laid over it from o on. -/
def lay (l : List Value) (o : Nat) (vs : List Value) : List Value := l.take o ++ vs ++ l.drop (o + vs.length)
def setl : List Value → Nat → Value → List Value
  | [], _, _ => []
  | _ :: l, 0, v => v :: l
  | x :: l, n + 1, v => x :: setl l n v
theorem setl_eq : ∀ (l : List Value) (n : Nat) (v : Value), setl l n v = l.set n v
  | [], _, _ => rfl
  | _ :: _, 0, _ => rfl
  | x :: l, n + 1, v => by simp [setl, setl_eq l n v]
theorem lay_one (l : List Value) (o : Nat) (v : Value) (h : o < l.length) : lay l o [v] = setl l o v := by
  rw [setl_eq]
  unfold lay
  rw [List.set_eq_take_append_cons_drop, if_pos h]
  simp
theorem lay_length (l : List Value) (o : Nat) (vs : List Value) (h : o + vs.length ≤ l.length) : (lay l o vs).length = l.length := by
  unfold lay; simp; omega
theorem Sat.setRow {w : World} {l' : List Value} {fr : Nat × Nat} {L : List Asrt} (hs : Sat (Sb.pts b (.cells ⟨l⟩ E fr) :: L) w) : Sat (Sb.pts b (.cells ⟨l'⟩ E fr) :: L) (w.setRow b ⟨l'⟩) :=
  hs.write (setRow_heap w b _ _ E fr hs.pts) (fun k hk _ => setRow_other w b k _ hk)
theorem run_storeAt {w : World} {fr : Nat × Nat} (h : w.heap[b]? = some (.cells ⟨l⟩ E fr)) (hsz : (sizeOf T).run P w = .ok cs.length w) (hv : v.cells = ⟨cs⟩) (hc : clear fr o (o + cs.length)) (hl : o + cs.length ≤ l.length) (h1 : ∀ u ∈ cs, u.oneCell' = true) :
    (Instr.storeAt T (.pointer (some ⟨b, o, none⟩)) v).run P w = .ok () (w.setRow b ⟨lay l o cs⟩) := by
  have hst := run_storeCells_blk (P := P) b o E fr cs 0 ⟨l⟩ w h (by simpa using hc) (by simpa using hl) h1
  have hcs : v.cells.size = cs.length := by rw [hv]; rfl
  simp only [Nat.add_zero] at hst
  simp [Instr.storeAt, Instr.sureAddr, storeVar, hsz, hv, hst, lay]
/-- A type's size in cells. -/
def size1 (P : Program) (t : TypeId) (n : Nat) : Prop := (P.info? t).map (·.size) = some n
theorem size1.run {P : Program} {t : TypeId} {n : Nat} (h : size1 P t n) (w : World) : (sizeOf t).run P w = .ok n w := by
  unfold size1 at h
  cases hi : P.info? t with
  | none => simp [hi] at h
  | some i => simp [hi] at h; subst h; simp [sizeOf, typeInfo, hi]
theorem op_store {l' : List Value} (h1 : size1 P T 1) (hx : see e x = some (.pointer (some ⟨b, o, none⟩))) (hy : see e y = some v) (hc : v.cells = #[v]) (hv : v.oneCell' = true) (hl : Nat.blt o l.length = true) (hl' : setl l o v = l') :
    OpD P e ⟨dst, .store T x y, t, pos, aft, g⟩ [blk b E l] undef [blk b E l'] := fun ρ hρ R w hs => by
  have hlt : o < l.length := by simpa [Nat.blt_eq] using hl
  have hst := run_storeAt (P := P) (T := T) (cs := [v]) (o := o) hs.pts (h1.run w) hc (clear_zero _ _) (by simp; omega) (by simpa using hv)
  rw [lay_one l o v hlt, hl'] at hst
  simp only [execOp, hρ x _ hx, hρ y _ hy, Sem.run_bind, hst, Result.andThen_ok, Sem.run_pure]
  exact ⟨(), rfl, trivial, hs.setRow, ⟨rfl, rfl, rfl⟩⟩
theorem op_store_agg {l' : List Value} (h1 : size1 P T cs.length) (hx : see e x = some (.pointer (some ⟨b, o, none⟩))) (hy : see e y = some (.agg ⟨cs⟩)) (hv : cs.all (·.oneCell') = true) (hl : Nat.ble (o + cs.length) l.length = true) (hl' : lay l o cs = l') :
    OpD P e ⟨dst, .store T x y, t, pos, aft, g⟩ [blk b E l] undef [blk b E l'] := fun ρ hρ R w hs => by
  have hst := run_storeAt (P := P) (T := T) (v := .agg ⟨cs⟩) (cs := cs) (o := o) hs.pts (h1.run w) rfl (clear_zero _ _) (Nat.le_of_ble_eq_true hl) (by simpa using hv)
  rw [hl'] at hst
  simp only [execOp, hρ x _ hx, hρ y _ hy, Sem.run_bind, hst, Result.andThen_ok, Sem.run_pure]
  exact ⟨(), rfl, trivial, hs.setRow, ⟨rfl, rfl, rfl⟩⟩
end

/-! ### 3. What cells say -/
/-- How a thing lies in cells; what it leads to is frozen for good. -/
structure Rel (α : Type) where
  n : Nat
  pos : 0 < n
  rel : PHeap → α → List Value → Prop
  mono : ∀ {f f' : PHeap} {x : α} {c : List Value}, f.le f' → rel f x c → rel f' x c
  len : ∀ {f : PHeap} {x : α} {c : List Value}, rel f x c → c.length = n
  one : ∀ {f : PHeap} {x : α} {c : List Value}, rel f x c → ∀ v ∈ c, v.oneCell' = true
/-- A thing that lies in cells whole. -/
def Rel.ofEnc {α : Type} (n : Nat) (hn : 0 < n) (enc : α → List Value) (hl : ∀ x, (enc x).length = n) (h1 : ∀ x, ∀ v ∈ enc x, v.oneCell' = true) : Rel α :=
  ⟨n, hn, fun _ x c => c = enc x, fun _ h => h, fun h => by rw [h]; exact hl _, fun h => by rw [h]; exact h1 _⟩
def rows {α : Type} (R : Rel α) (f : PHeap) : List α → List Value → Prop
  | [], c => c = []
  | x :: xs, c => ∃ a d, c = a ++ d ∧ R.rel f x a ∧ rows R f xs d
section
variable {α : Type} {R : Rel α} {f f' : PHeap}
theorem rows_mono (hf : f.le f') : ∀ {xs : List α} {c : List Value}, rows R f xs c → rows R f' xs c
  | [], _, h => h
  | _ :: _, _, ⟨a, d, e, h, r⟩ => ⟨a, d, e, R.mono hf h, rows_mono hf r⟩
theorem rows_length : ∀ {xs : List α} {c : List Value}, rows R f xs c → c.length = xs.length * R.n
  | [], _, h => by subst h; simp
  | _ :: xs, _, ⟨a, d, e, h, r⟩ => by subst e; simp [R.len h, rows_length r, Nat.add_mul]; omega
theorem rows_one : ∀ {xs : List α} {c : List Value}, rows R f xs c → ∀ v ∈ c, v.oneCell' = true
  | [], _, h => by subst h; simp
  | _ :: xs, _, ⟨a, d, e, h, r⟩ => by
    subst e
    intro v hv
    rcases List.mem_append.1 hv with hv | hv
    · exact R.one h v hv
    · exact rows_one r v hv
theorem rows_append : ∀ {xs ys : List α} {c d : List Value}, rows R f xs c → rows R f ys d → rows R f (xs ++ ys) (c ++ d)
  | [], _, _, _, h, h' => by subst h; simpa using h'
  | _ :: _, _, _, _, ⟨a, d, e, h, r⟩, h' => ⟨a, _, by rw [e, List.append_assoc], h, rows_append r h'⟩
theorem rows_take : ∀ {xs : List α} {c : List Value} (k : Nat), rows R f xs c → rows R f (xs.take k) (c.take (k * R.n))
  | [], _, k, h => by subst h; simp [rows]
  | _ :: _, _, 0, _ => by simp [rows]
  | x :: xs, _, k + 1, ⟨a, d, e, h, r⟩ => by
    subst e
    refine ⟨a, d.take (k * R.n), ?_, h, rows_take k r⟩
    have := R.len h
    rw [List.take_append, List.take_of_length_le (by rw [this, Nat.add_mul]; omega)]
    congr 2
    rw [this, Nat.add_mul]; omega
theorem rows_drop : ∀ {xs : List α} {c : List Value} (k : Nat), rows R f xs c → rows R f (xs.drop k) (c.drop (k * R.n))
  | [], _, k, h => by subst h; simp [rows]
  | _ :: _, _, 0, h => by simpa using h
  | x :: xs, _, k + 1, ⟨a, d, e, h, r⟩ => by
    subst e
    have hl := R.len h
    have := rows_drop k r
    simp only [List.drop_succ_cons]
    rw [List.drop_append, List.drop_of_length_le (l := a) (by rw [hl, Nat.add_mul]; omega), List.nil_append]
    have e : (k + 1) * R.n - a.length = k * R.n := by rw [hl, Nat.add_mul]; omega
    rw [e]; exact this
theorem rows_at : ∀ {xs : List α} {c : List Value} {i : Nat} {x : α}, rows R f xs c → xs[i]? = some x → R.rel f x ((c.drop (i * R.n)).take R.n)
  | [], _, _, _, _, h => by simp at h
  | y :: xs, _, 0, x, ⟨a, d, e, h, r⟩, hx => by
    simp at hx; subst hx; subst e
    have := R.len h
    simp [← this]; simpa using h
  | y :: xs, _, i + 1, x, ⟨a, d, e, h, r⟩, hx => by
    subst e
    have hl := R.len h
    have := rows_at r (by simpa using hx : xs[i]? = some x)
    rw [List.drop_append, List.drop_of_length_le (by rw [hl, Nat.add_mul]; omega)]
    have e : (i + 1) * R.n - a.length = i * R.n := by rw [hl, Nat.add_mul]; omega
    rw [e]; simpa using this
theorem rows_set : ∀ {xs : List α} {c : List Value} {i : Nat} {x : α} {a' : List Value}, rows R f xs c → i < xs.length → R.rel f x a' → rows R f (xs.set i x) (lay c (i * R.n) a')
  | [], _, _, _, _, _, h, _ => by simp at h
  | y :: xs, _, 0, x, a', ⟨a, d, e, h, r⟩, _, hx => by
    subst e
    have h1 := R.len h
    have h2 := R.len hx
    refine ⟨a', d, ?_, hx, r⟩
    unfold lay
    simp [h2, ← h1]
  | y :: xs, _, i + 1, x, a', ⟨a, d, e, h, r⟩, hi, hx => by
    subst e
    have h1 := R.len h
    refine ⟨a, lay d (i * R.n) a', ?_, h, rows_set r (by simpa using hi) hx⟩
    unfold lay
    rw [List.take_append, List.drop_append, List.take_of_length_le (by rw [h1, Nat.add_mul]; omega), List.drop_of_length_le (by rw [h1, Nat.add_mul]; omega)]
    have e1 : (i + 1) * R.n - a.length = i * R.n := by rw [h1, Nat.add_mul]; omega
    have e2 : (i + 1) * R.n + a'.length - a.length = i * R.n + a'.length := by rw [h1, Nat.add_mul]; omega
    rw [e1, e2]
    simp [List.append_assoc]
theorem rows_single {x : α} {a : List Value} (h : R.rel f x a) : rows R f [x] a := ⟨a, [], by simp, h, rfl⟩
theorem rows_ofEnc {n : Nat} {hn} {enc : α → List Value} {hl h1} : ∀ {xs : List α} {c : List Value}, rows (Rel.ofEnc n hn enc hl h1) f xs c ↔ c = xs.flatMap enc
  | [], c => by simp [rows]
  | x :: xs, c => by
    constructor
    · rintro ⟨a, d, e, h, r⟩
      have h' : a = enc x := h
      rw [e, h', rows_ofEnc.1 r]; simp
    · intro h
      exact ⟨enc x, xs.flatMap enc, by simpa using h, rfl, rows_ofEnc.2 rfl⟩
end

/-! ### 4. A row that is owned; a row that is only read -/
section
variable {α : Type}
def ownP (R : Rel α) (E : TypeId) (a : Option Addr) (c : Nat) (xs : List α) (h f : PHeap) : Prop :=
  (c = 0 ∧ xs = []) ∨ ∃ g l fr cs, a = some ⟨g, 0, none⟩ ∧ h g = some (.cells ⟨l⟩ E fr) ∧ clear fr 0 l.length ∧ xs.length ≤ c ∧ c ≤ maxLen ∧ l.length = c * R.n ∧ rows R f xs cs ∧ l.take cs.length = cs
/-- '.slice a xs.length c' is a row of one's own that holds xs, at its block's head. -/
def own (R : Rel α) (E : TypeId) (a : Option Addr) (c : Nat) (xs : List α) : Asrt := ⟨ownP R E a c xs, fun x y h => by
  rcases h with h | ⟨g, l, fr, cs, h1, h2, h3, h4, h5, h6, h7, h8⟩
  · exact .inl h
  · exact .inr ⟨g, l, fr, cs, h1, x _ _ h2, h3, h4, h5, h6, rows_mono y h7, h8⟩⟩
def rdP (R : Rel α) (a : Option Addr) (c : Nat) (xs : List α) (f : PHeap) : Prop :=
  (xs.length ≤ c ∧ xs.length ≤ maxLen) ∧ (xs ≠ [] → ∃ g o l E fr cs, a = some ⟨g, o, none⟩ ∧ f g = some (.cells ⟨l⟩ E fr) ∧ rows R f xs cs ∧ (l.drop o).take cs.length = cs)
theorem rdP_mono {R : Rel α} {a : Option Addr} {c : Nat} {xs : List α} {f f' : PHeap} (hf : f.le f') (h : rdP R a c xs f) : rdP R a c xs f' :=
  ⟨h.1, fun hne => let ⟨g, o, l, E, fr, cs, h1, h2, h3, h4⟩ := h.2 hne; ⟨g, o, l, E, fr, cs, h1, hf _ _ h2, rows_mono hf h3, h4⟩⟩
/-- '.slice a xs.length c' reads as xs, for good. -/
def rd (R : Rel α) (a : Option Addr) (c : Nat) (xs : List α) : Asrt := rof (rdP R a c xs) rdP_mono
instance (R : Rel α) (a : Option Addr) (c : Nat) (xs : List α) : Pers (rd R a c xs) := inferInstanceAs (Pers (rof _ _))
/-- A thing in cells, told of what is frozen. -/
def hold (R : Rel α) (x : α) (c : List Value) : Asrt := rof (fun f => R.rel f x c) (fun hf h => R.mono hf h)
instance (R : Rel α) (x : α) (c : List Value) : Pers (hold R x c) := inferInstanceAs (Pers (rof _ _))

variable {R : Rel α} {E : TypeId} {a : Option Addr} {c : Nat} {xs : List α} {l m : List Asrt} {w : World}
theorem take_own_nil {a : Option Addr} : Take (own R E a 0 ([] : List α)) l l := fun h f p => ⟨PHeap.emp, h, PHeap.emp_le _, PHeap.le_refl _, PHeap.emp_disj _, .inl ⟨rfl, rfl⟩, p⟩
theorem take_rd_nil {a : Option Addr} {c : Nat} : Take (rd R a c ([] : List α)) l l := fun h f p => ⟨PHeap.emp, h, PHeap.emp_le _, PHeap.le_refl _, PHeap.emp_disj _, ⟨by simp, fun h => absurd rfl h⟩, p⟩
theorem Sat.rd (h : Sat (Sb.rd R a c xs :: l) w) : rdP R a c xs (heapOf w) := Sat.rof h
/-- What an owned row is in the world. -/
theorem Sat.own (h : Sat (Sb.own R E a c xs :: l) w) : (c = 0 ∧ xs = [] ∧ Sat l w) ∨ ∃ g d fr cs, a = some ⟨g, 0, none⟩ ∧ clear fr 0 d.length ∧ xs.length ≤ c ∧ c ≤ maxLen ∧ d.length = c * R.n ∧ d.take cs.length = cs ∧ cs.length = xs.length * R.n ∧ (∀ v ∈ cs, v.oneCell' = true) ∧
    Sat (Sb.pts g (.cells ⟨d⟩ E fr) :: Sb.rof (fun f => rows R f xs cs) (fun hf h => rows_mono hf h) :: l) w := by
  obtain ⟨p, f, d1, x, y, h1, h2, p1, p2, q, r, s⟩ := h
  rcases r with ⟨rfl, rfl⟩ | ⟨g, d, fr, cs, e, hg, h3, h4, h5, h6, h7, h8⟩
  · exact .inl ⟨rfl, rfl, p, f, d1, x, y, (all l).mono p2 (PHeap.le_refl _) s⟩
  · refine .inr ⟨g, d, fr, cs, e, h3, h4, h5, h6, h8, rows_length h7, rows_one h7, p, f, d1, x, y, h1, h2, p1, p2, q, hg, PHeap.emp, h2, PHeap.emp_le _, PHeap.le_refl _, PHeap.emp_disj _, h7, s⟩
theorem own_intro {g : Nat} {d cs : List Value} {fr : Nat × Nat} (h3 : clear fr 0 d.length) (h4 : xs.length ≤ c) (h5 : c ≤ maxLen) (h6 : d.length = c * R.n) (h8 : d.take cs.length = cs) :
    Ent (all (pts g (.cells ⟨d⟩ E fr) :: rof (fun f => rows R f xs cs) (fun hf h => rows_mono hf h) :: l)) (all (own R E (some ⟨g, 0, none⟩) c xs :: l)) := by
  rintro h f ⟨h1, h2, p1, p2, q, r, ⟨h3', h4', p3, p4, q', r', s⟩⟩
  exact ⟨h1, h4', p1, PHeap.le_trans p4 p2, PHeap.disj_le q (PHeap.le_refl _) p4, .inr ⟨g, d, fr, cs, rfl, r, h3, h4, h5, h6, r', h8⟩, s⟩
/-- An owned row is given up for good. -/
theorem Sat.own_freeze (h : Sat (Sb.own R E a c xs :: l) w) : Sat (Sb.rd R a c xs :: l) w := by
  rcases Sat.own h with ⟨rfl, rfl, hs⟩ | ⟨g, d, fr, cs, rfl, h3, h4, h5, h6, h8, _, _, hs⟩
  · exact hs.ent (take_rd_nil (R := R) (a := a) (c := 0))
  · have hs' := hs.freeze
    refine hs'.ent ?_
    rintro h f ⟨h1, h2, p1, p2, q, r, ⟨h3', h4', p3, p4, q', r', s⟩⟩
    exact ⟨PHeap.emp, h4', PHeap.emp_le _, PHeap.le_trans p4 p2, PHeap.emp_disj _, ⟨⟨h4, by omega⟩, fun _ => ⟨g, 0, d, E, fr, cs, rfl, r, r', by simpa using h8⟩⟩, s⟩
theorem vc_own_freeze {N : Nat} {e : Slots} {w0 : World} {K : Act → World → Prop} (h : VC N e (Sb.rd R a c xs :: l) w0 K) : VC N e (Sb.own R E a c xs :: l) w0 K := fun p q x y z => h p q x y.own_freeze z
theorem Sat.drop2 {A B : Asrt} (h : Sat (A :: B :: l) w) : Sat (A :: l) w := h.ent (star_mono (Ent.refl A) (star_right B (all l)))
theorem Sat.of_rof {p : PHeap → Prop} {hm} (h : Sat (Sb.rof p hm :: l) w) : p (heapOf w) := Sat.rof h
end
end Go.Sb
