/- One word for a step: the rule is found by the operation's form. Closed facts on the program's tables are instances. -/
import Derived.Test.YtikodfclemgfoaaDoorSbAppend
set_option linter.all false
set_option linter.unusedVariables false
namespace Go.Sb
open Go.RowKit

/-! ### 1. Closed facts -/
class KUnd (P : Program) (t : TypeId) (d : outParam TypeDesc) : Prop where out : P.underlying t = some d
class KSome (P : Program) (t : TypeId) : Prop where out : (P.underlying t).isSome = true
class KFieldOff (P : Program) (s i : Nat) (n : outParam Nat) : Prop where out : fieldOff P s i = some n
class KField1 (P : Program) (s i : Nat) (n c : outParam Nat) : Prop where out : fieldPart P s i = some (n, c, false)
class KFieldA (P : Program) (s i : Nat) (n c : outParam Nat) : Prop where out : fieldPart P s i = some (n, c, true)
class KInfo (P : Program) (t : TypeId) (z : outParam (List Value)) (size bytes : outParam Nat) : Prop where out : info1 P t z size bytes
class KOne (P : Program) (t : TypeId) : Prop where out : one1 P t
class KAgg (P : Program) (t : TypeId) (n : outParam Nat) : Prop where out : agg1 P t n
class KSize (P : Program) (t : TypeId) (n : outParam Nat) : Prop where out : size1 P t n
class KSlice (P : Program) (T : TypeId) (E n : outParam Nat) : Prop where out : slice1 P T E n
class KCall (P : Program) (f : FuncId) : Prop where out : callable P f = true
class KZero (P : Program) (t : TypeId) (z : outParam Value) : Prop where out : (P.info? t).map (·.zero) = some (some z)
class KConc (P : Program) (t : TypeId) : Prop where out : P.concrete t = true
class KMix (P : Program) : Prop where out : P.follows .mixedOrders = true
theorem KSlice.und {P : Program} {T E n : Nat} [h : KSlice P T E n] : P.underlying T = some (.slice E) := h.out.1

section
variable {P : Program} {N : Nat} {e : Slots} {l m : List Asrt} {w0 : World} {Q : Exit → Act → World → Prop} {ops : Array Oper} {o : Oper} {rest : List Oper} {K : Act → World → Prop}

/-! ### 2. Code -/
theorem vc_in_n {i : Nat} (h : VC N e l w0 (Q .normal)) : VC N e l w0 (Exit.inBlock i Q .normal) := h
theorem vc_in_r {i : Nat} (h : VC N e l w0 (Q .ret)) : VC N e l w0 (Exit.inBlock i Q .ret) := h
theorem vc_in_x {i : Nat} (h : VC N e l w0 (Q .normal)) : VC N e l w0 (Exit.inBlock i Q (.exit i)) := by
  have : Exit.inBlock i Q (.exit i) = Q .normal := by funext a w; simp [Exit.inBlock]
  rw [this]; exact h
theorem vc_in_y {i j : Nat} (hne : Nat.beq j i = false) (h : VC N e l w0 (Q (.exit j))) : VC N e l w0 (Exit.inBlock i Q (.exit j)) := by
  have hne' : j ≠ i := Nat.ne_of_beq_eq_false hne
  have : Exit.inBlock i Q (.exit j) = Q (.exit j) := by funext a w; simp [Exit.inBlock, hne']
  rw [this]; exact h
theorem vc_then_r {K : Act → World → Prop} (h : VC N e l w0 (Q .ret)) : VC N e l w0 (Exit.then K Q .ret) := h
theorem vc_then_x {i : Nat} {K : Act → World → Prop} (h : VC N e l w0 (Q (.exit i))) : VC N e l w0 (Exit.then K Q (.exit i)) := h
theorem vc_normal_wp {y : Code} (h : VC N e l w0 (y.wp P Q)) : VC N e l w0 (fun a w => y.wp P Q a w) := h
/-- One step of the code's frame. -/
theorem sc {G G' : Prop} (k : G') (h : G' → G := by
    first
      | exact vc_seq | exact vc_region | exact vc_nil | exact vc_then | exact vc_block | exact vc_ret | exact vc_skip | exact vc_exit
      | exact vc_in_n | exact vc_in_r | exact vc_in_x | exact vc_in_y rfl | exact vc_then_r | exact vc_then_x) : G := h k

def seeL (e : Slots) : List Operand → Option (List Value)
  | [] => some []
  | x :: l => match see e x, seeL e l with
    | some v, some vs => some (v :: vs)
    | _, _ => none
theorem seeL_eq {l : List Operand} {vs : List Value} (h : seeL e l = some vs) : l.map (see e) = vs.map some := by
  induction l generalizing vs with
  | nil => simp only [seeL, Option.some.injEq] at h; subst h; rfl
  | cons x l ih =>
    simp only [seeL] at h
    split at h
    · rename_i v vs' h1 h2
      simp only [Option.some.injEq] at h
      subst h
      simp [h1, ih h2]
    · cases h
theorem op_makeFuncL {dst : Option Tmp} {t : TypeId} {pos : String} {aft : Array Edge} {g : Option (Nat × Bool)} {f : Fn} {as bs : Array Operand} {vs us : List Value} (ha : seeL e as.toList = some vs) (hb : seeL e bs.toList = some us) : OpV P e ⟨dst, .makeFunc f as bs, t, pos, aft, g⟩ (.func f ⟨vs⟩ ⟨us⟩) := op_makeFunc (seeL_eq ha) (seeL_eq hb)
/-- Groups of operations, so that a rule is found soon. -/
class IsA (op : Op) : Prop where out : True
instance {x : Operand} : IsA (.move x) := ⟨trivial⟩
instance {x : Operand} : IsA (.assign x) := ⟨trivial⟩
instance {x y z : Operand} : IsA (.pick x y z) := ⟨trivial⟩
instance {x : Operand} {i : Nat} : IsA (.extract x i) := ⟨trivial⟩
instance {x : Operand} : IsA (.nilCheck x) := ⟨trivial⟩
instance {s i : Nat} {x : Operand} : IsA (.fieldAddr s x i) := ⟨trivial⟩
instance {s i : Nat} {x : Operand} : IsA (.field s x i) := ⟨trivial⟩
instance {s t : Nat} {x : Operand} : IsA (.convert s t x) := ⟨trivial⟩
instance {o : UnOp} {t : Nat} {x : Operand} : IsA (.unOp o t x) := ⟨trivial⟩
instance {t : Nat} {x : Operand} : IsA (.makeInterface t x) := ⟨trivial⟩
instance {f : Fn} {xs ys : Array Operand} : IsA (.makeFunc f xs ys) := ⟨trivial⟩
class IsO (op : Op) : Prop where out : True
instance {s t : Nat} {x y : Operand} : IsO (.binOp .lss s x y t) := ⟨trivial⟩
instance {s t : Nat} {x y : Operand} : IsO (.binOp .leq s x y t) := ⟨trivial⟩
instance {s t : Nat} {x y : Operand} : IsO (.binOp .gtr s x y t) := ⟨trivial⟩
instance {s t : Nat} {x y : Operand} : IsO (.binOp .geq s x y t) := ⟨trivial⟩
class IsE (op : Op) : Prop where out : True
instance {s t : Nat} {x y : Operand} : IsE (.binOp .eql s x y t) := ⟨trivial⟩
instance {s t : Nat} {x y : Operand} : IsE (.binOp .neq s x y t) := ⟨trivial⟩
class IsR (op : Op) : Prop where out : True
instance {s t : Nat} {x y : Operand} : IsR (.binOp .add s x y t) := ⟨trivial⟩
instance {s t : Nat} {x y : Operand} : IsR (.binOp .sub s x y t) := ⟨trivial⟩
instance {s t : Nat} {x y : Operand} : IsR (.binOp .mul s x y t) := ⟨trivial⟩
instance {s t : Nat} {x y : Operand} : IsR (.binOp .quo s x y t) := ⟨trivial⟩
instance {s t : Nat} {x y : Operand} : IsR (.binOp .rem s x y t) := ⟨trivial⟩
instance {s t : Nat} {x y : Operand} : IsR (.binOp .and s x y t) := ⟨trivial⟩
instance {s t : Nat} {x y : Operand} : IsR (.binOp .or s x y t) := ⟨trivial⟩
instance {s t : Nat} {x y : Operand} : IsR (.binOp .xor s x y t) := ⟨trivial⟩
instance {s t : Nat} {x y : Operand} : IsR (.binOp .shl s x y t) := ⟨trivial⟩
instance {s t : Nat} {x y : Operand} : IsR (.binOp .shr s x y t) := ⟨trivial⟩
class IsL (op : Op) : Prop where out : True
instance {x : Operand} {ts : Array Nat} : IsL (.call ⟨.builtin .len, #[x], ts⟩) := ⟨trivial⟩
instance {x y : Operand} {T : Nat} : IsL (.index T x y) := ⟨trivial⟩
instance {x : Operand} {y z u : Option Operand} {T : Nat} : IsL (.slice T x y z u) := ⟨trivial⟩
section
variable {dst : Option Tmp} {op : Op} {t : TypeId} {pos : String} {aft : Array Edge} {g : Option (Nat × Bool)} {v : Value}
theorem gA [IsA op] (h : OpV P e ⟨dst, op, t, pos, aft, g⟩ v) : OpV P e ⟨dst, op, t, pos, aft, g⟩ v := h
theorem gO [IsO op] (h : OpV P e ⟨dst, op, t, pos, aft, g⟩ v) : OpV P e ⟨dst, op, t, pos, aft, g⟩ v := h
theorem gE [IsE op] (h : OpV P e ⟨dst, op, t, pos, aft, g⟩ v) : OpV P e ⟨dst, op, t, pos, aft, g⟩ v := h
theorem gR [IsR op] (h : OpV P e ⟨dst, op, t, pos, aft, g⟩ v) : OpV P e ⟨dst, op, t, pos, aft, g⟩ v := h
theorem gL [IsL op] (h : OpV P e ⟨dst, op, t, pos, aft, g⟩ v) : OpV P e ⟨dst, op, t, pos, aft, g⟩ v := h
end

/-! ### 3. Operations that only reckon -/
section
variable {d : Nat} {op : Op} {t : TypeId} {pos : String} {aft : Array Edge}
theorem sv {v : Value} (h : VC N ((d, v) :: e) l w0 (wpList P ops Q rest)) (ho : OpV P e ⟨some d, op, t, pos, aft, none⟩ v := by
    first
      | (apply gA; first | exact op_move rfl | exact op_assign rfl | exact op_fieldAddr rfl KFieldOff.out | exact op_nilCheck rfl | exact op_extract rfl rfl | exact op_field rfl KField1.out rfl | exact op_field_agg rfl KFieldA.out (by first | (simp only [List.drop, List.take]; done) | (simp only [List.drop, List.take]; rfl)) | exact op_not rfl | exact op_inv rfl rfl | exact op_convert_int KSome.out KUnd.out rfl | exact op_pick_t rfl rfl | exact op_pick_f rfl rfl | exact op_pick rfl rfl rfl | exact op_makeInterface KConc.out rfl | exact op_makeFuncL rfl rfl)
      | (apply gO; first | exact op_lt rfl rfl | exact op_le rfl rfl | exact op_gt rfl rfl | exact op_ge rfl rfl | exact op_str_lt rfl rfl)
      | (apply gE; first | exact op_eq rfl rfl | exact op_ne rfl rfl | exact op_str_eq rfl rfl | exact op_str_ne rfl rfl | exact op_ptr_eq_nil KUnd.out rfl rfl | exact op_ptr_ne_nil KUnd.out rfl rfl | exact op_map_eq_nil KUnd.out rfl rfl | exact op_map_ne_nil KUnd.out rfl rfl | exact op_slice_eq_nil KSlice.und rfl rfl | exact op_slice_ne_nil KSlice.und rfl rfl | exact op_bool_eq KUnd.out rfl rfl | exact op_bool_ne KUnd.out rfl rfl)
      | (apply gR; first | exact op_add rfl rfl ⟨by omega, by omega⟩ | exact op_sub rfl rfl ⟨by omega, by omega⟩ | exact op_mul rfl rfl ⟨by omega, by omega⟩ | exact op_quo rfl rfl ⟨by omega, by omega⟩ (by omega) | exact op_rem rfl rfl (by omega) (by omega) | exact op_and rfl rfl | exact op_or rfl rfl | exact op_xor rfl rfl | exact op_shl rfl rfl (by decide) | exact op_shr rfl rfl (by decide) | exact op_addw rfl rfl | exact op_subw rfl rfl | exact op_mulw rfl rfl)
      | (apply gL; first | exact op_len rfl ⟨_, KSlice.und⟩ rfl | exact op_str_len rfl KUnd.out rfl | exact op_slice_none KSlice.out rfl rfl rfl | exact op_str_at KUnd.out rfl rfl ⟨by omega, by omega⟩ | exact op_str_slice_lo KUnd.out rfl rfl ⟨by omega, by omega⟩ | exact op_str_slice_hi KUnd.out rfl rfl ⟨by omega, by omega⟩ | exact op_str_slice KUnd.out rfl rfl rfl ⟨by omega, by omega, by omega⟩))
    (hd : Nat.blt d N = true := by rfl) : VC N e l w0 (wpList P ops Q (⟨some d, op, t, pos, aft, none⟩ :: rest)) :=
  vc_op (o := ⟨some d, op, t, pos, aft, none⟩) rfl hd ho.d Takes.nil fun _ _ => h

def seePs (e : Slots) : List (Nat × Operand) → Option (List (Nat × Value))
  | [] => some []
  | (i, x) :: l => match see e x, seePs e l with
    | some v, some vs => some ((i, v) :: vs)
    | _, _ => none
theorem seePs_eq {l : List (Nat × Operand)} {vs : List (Nat × Value)} (h : seePs e l = some vs) : l.map (fun q => (q.1, see e q.2)) = vs.map (fun q => (q.1, some q.2)) := by
  induction l generalizing vs with
  | nil => simp only [seePs, Option.some.injEq] at h; subst h; rfl
  | cons p l ih =>
    obtain ⟨i, x⟩ := p
    simp only [seePs] at h
    split at h
    · rename_i v vs' h1 h2
      simp only [Option.some.injEq] at h
      subst h
      simp [h1, ih h2]
    · cases h
/-! Structs built -/
def structFact (P : Program) (T : TypeId) : Option (Array Value × List (Nat × Nat)) :=
  match P.info? T, P.underlying T with
  | some it, some (.struct fs) => match it.zero, fs.toList.mapM (fun f => (P.info? f.type).map fun i => (f.offset, i.size)) with
    | some zv, some pl => some (zv.cells, pl)
    | _, _ => none
  | _, _ => none
class KStruct (P : Program) (T : TypeId) (z : outParam (List Value)) (pl : outParam (List (Nat × Nat))) : Prop where out : structFact P T = some (⟨z⟩, pl)
def cellsL : Value → List Value
  | .agg ⟨l⟩ => l
  | v => [v]
theorem cellsL_eq (v : Value) : v.cells = ⟨cellsL v⟩ := by cases v <;> rfl
def nthP : List (Nat × Nat) → Nat → Option (Nat × Nat)
  | [], _ => none
  | p :: _, 0 => some p
  | _ :: l, i + 1 => nthP l i
theorem nthP_eq {l : List (Nat × Nat)} {i : Nat} : nthP l i = l[i]? := by
  induction l generalizing i with
  | nil => rfl
  | cons v l ih => cases i <;> simp [nthP, ih]
def fillL (pl : List (Nat × Nat)) : List Value → List (Nat × Value) → Option (List Value)
  | cells, [] => some cells
  | cells, (i, v) :: r => match nthP pl i with
    | some (off, size) => match Nat.beq (cellsL v).length size, Nat.ble (off + size) cells.length with
      | true, true => fillL pl (lay cells off (cellsL v)) r
      | _, _ => none
    | none => none
theorem foldl_lay : ∀ (vs : List Value) (off k : Nat) (cells : Array Value), (vs.zipIdx k).foldl (fun cs (c, j) => cs.setIfInBounds (off + j) c) cells = ⟨if off + k + vs.length ≤ cells.size then cells.toList.take (off + k) ++ vs ++ cells.toList.drop (off + k + vs.length) else ((vs.zipIdx k).foldl (fun cs (c, j) => cs.setIfInBounds (off + j) c) cells).toList⟩
  | [], off, k, cells => by simp
  | v :: vs, off, k, cells => by
    by_cases h : off + k + (v :: vs).length ≤ cells.size
    · rw [if_pos h]
      simp only [List.zipIdx_cons, List.foldl_cons]
      rw [foldl_lay vs off (k + 1)]
      simp only [List.length_cons] at h
      rw [if_pos (by simp; omega)]
      apply Array.ext'
      apply List.ext_getElem?
      intro i
      simp only [Array.toList_setIfInBounds, List.getElem?_append, List.length_take, List.length_append, List.getElem?_take, List.getElem?_drop, List.getElem?_set, List.length_set, Array.length_toList, List.length_cons, List.take_set, List.drop_set]
      have e1 : min (off + k) cells.size = off + k := by omega
      have e2 : min (off + (k + 1)) cells.size = off + (k + 1) := by omega
      simp only [e1, e2]
      rcases Nat.lt_trichotomy i (off + k) with h1 | h1 | h1
      · have c1 : i < off + (k + 1) + vs.length := by omega
        have c2 : i < off + (k + 1) := by omega
        have c3 : i < off + k + (vs.length + 1) := by omega
        have c4 : off + k ≠ i := by omega
        simp [c1, c2, c3, c4, h1]
      · subst h1
        simp
        omega
      · have c0 : ¬ i < off + k := by omega
        have c1 : ¬ i < off + (k + 1) := by omega
        have c2 : i - (off + k) = (i - (off + (k + 1))) + 1 := by omega
        have c3 : off + (k + 1) + vs.length = off + k + (vs.length + 1) := by omega
        have c4 : ¬ off + k = i := by omega
        by_cases c5 : i < off + k + (vs.length + 1)
        · simp [c0, c1, c2, c3, c5]
        · have c6 : ¬ off + k = off + k + (vs.length + 1) + (i - (off + k + (vs.length + 1))) := by omega
          simp [c0, c1, c3, c5, c6]
    · rw [if_neg h]
theorem fill_of {pl : List (Nat × Nat)} {place : Nat → Option (Nat × Nat)} (hpl : ∀ i q, pl[i]? = some q → place i = some q) : ∀ {vs : List (Nat × Value)} {cells cs : List Value}, fillL pl cells vs = some cs → Instr.fill place ⟨cells⟩ vs = some ⟨cs⟩
  | [], cells, cs, h => by simp only [fillL, Option.some.injEq] at h; subst h; rfl
  | (i, v) :: r, cells, cs, h => by
    simp only [fillL] at h
    split at h
    · rename_i off size hp
      split at h
      · rename_i h1 h2
        have h1 := Nat.eq_of_beq_eq_true h1
        have h2 := Nat.le_of_ble_eq_true h2
        rw [nthP_eq] at hp
        have hp' : place i = some (off, size) := hpl _ _ hp
        have hc := cellsL_eq v
        have hsz : v.cells.size = size := by rw [hc]; exact h1
        simp only [Instr.fill, hp', hsz]
        rw [if_neg (by simp; exact h2)]
        have hf := foldl_lay (cellsL v) off 0 ⟨cells⟩
        have hz : v.cells.zipIdx.foldl (fun cs (c, j) => cs.setIfInBounds (off + j) c) (⟨cells⟩ : Array Value) = ⟨lay cells off (cellsL v)⟩ := by
          rw [hc]
          rw [← Array.foldl_toList, Array.toList_zipIdx]
          rw [hf, if_pos (by simp; omega)]
          simp [lay]
        rw [hz]
        exact fill_of hpl h
      · cases h
    · cases h
theorem built_of {P : Program} {T : TypeId} {z cs : List Value} {pl : List (Nat × Nat)} {vs : List (Nat × Value)} (hs : structFact P T = some (⟨z⟩, pl)) (h : fillL pl z vs = some cs) : P.built T vs = some ⟨cs⟩ := by
  unfold structFact at hs
  unfold Program.built
  split at hs
  · rename_i it fs h1 h2
    split at hs
    · rename_i zv pl' h3 h4
      simp only [Option.some.injEq, Prod.mk.injEq] at hs
      obtain ⟨h5, rfl⟩ := hs
      simp only [h1, h2, h3, h4, h5]
      exact fill_of (fun i q h => by simpa using h) h
    · cases hs
  · cases hs
def reps (z : List Value) : Nat → List Value
  | 0 => []
  | n + 1 => z ++ reps z n
def plc (size : Nat) : Nat → Nat → List (Nat × Nat)
  | 0, _ => []
  | n + 1, k => (k * size, size) :: plc size n (k + 1)
theorem reps_eq (z : List Value) : ∀ n, reps z n = (List.replicate n z).flatten
  | 0 => rfl
  | n + 1 => by rw [reps, reps_eq z n]; rfl
theorem plc_at {size : Nat} : ∀ {n k i : Nat} {q : Nat × Nat}, (plc size n k)[i]? = some q → q = ((k + i) * size, size)
  | 0, _, _, _, h => by simp [plc] at h
  | n + 1, k, 0, q, h => by simp [plc] at h; rw [← h]; rfl
  | n + 1, k, i + 1, q, h => by
    simp only [plc, List.getElem?_cons_succ] at h
    rw [plc_at h]; congr 2; omega
theorem builtSlice_of {P : Program} {T E n size bytes : Nat} {z cs : List Value} {vs : List (Nat × Value)} (hs : slice1 P T E size) (hi : info1 P E z size bytes) (hz : z.length = size) (hn : 0 < n * size ∧ n * size ≤ 16777216) (h : fillL (plc size n 0) (reps z n) vs = some cs) : builtSlice P T n vs = some (E, ⟨cs⟩) := by
  obtain ⟨i, zv, h1, h2, h3, h4, _⟩ := hi.parts
  have hz0 : 0 < z.length := by rw [hz]; exact Nat.pos_of_mul_pos_left hn.1
  unfold builtSlice
  simp only [hs.1, h1, h2, h4, h3]
  rw [if_neg (by simp; omega)]
  have hc : ((Array.range (n * size)).map ((⟨z⟩ : Array Value)[· % (⟨z⟩ : Array Value).size]!)) = ⟨reps z n⟩ := by
    apply Array.ext'
    rw [← hz, madeCells_list z hz0 n, reps_eq]
  rw [hc, fill_of (fun j q hq => by rw [plc_at hq]; simp) h]
  rfl

/-! ### 4. Memory -/
section
variable {x y : Operand} {b off n k j c E T : Nat} {cs ls ls' : List Value} {v : Value} {α : Type} {R : Rel α} {a : Option Addr} {xs : List α} {q : α} {i : Int} {kk : IntKind}
theorem s_load [KOne P T] (h : VC N ((d, v) :: e) (blk b E ls :: m) w0 (wpList P ops Q rest)) (hx : see e x = some (.pointer (some ⟨b, off, none⟩)) := by rfl)
    (ht : Take (blk b E ls) l m := by repeat (first | exact Take.here | apply Take.there)) (hv : ls[off]? = some v := by rfl) (hd : Nat.blt d N = true := by rfl) : VC N e l w0 (wpList P ops Q (⟨some d, .load T x, t, pos, aft, none⟩ :: rest)) :=
  vc_op (o := ⟨some d, .load T x, t, pos, aft, none⟩) rfl hd (op_load KOne.out hx hv) (.cons ht .nil) fun _ _ => h
theorem s_load_ro [KOne P T] (h : VC N ((d, v) :: e) m w0 (wpList P ops Q rest)) (hx : see e x = some (.pointer (some ⟨b, off, none⟩)) := by rfl)
    (ht : Take (rblk b E ls) l m := by repeat (first | exact Take.keep | apply Take.there)) (hv : ls[off]? = some v := by rfl) (hd : Nat.blt d N = true := by rfl) : VC N e l w0 (wpList P ops Q (⟨some d, .load T x, t, pos, aft, none⟩ :: rest)) :=
  vc_op (o := ⟨some d, .load T x, t, pos, aft, none⟩) rfl hd (op_load_ro KOne.out hx hv) (.cons ht .nil) fun _ _ => h
theorem s_load_rdc [KOne P T] (h : VC N ((d, v) :: e) m w0 (wpList P ops Q rest)) (hx : see e x = some (.pointer (some ⟨b, off + k, none⟩)) := by rfl)
    (ht : Take (rdc b off ls) l m := by repeat (first | exact Take.keep | apply Take.there)) (hv : ls[k]? = some v := by rfl) (hd : Nat.blt d N = true := by rfl) : VC N e l w0 (wpList P ops Q (⟨some d, .load T x, t, pos, aft, none⟩ :: rest)) :=
  vc_op (o := ⟨some d, .load T x, t, pos, aft, none⟩) rfl hd (op_load_rdc KOne.out hx hv) (.cons ht .nil) fun _ _ => h
theorem s_load_rdc0 [KOne P T] (h : VC N ((d, v) :: e) m w0 (wpList P ops Q rest)) (hx : see e x = some (.pointer (some ⟨b, off, none⟩)) := by rfl)
    (ht : Take (rdc b off ls) l m := by repeat (first | exact Take.keep | apply Take.there)) (hv : ls[0]? = some v := by rfl) (hd : Nat.blt d N = true := by rfl) : VC N e l w0 (wpList P ops Q (⟨some d, .load T x, t, pos, aft, none⟩ :: rest)) :=
  vc_op (o := ⟨some d, .load T x, t, pos, aft, none⟩) rfl hd (op_load_rdc0 KOne.out hx hv) (.cons ht .nil) fun _ _ => h
theorem s_loada_rdc [KAgg P T n] (h : VC N ((d, .agg ⟨cs⟩) :: e) m w0 (wpList P ops Q rest)) (hx : see e x = some (.pointer (some ⟨b, off + k, none⟩)) := by rfl)
    (ht : Take (rdc b off ls) l m := by repeat (first | exact Take.keep | apply Take.there)) (hk : Nat.ble (k + n) ls.length = true := by rfl) (hn : 0 < n := by decide) (hv : cut ls k n = cs := by first | (simp only [cut, List.drop, List.take]; done) | (simp only [cut, List.drop, List.take]; rfl) | rfl) (hd : Nat.blt d N = true := by rfl) : VC N e l w0 (wpList P ops Q (⟨some d, .load T x, t, pos, aft, none⟩ :: rest)) :=
  vc_op (o := ⟨some d, .load T x, t, pos, aft, none⟩) rfl hd (op_load_rdc_agg KAgg.out hx hk hn hv) (.cons ht .nil) fun _ _ => h
theorem s_loada_rdc0 [KAgg P T n] (h : VC N ((d, .agg ⟨cs⟩) :: e) m w0 (wpList P ops Q rest)) (hx : see e x = some (.pointer (some ⟨b, off, none⟩)) := by rfl)
    (ht : Take (rdc b off ls) l m := by repeat (first | exact Take.keep | apply Take.there)) (hk : Nat.ble n ls.length = true := by rfl) (hn : 0 < n := by decide) (hv : cut ls 0 n = cs := by first | (simp only [cut, List.drop, List.take]; done) | (simp only [cut, List.drop, List.take]; rfl) | rfl) (hd : Nat.blt d N = true := by rfl) : VC N e l w0 (wpList P ops Q (⟨some d, .load T x, t, pos, aft, none⟩ :: rest)) :=
  vc_op (o := ⟨some d, .load T x, t, pos, aft, none⟩) rfl hd (op_load_rdc_agg0 KAgg.out hx hk hn hv) (.cons ht .nil) fun _ _ => h
theorem s_loada [KAgg P T n] (h : VC N ((d, .agg ⟨cs⟩) :: e) (blk b E ls :: m) w0 (wpList P ops Q rest)) (hx : see e x = some (.pointer (some ⟨b, off, none⟩)) := by rfl)
    (ht : Take (blk b E ls) l m := by repeat (first | exact Take.here | apply Take.there)) (hl : Nat.ble (off + n) ls.length = true := by rfl) (hv : cut ls off n = cs := by first | (simp only [cut, List.drop, List.take]; done) | (simp only [cut, List.drop, List.take]; rfl) | rfl) (hd : Nat.blt d N = true := by rfl) : VC N e l w0 (wpList P ops Q (⟨some d, .load T x, t, pos, aft, none⟩ :: rest)) :=
  vc_op (o := ⟨some d, .load T x, t, pos, aft, none⟩) rfl hd (op_load_agg KAgg.out hx hl hv) (.cons ht .nil) fun _ _ => h
theorem s_loada_ro [KAgg P T n] (h : VC N ((d, .agg ⟨cs⟩) :: e) m w0 (wpList P ops Q rest)) (hx : see e x = some (.pointer (some ⟨b, off, none⟩)) := by rfl)
    (ht : Take (rblk b E ls) l m := by repeat (first | exact Take.keep | apply Take.there)) (hl : Nat.ble (off + n) ls.length = true := by rfl) (hv : cut ls off n = cs := by first | (simp only [cut, List.drop, List.take]; done) | (simp only [cut, List.drop, List.take]; rfl) | rfl) (hd : Nat.blt d N = true := by rfl) : VC N e l w0 (wpList P ops Q (⟨some d, .load T x, t, pos, aft, none⟩ :: rest)) :=
  vc_op (o := ⟨some d, .load T x, t, pos, aft, none⟩) rfl hd (op_load_agg_ro KAgg.out hx hl hv) (.cons ht .nil) fun _ _ => h
theorem s_store [KSize P T 1] (h : VC N e (blk b E ls' :: m) w0 (wpList P ops Q rest)) (hx : see e x = some (.pointer (some ⟨b, off, none⟩)) := by rfl) (hy : see e y = some v := by rfl)
    (ht : Take (blk b E ls) l m := by repeat (first | exact Take.here | apply Take.there)) (hc : v.cells = #[v] := by rfl) (hv : v.oneCell' = true := by rfl) (hl : Nat.blt off ls.length = true := by rfl) (hl' : setl ls off v = ls' := by first | (simp only [setl]; done) | (simp only [setl]; rfl) | rfl) : VC N e l w0 (wpList P ops Q (⟨none, .store T x y, t, pos, aft, none⟩ :: rest)) :=
  vc_op (o := ⟨none, .store T x y, t, pos, aft, none⟩) rfl rfl (op_store KSize.out hx hy hc hv hl hl') (.cons ht .nil) fun _ _ => h
theorem s_storea [KSize P T n] (h : VC N e (blk b E ls' :: m) w0 (wpList P ops Q rest)) (hx : see e x = some (.pointer (some ⟨b, off, none⟩)) := by rfl) (hy : see e y = some (.agg ⟨cs⟩) := by rfl)
    (ht : Take (blk b E ls) l m := by repeat (first | exact Take.here | apply Take.there)) (hn : cs.length = n := by rfl) (hv : cs.all (·.oneCell') = true := by rfl) (hl : Nat.ble (off + cs.length) ls.length = true := by rfl) (hl' : lay ls off cs = ls' := by first | (simp only [lay, List.take, List.drop, List.append, List.length, List.nil_append, List.cons_append, List.append_nil]; done) | (simp only [lay, List.take, List.drop, List.append, List.length, List.nil_append, List.cons_append, List.append_nil]; rfl) | rfl) : VC N e l w0 (wpList P ops Q (⟨none, .store T x y, t, pos, aft, none⟩ :: rest)) :=
  vc_op (o := ⟨none, .store T x y, t, pos, aft, none⟩) rfl rfl (op_store_agg (by rw [hn]; exact KSize.out) hx hy hv hl hl') (.cons ht .nil) fun _ _ => h
theorem s_alloc {bytes : Nat} [KInfo P T ls n bytes] (h : ∀ b, VC N ((d, .pointer (some ⟨b, 0, none⟩)) :: e) (blk b T ls :: l) w0 (wpList P ops Q rest)) (hd : Nat.blt d N = true := by rfl) : VC N e l w0 (wpList P ops Q (⟨some d, .alloc T, t, pos, aft, none⟩ :: rest)) :=
  vc_op (o := ⟨some d, .alloc T, t, pos, aft, none⟩) rfl hd (op_alloc KInfo.out) .nil fun b _ => h b
theorem s_box (h : ∀ b, VC N ((d, .pointer (some ⟨b, 0, none⟩)) :: e) (blk b T ls :: l) w0 (wpList P ops Q rest)) (hx : see e x = some v := by rfl) (hc : v.cells = ⟨ls⟩ := by rfl) (hd : Nat.blt d N = true := by rfl) : VC N e l w0 (wpList P ops Q (⟨some d, .box T x, t, pos, aft, none⟩ :: rest)) :=
  vc_op (o := ⟨some d, .box T x, t, pos, aft, none⟩) rfl hd (op_box hx hc) .nil fun b _ => h b
theorem s_build {z cs0 : List Value} {pl : List (Nat × Nat)} [KStruct P T z pl] {ps : Array (Nat × Operand)} {vs : List (Nat × Value)} (h : VC N ((d, .agg ⟨cs⟩) :: e) l w0 (wpList P ops Q rest)) (hp : seePs e ps.toList = some vs := by rfl) (hb : fillL pl z vs = some cs0 := by rfl)
    (hn : cs0 = cs := by first | (simp only [cellsL, lay, List.take, List.drop, List.append, List.length, List.cons_append, List.nil_append]; rfl) | rfl) (hd : Nat.blt d N = true := by rfl) : VC N e l w0 (wpList P ops Q (⟨some d, .build T ps, t, pos, aft, none⟩ :: rest)) :=
  vc_op (o := ⟨some d, .build T ps, t, pos, aft, none⟩) rfl hd (op_build (seePs_eq hp) (hn ▸ built_of KStruct.out hb)).d .nil fun _ _ => h
theorem s_buildSlice {z cs0 : List Value} {size bytes : Nat} [KSlice P T E size] [KInfo P E z size bytes] {ps : Array (Nat × Operand)} {vs : List (Nat × Value)} (h : ∀ b, VC N ((d, .slice (some ⟨b, 0, none⟩) n n) :: e) (blk b E ls :: l) w0 (wpList P ops Q rest)) (hp : seePs e ps.toList = some vs := by rfl)
    (hb : fillL (plc size n 0) (reps z n) vs = some cs0 := by rfl)
    (hn : cs0 = ls := by first | (simp only [cellsL, lay, reps, List.take, List.drop, List.append, List.length, List.cons_append, List.nil_append]; rfl) | rfl) (hz : z.length = size := by rfl) (hk : 0 < n * size ∧ n * size ≤ 16777216 := by decide) (hd : Nat.blt d N = true := by rfl) : VC N e l w0 (wpList P ops Q (⟨some d, .buildSlice T n ps, t, pos, aft, none⟩ :: rest)) :=
  vc_op (o := ⟨some d, .buildSlice T n ps, t, pos, aft, none⟩) rfl hd (op_buildSlice (seePs_eq hp) (hn ▸ builtSlice_of KSlice.out KInfo.out hz hk hb)) .nil fun b _ => h b
theorem oe_buildSlice {dst : Option Tmp} {g : Option (Nat × Bool)} {z cs0 : List Value} {size bytes : Nat} [KSlice P T E size] [KInfo P E z size bytes] {ps : Array (Nat × Operand)} {vs : List (Nat × Value)} (hp : seePs e ps.toList = some vs := by rfl)
    (hb : fillL (plc size n 0) (reps z n) vs = some cs0 := by rfl)
    (hn : cs0 = ls := by first | (simp only [cellsL, lay, reps, List.take, List.drop, List.append, List.length, List.cons_append, List.nil_append]; rfl) | rfl) (hz : z.length = size := by rfl) (hk : 0 < n * size ∧ n * size ≤ 16777216 := by decide) :
    OpE P e ⟨dst, .buildSlice T n ps, t, pos, aft, g⟩ [] (fun b : Nat => .slice (some ⟨b, 0, none⟩) n n) (fun _ => True) (fun b => [blk b E ls]) := op_buildSlice (seePs_eq hp) (hn ▸ builtSlice_of KSlice.out KInfo.out hz hk hb)
theorem s_index_rd [KSlice P T E n] (h : VC N ((d, .pointer (some ⟨bk a, of a + i.toNat * n, none⟩)) :: e) m w0 (wpList P ops Q rest)) (hx : see e x = some (.slice a xs.length c) := by rfl) (hy : see e y = some (.int kk i) := by rfl)
    (ht : Take (rd R a c xs) l m := by repeat (first | exact Take.keep | apply Take.there)) (hi : 0 ≤ i ∧ i < xs.length := by omega) (hd : Nat.blt d N = true := by rfl) : VC N e l w0 (wpList P ops Q (⟨some d, .indexAddr T x y, t, pos, aft, none⟩ :: rest)) :=
  vc_op (o := ⟨some d, .indexAddr T x y, t, pos, aft, none⟩) rfl hd (op_index_rd KSlice.out hx hy hi) (.cons ht .nil) fun _ _ => h
theorem s_index_own [KSlice P T E n] (h : VC N ((d, .pointer (some ⟨bk a, of a + i.toNat * n, none⟩)) :: e) (own R E a c xs :: m) w0 (wpList P ops Q rest)) (hx : see e x = some (.slice a xs.length c) := by rfl) (hy : see e y = some (.int kk i) := by rfl)
    (ht : Take (own R E a c xs) l m := by repeat (first | exact Take.here | apply Take.there)) (hi : 0 ≤ i ∧ i < xs.length := by omega) (hd : Nat.blt d N = true := by rfl) : VC N e l w0 (wpList P ops Q (⟨some d, .indexAddr T x y, t, pos, aft, none⟩ :: rest)) :=
  vc_op (o := ⟨some d, .indexAddr T x y, t, pos, aft, none⟩) rfl hd (op_index_own KSlice.out hx hy hi) (.cons ht .nil) fun _ _ => h
theorem s_load_rd [KOne P T] (h : VC N ((d, v) :: e) m w0 (wpList P ops Q rest)) (hx : see e x = some (.pointer (some ⟨bk a, of a + j * n + k, none⟩)) := by rfl) (ht : Take (rd R a c xs) l m := by repeat (first | exact Take.keep | apply Take.there))
    (hn : R.n = n := by rfl) (hq : xs[j]? = some q := by assumption) (hv : ∀ f c, R.rel f q c → c[k]? = some v := by intro f c h; cases h; rfl) (hd : Nat.blt d N = true := by rfl) : VC N e l w0 (wpList P ops Q (⟨some d, .load T x, t, pos, aft, none⟩ :: rest)) :=
  vc_op (o := ⟨some d, .load T x, t, pos, aft, none⟩) rfl hd (op_load_rd KOne.out (by rw [hn]; exact hx) hq hv) (.cons ht .nil) fun _ _ => h
theorem s_load_rd0 [KOne P T] (h : VC N ((d, v) :: e) m w0 (wpList P ops Q rest)) (hx : see e x = some (.pointer (some ⟨bk a, of a + j * n, none⟩)) := by rfl) (ht : Take (rd R a c xs) l m := by repeat (first | exact Take.keep | apply Take.there))
    (hn : R.n = n := by rfl) (hq : xs[j]? = some q := by assumption) (hv : ∀ f c, R.rel f q c → c[0]? = some v := by intro f c h; cases h; rfl) (hd : Nat.blt d N = true := by rfl) : VC N e l w0 (wpList P ops Q (⟨some d, .load T x, t, pos, aft, none⟩ :: rest)) :=
  vc_op (o := ⟨some d, .load T x, t, pos, aft, none⟩) rfl hd (op_load_rd0 KOne.out (by rw [hn]; exact hx) hq hv) (.cons ht .nil) fun _ _ => h
theorem s_load_own [KOne P T] (h : VC N ((d, v) :: e) (own R E a c xs :: m) w0 (wpList P ops Q rest)) (hx : see e x = some (.pointer (some ⟨bk a, of a + j * n + k, none⟩)) := by rfl) (ht : Take (own R E a c xs) l m := by repeat (first | exact Take.here | apply Take.there))
    (hn : R.n = n := by rfl) (hq : xs[j]? = some q := by assumption) (hv : ∀ f c, R.rel f q c → c[k]? = some v := by intro f c h; cases h; rfl) (hd : Nat.blt d N = true := by rfl) : VC N e l w0 (wpList P ops Q (⟨some d, .load T x, t, pos, aft, none⟩ :: rest)) :=
  vc_op (o := ⟨some d, .load T x, t, pos, aft, none⟩) rfl hd (op_load_own KOne.out (by rw [hn]; exact hx) hq hv) (.cons ht .nil) fun _ _ => h
theorem s_load_own0 [KOne P T] (h : VC N ((d, v) :: e) (own R E a c xs :: m) w0 (wpList P ops Q rest)) (hx : see e x = some (.pointer (some ⟨bk a, of a + j * n, none⟩)) := by rfl) (ht : Take (own R E a c xs) l m := by repeat (first | exact Take.here | apply Take.there))
    (hn : R.n = n := by rfl) (hq : xs[j]? = some q := by assumption) (hv : ∀ f c, R.rel f q c → c[0]? = some v := by intro f c h; cases h; rfl) (hd : Nat.blt d N = true := by rfl) : VC N e l w0 (wpList P ops Q (⟨some d, .load T x, t, pos, aft, none⟩ :: rest)) :=
  vc_op (o := ⟨some d, .load T x, t, pos, aft, none⟩) rfl hd (op_load_own0 KOne.out (by rw [hn]; exact hx) hq hv) (.cons ht .nil) fun _ _ => h
/-- A whole element. -/
theorem s_loada_rd [KAgg P T n] (h : VC N ((d, .agg ⟨cs⟩) :: e) m w0 (wpList P ops Q rest)) (hx : see e x = some (.pointer (some ⟨bk a, of a + j * n, none⟩)) := by rfl) (ht : Take (rd R a c xs) l m := by repeat (first | exact Take.keep | apply Take.there))
    (hn : R.n = n := by rfl) (hq : xs[j]? = some q := by assumption) (hv : ∀ f c, R.rel f q c → cut c 0 n = cs := by intro f c h; cases h; first | (simp only [cut, List.drop, List.take]; done) | (simp only [cut, List.drop, List.take]; rfl) | rfl) (hd : Nat.blt d N = true := by rfl) : VC N e l w0 (wpList P ops Q (⟨some d, .load T x, t, pos, aft, none⟩ :: rest)) :=
  vc_op (o := ⟨some d, .load T x, t, pos, aft, none⟩) rfl hd (op_load_rd_agg0 KAgg.out (by rw [hn]; exact hx) hq (by omega) hv) (.cons ht .nil) fun _ _ => h
/-- A struct inside an element. -/
theorem s_loada_rdk {n' : Nat} [KAgg P T n'] (h : VC N ((d, .agg ⟨cs⟩) :: e) m w0 (wpList P ops Q rest)) (hx : see e x = some (.pointer (some ⟨bk a, of a + j * n + k, none⟩)) := by rfl) (ht : Take (rd R a c xs) l m := by repeat (first | exact Take.keep | apply Take.there))
    (hn : R.n = n := by rfl) (hq : xs[j]? = some q := by assumption) (hk : Nat.ble (k + n') n = true := by rfl) (hv : ∀ f c, R.rel f q c → cut c k n' = cs := by intro f c h; cases h; first | (simp only [cut, List.drop, List.take]; done) | (simp only [cut, List.drop, List.take]; rfl) | rfl) (hd : Nat.blt d N = true := by rfl) : VC N e l w0 (wpList P ops Q (⟨some d, .load T x, t, pos, aft, none⟩ :: rest)) :=
  vc_op (o := ⟨some d, .load T x, t, pos, aft, none⟩) rfl hd (op_load_rd_agg KAgg.out (by rw [hn]; exact hx) hq (by rw [hn]; exact Nat.le_of_ble_eq_true hk) hv) (.cons ht .nil) fun _ _ => h
/-- A whole element, its cells told behind it. -/
theorem s_loadx_rd [KAgg P T n] (h : ∀ cs, VC N ((d, .agg ⟨cs⟩) :: e) (hold R q cs :: m) w0 (wpList P ops Q rest)) (hx : see e x = some (.pointer (some ⟨bk a, of a + j * n, none⟩)) := by rfl) (ht : Take (rd R a c xs) l m := by repeat (first | exact Take.keep | apply Take.there))
    (hn : R.n = n := by rfl) (hq : xs[j]? = some q := by assumption) (hd : Nat.blt d N = true := by rfl) : VC N e l w0 (wpList P ops Q (⟨some d, .load T x, t, pos, aft, none⟩ :: rest)) :=
  vc_op (o := ⟨some d, .load T x, t, pos, aft, none⟩) rfl hd (op_load_rd_all KAgg.out hn.symm (by rw [hn]; exact hx) hq) (.cons ht .nil) fun cs _ => h cs
theorem s_loadx_own [KAgg P T n] (h : ∀ cs, VC N ((d, .agg ⟨cs⟩) :: e) (hold R q cs :: own R E a c xs :: m) w0 (wpList P ops Q rest)) (hx : see e x = some (.pointer (some ⟨bk a, of a + j * n, none⟩)) := by rfl) (ht : Take (own R E a c xs) l m := by repeat (first | exact Take.here | apply Take.there))
    (hn : R.n = n := by rfl) (hq : xs[j]? = some q := by assumption) (hd : Nat.blt d N = true := by rfl) : VC N e l w0 (wpList P ops Q (⟨some d, .load T x, t, pos, aft, none⟩ :: rest)) :=
  vc_op (o := ⟨some d, .load T x, t, pos, aft, none⟩) rfl hd (op_load_own_all KAgg.out hn.symm (by rw [hn]; exact hx) hq) (.cons ht .nil) fun cs _ => h cs
end

/-- ONE STEP. -/
theorem st {G G' : Prop} (k : G') (h : G' → G := by
    first
      | exact fun k => sv k
      | exact vc_seq | exact vc_region | exact vc_nil | exact vc_then | exact vc_block | exact vc_ret | exact vc_skip | exact vc_exit
      | exact vc_in_n | exact vc_in_r | exact vc_in_x | exact vc_in_y rfl | exact vc_then_r | exact vc_then_x
      | exact fun k => s_load k | exact fun k => s_load_rdc k | exact fun k => s_load_rdc0 k | exact fun k => s_index_rd k | exact fun k => s_load_rd0 k | exact fun k => s_load_rd k | exact fun k => s_store k
      | exact fun k => s_loada k | exact fun k => s_loada_rd k | exact fun k => s_loada_rdk k | exact fun k => s_storea k | exact fun k => s_load_ro k | exact fun k => s_loada_ro k | exact fun k => s_loada_rdc k | exact fun k => s_loada_rdc0 k
      | exact fun k => s_index_own k | exact fun k => s_load_own0 k | exact fun k => s_load_own k
      | exact fun k => s_build k) : G := h k

/-! ### 5. Operations with an outcome of a family -/
theorem so {A : List Asrt} {α : Type} {val : α → Value} {pu : α → Prop} {res : α → List Asrt} (ho : OpE P e ⟨some d, op, t, pos, aft, none⟩ A val pu res) (h : ∀ x, pu x → VC N ((d, val x) :: e) (res x ++ m) w0 (wpList P ops Q rest))
    (ht : Takes A l m := by repeat (first | exact Takes.nil | (apply Takes.cons; repeat (first | exact Take.keep | exact Take.here | exact take_rd_nil | exact take_own_nil | apply Take.there))))
    (hd : Nat.blt d N = true := by rfl) : VC N e l w0 (wpList P ops Q (⟨some d, op, t, pos, aft, none⟩ :: rest)) :=
  vc_op (o := ⟨some d, op, t, pos, aft, none⟩) rfl hd ho ht h
theorem so0 {A : List Asrt} {α : Type} {val : α → Value} {pu : α → Prop} {res : α → List Asrt} (ho : OpE P e ⟨none, op, t, pos, aft, none⟩ A val pu res) (h : ∀ x, pu x → VC N e (res x ++ m) w0 (wpList P ops Q rest))
    (ht : Takes A l m := by repeat (first | exact Takes.nil | (apply Takes.cons; repeat (first | exact Take.keep | exact Take.here | exact take_rd_nil | exact take_own_nil | apply Take.there)))) : VC N e l w0 (wpList P ops Q (⟨none, op, t, pos, aft, none⟩ :: rest)) :=
  vc_op (o := ⟨none, op, t, pos, aft, none⟩) rfl rfl ho ht h
theorem sod {A A' : List Asrt} {v : Value} (ho : OpD P e ⟨some d, op, t, pos, aft, none⟩ A v A') (h : VC N ((d, v) :: e) (A' ++ m) w0 (wpList P ops Q rest))
    (ht : Takes A l m := by repeat (first | exact Takes.nil | (apply Takes.cons; repeat (first | exact Take.keep | exact Take.here | exact take_rd_nil | exact take_own_nil | apply Take.there))))
    (hd : Nat.blt d N = true := by rfl) : VC N e l w0 (wpList P ops Q (⟨some d, op, t, pos, aft, none⟩ :: rest)) :=
  vc_op (o := ⟨some d, op, t, pos, aft, none⟩) rfl hd ho ht fun _ _ => h
theorem sod0 {A A' : List Asrt} {v : Value} (ho : OpD P e ⟨none, op, t, pos, aft, none⟩ A v A') (h : VC N e (A' ++ m) w0 (wpList P ops Q rest))
    (ht : Takes A l m := by repeat (first | exact Takes.nil | (apply Takes.cons; repeat (first | exact Take.keep | exact Take.here | exact take_rd_nil | exact take_own_nil | apply Take.there)))) : VC N e l w0 (wpList P ops Q (⟨none, op, t, pos, aft, none⟩ :: rest)) :=
  vc_op (o := ⟨none, op, t, pos, aft, none⟩) rfl rfl ho ht fun _ _ => h
/-- A call; the contract is named. -/
theorem ca {f : FuncId} {args : Array Operand} {vs : List Value} {ts : Array TypeId} {α : Type} {pre : List Asrt} {val : α → Value} {pu : α → Prop} {res : α → List Asrt} [KCall P f]
    (hs : Does P f vs.toArray pre val pu res) (h : ∀ x, pu x → VC N ((d, val x) :: e) (res x ++ m) w0 (wpList P ops Q rest))
    (ha : args.toList.map (see e) = vs.map some := by rfl)
    (ht : Takes pre l m := by repeat (first | exact Takes.nil | (apply Takes.cons; repeat (first | exact Take.keep | exact Take.here | exact take_rd_nil | exact take_own_nil | apply Take.there))))
    (hd : Nat.blt d N = true := by rfl) : VC N e l w0 (wpList P ops Q (⟨some d, .call ⟨.value (.func f), args, ts⟩, t, pos, aft, none⟩ :: rest)) :=
  vc_op (o := ⟨some d, .call ⟨.value (.func f), args, ts⟩, t, pos, aft, none⟩) rfl hd (op_call hs KCall.out ha) ht h
/-- A call of a function that has one outcome. -/
theorem cd {f : FuncId} {args : Array Operand} {vs : List Value} {ts : Array TypeId} {pre : List Asrt} {v : Value} {res : List Asrt} [KCall P f]
    (hs : Does P f vs.toArray pre (fun _ : Unit => v) (fun _ => True) (fun _ => res)) (h : VC N ((d, v) :: e) (res ++ m) w0 (wpList P ops Q rest))
    (ha : args.toList.map (see e) = vs.map some := by rfl)
    (ht : Takes pre l m := by repeat (first | exact Takes.nil | (apply Takes.cons; repeat (first | exact Take.keep | exact Take.here | exact take_rd_nil | exact take_own_nil | apply Take.there))))
    (hd : Nat.blt d N = true := by rfl) : VC N e l w0 (wpList P ops Q (⟨some d, .call ⟨.value (.func f), args, ts⟩, t, pos, aft, none⟩ :: rest)) :=
  vc_op (o := ⟨some d, .call ⟨.value (.func f), args, ts⟩, t, pos, aft, none⟩) rfl hd (op_call hs KCall.out ha) ht fun _ _ => h
end

theorem opD_e {o : Oper} {A A' : List Asrt} {v : Value} (h : OpD P e o A v A') : OpE P e o A (fun _ : Unit => v) (fun _ => True) (fun _ => A') := h
theorem opE_pre {o : Oper} {A A' : List Asrt} {α : Type} {val : α → Value} {pu : α → Prop} {res : α → List Asrt} (h : OpE P e o A' val pu res) (hs : ∀ (R : Asrt) w, Sat (A ++ [R]) w → Sat (A' ++ [R]) w) : OpE P e o A val pu res := fun ρ hρ R w hS => h ρ hρ R w (hs R w hS)
/-! ### 6. Guards -/
section
variable {d : Nat} {op : Op} {t : TypeId} {pos : String} {aft : Array Edge}
/-- The guard lets it by. -/
theorem sg {j dj : Nat} {b : Bool} {u : Value} {oj : Oper} (h : VC N ((d, undef) :: e) l w0 (wpList P ops Q rest)) (hj : ops[j]? = some oj := by rfl) (hjd : oj.dst = some dj := by rfl) (hb : look e dj = some u := by rfl) (hne : (asB u == some b) = false := by rfl) (hd : Nat.blt d N = true := by rfl) :
    VC N e l w0 (wpList P ops Q (⟨some d, op, t, pos, aft, some (j, b)⟩ :: rest)) :=
  vc_op_skip (o := ⟨some d, op, t, pos, aft, some (j, b)⟩) rfl hj hjd hb hne hd h
end

section
variable {dst : Option Tmp} {op : Op} {t : TypeId} {pos : String} {aft : Array Edge}
/-- A guard that is met is no guard. -/
theorem su {j dj : Nat} {b : Bool} {oj : Oper} (h : VC N e l w0 (wpList P ops Q (⟨dst, op, t, pos, aft, none⟩ :: rest))) (hj : ops[j]? = some oj := by rfl) (hjd : oj.dst = some dj := by rfl) (hb : look e dj = some (.bool b) := by rfl) :
    VC N e l w0 (wpList P ops Q (⟨dst, op, t, pos, aft, some (j, b)⟩ :: rest)) := by
  intro a w hf hs he
  have hy : yielded ops a.tmps j = some b := by
    have hh := hf.slots dj _ hb
    simp [yielded, hj, hjd, hh]
  have h' := h a w hf hs he
  unfold wpList at h' ⊢
  rw [if_pos (by simp [Region.wanted])] at h'
  rw [if_pos (by simp [Region.wanted, hy])]
  exact h'
end
/-- ONE STEP, guards too. -/
theorem sy {G G' : Prop} (k : G') (h : G' → G := by
    first
      | exact fun k => su k | exact fun k => sg k | exact fun k => st k) : G := h k
theorem vc_cond_ndec {c : Operand} {x y : Code} {p : Prop} [Decidable p] (hc : see e c = some (.bool (!decide p))) (ht : ¬ p → VC N e l w0 (x.wp P Q)) (hf : p → VC N e l w0 (y.wp P Q)) :
    VC N e l w0 ((Code.cond c x y).wp P Q) := vc_cond hc (fun h => ht (by simpa using h)) (fun h => hf (by simpa using h))
/-- A bool parts in two. -/
theorem vb {d : Nat} {b : Bool} (ht : b = true → VC N ((d, .bool true) :: e) l w0 (wpList P ops Q (o :: rest))) (hf : b = false → VC N ((d, .bool false) :: e) l w0 (wpList P ops Q (o :: rest))) : VC N ((d, .bool b) :: e) l w0 (wpList P ops Q (o :: rest)) := vc_bool ht hf
theorem vd {d : Nat} {p : Prop} [Decidable p] (ht : p → VC N ((d, .bool true) :: e) l w0 (wpList P ops Q (o :: rest))) (hf : ¬ p → VC N ((d, .bool false) :: e) l w0 (wpList P ops Q (o :: rest))) : VC N ((d, .bool (decide p)) :: e) l w0 (wpList P ops Q (o :: rest)) :=
  vc_bool (fun h => ht (of_decide_eq_true h)) (fun h => hf (of_decide_eq_false h))
theorem vdn {d : Nat} {p : Prop} [Decidable p] (ht : ¬ p → VC N ((d, .bool true) :: e) l w0 (wpList P ops Q (o :: rest))) (hf : p → VC N ((d, .bool false) :: e) l w0 (wpList P ops Q (o :: rest))) : VC N ((d, .bool (!decide p)) :: e) l w0 (wpList P ops Q (o :: rest)) :=
  vc_bool (fun h => ht (by simpa using h)) (fun h => hf (by simpa using h))
theorem vc_star {A B : Asrt} {K : Act → World → Prop} (h : VC N e (A :: B :: l) w0 K) : VC N e (star A B :: l) w0 K := vc_ent (m := A :: B :: l) (star_assoc A B (all l)) h
theorem vc_head {A B : Asrt} {K : Act → World → Prop} (hab : Ent A B) (h : VC N e (B :: l) w0 K) : VC N e (A :: l) w0 K := vc_ent (m := B :: l) (star_mono hab (Ent.refl _)) h
theorem vc_rot {A : Asrt} {K : Act → World → Prop} (h : VC N e (l ++ [A]) w0 K) : VC N e (A :: l) w0 K := vc_ent (Ent.trans (star_comm A (all l)) (Ent.trans (star_mono (Ent.refl _) (one_all' A)) (all_append l [A]))) h
  where one_all' (A : Asrt) : Ent A (all [A]) := fun h f p => ⟨h, PHeap.emp, PHeap.le_refl _, PHeap.emp_le _, PHeap.disj_emp _, p, trivial⟩
/-- A chunk somewhere in the list comes to the head. -/
theorem vc_take {A : Asrt} {K : Act → World → Prop} (ht : Take A l m) (h : VC N e (A :: m) w0 K) : VC N e l w0 K := vc_ent (m := A :: m) ht h

/-! ### 6b. Loops and joins with their small proofs -/
def sub : Slots → Slots → Prop
  | [], _ => True
  | (k, v) :: r, e => look e k = some v ∧ sub r e
theorem sub_ok : ∀ {e' e : Slots}, sub e' e → ∀ k v, look e' k = some v → look e k = some v
  | [], _, _, _, _, h => by cases h
  | (k', v') :: r, e, hs, k, v, h => by
    simp only [look] at h
    split at h
    · rename_i hb
      have : k' = k := Nat.eq_of_beq_eq_true hb
      subst this
      cases h
      exact hs.1
    · exact sub_ok hs.2 k v h
theorem lp {ι : Type} {c : Code} (p : ι → Prop) (e' : ι → Slots) (l' : ι → List Asrt) (μ : ι → Nat) (i0 : ι) (hp : p i0)
    (round : ∀ i, p i → VC N (e' i) (l' i) w0 (c.wp P (Exit.then (InJ N e' l' w0 (fun j => p j ∧ μ j < μ i)) Q)))
    (hl : sub (e' i0) e := by repeat (first | exact True.intro | apply And.intro rfl))
    (ht : Takes (l' i0) l m := by repeat (first | exact Takes.nil | (apply Takes.cons; repeat (first | exact Take.keep | exact Take.here | exact take_rd_nil | exact take_own_nil | apply Take.there)))) : VC N e l w0 ((Code.loop c).wp P Q) :=
  vc_loop p e' l' μ i0 hp (sub_ok hl) ht round
theorem ag {ι : Type} {p : ι → Prop} {e' : ι → Slots} {l' : ι → List Asrt} {R : Exit → Act → World → Prop} {μ : ι → Nat} {n : Nat} (i : ι) (hp : p i) (hlt : μ i < n)
    (hl : sub (e' i) e := by repeat (first | exact True.intro | apply And.intro rfl))
    (ht : Takes (l' i) l m := by repeat (first | exact Takes.nil | (apply Takes.cons; repeat (first | exact Take.keep | exact Take.here | exact take_rd_nil | exact take_own_nil | apply Take.there)))) :
    VC N e l w0 (Exit.then (InJ N e' l' w0 (fun j => p j ∧ μ j < n)) R .normal) := vc_again i hp hlt (sub_ok hl) ht
theorem jn {ι : Type} {p : ι → Prop} {e' : ι → Slots} {l' : ι → List Asrt} {R : Exit → Act → World → Prop} (i : ι) (hp : p i)
    (hl : sub (e' i) e := by repeat (first | exact True.intro | apply And.intro rfl))
    (ht : Takes (l' i) l m := by repeat (first | exact Takes.nil | (apply Takes.cons; repeat (first | exact Take.keep | exact Take.here | exact take_rd_nil | exact take_own_nil | apply Take.there)))) :
    VC N e l w0 (Exit.then (InJ N e' l' w0 p) R .normal) := vc_join i hp (sub_ok hl) ht
theorem get_some {α : Type} {xs : List α} {k : Nat} (h : k < xs.length) : ∃ x, xs[k]? = some x := ⟨_, List.getElem?_eq_getElem h⟩

/-! ### 7. The end -/
def rdRes (a : Act) : ResultVar → Sem Value
  | .tmp t => Pure.pure (a.tmps.getD t undef)
  | .cell x t => do loadVar t (← asAddr (a.tmps.getD x undef))
/-- What a result variable holds. -/
def RV (P : Program) (e : Slots) (l : List Asrt) (r : ResultVar) (v : Value) : Prop :=
  ∀ (N : Nat) (a : Act) (w : World), Fits N e a → Sat l w → (rdRes a r).run P w = .ok v w
theorem rv_tmp {t : Nat} {v : Value} (h : look e t = some v) : RV P e l (.tmp t) v := fun N a w hf _ => by
  have := hf.slots t v h
  simp [rdRes, this]
theorem getD_of {a : Act} (hf : Fits N e a) {t : Nat} {v : Value} (h : look e t = some v) : a.tmps.getD t undef = v := by
  have := hf.slots t v h
  simp [this]
theorem rv_cell {x t b : Nat} {E n : Nat} {cs : List Value} (ha : agg1 P t n) (h : look e x = some (.pointer (some ⟨b, 0, none⟩))) (ht : Take (blk b E cs) l m) (hn : n = cs.length) : RV P e l (.cell x t) (.agg ⟨cs⟩) := fun N a w hf hs => by
  have h1 := getD_of hf h
  have h2 := (hs.ent (m := _ :: m) ht).pts
  have h3 := run_loadAt_agg (P := P) (T := t) (n := n) (o := 0) h2 ha (by omega)
  simp only [Instr.loadAt, Instr.sureAddr, Sem.run_bind, Sem.run_pure, Result.andThen_ok, List.drop_zero] at h3
  simp only [rdRes, h1, asAddr, Sem.run_bind, Sem.run_pure, Result.andThen_ok, h3, hn, List.take_length]
theorem rv_cell1 {x t b : Nat} {E : Nat} {v : Value} (ha : one1 P t) (h : look e x = some (.pointer (some ⟨b, 0, none⟩))) (ht : Take (blk b E [v]) l m) : RV P e l (.cell x t) v := fun N a w hf hs => by
  have h1 := getD_of hf h
  have h2 := (hs.ent (m := _ :: m) ht).pts
  have h3 := run_loadAt_one (P := P) (T := t) (o := 0) (v := v) h2 ha rfl
  simp only [Instr.loadAt, Instr.sureAddr, Sem.run_bind, Sem.run_pure, Result.andThen_ok] at h3
  simp only [rdRes, h1, asAddr, Sem.run_bind, Sem.run_pure, Result.andThen_ok, h3]
inductive RVs (P : Program) (e : Slots) (l : List Asrt) : List ResultVar → List Value → Prop
  | nil : RVs P e l [] []
  | cons {r : ResultVar} {v : Value} {rs : List ResultVar} {vs : List Value} : RV P e l r v → RVs P e l rs vs → RVs P e l (r :: rs) (v :: vs)
theorem run_mapM_rvs {rs : List ResultVar} {vs : List Value} (h : RVs P e l rs vs) {N : Nat} {a : Act} {w : World} (hf : Fits N e a) (hs : Sat l w) : (rs.mapM (rdRes a)).run P w = .ok vs w := by
  induction h with
  | nil => simp
  | cons h _ ih =>
    rw [List.mapM_cons]
    simp only [Sem.run_bind, h N a w hf hs, Result.andThen_ok, ih, Sem.run_pure]
theorem results_eq (fn : Func) (a : Act) : results fn a.tmps = (do let vs ← fn.results.mapM (rdRes a); Pure.pure (if h : vs.size = 1 then vs[0] else .tuple vs)) := by
  unfold results
  congr 2
def tup : List Value → Value
  | [v] => v
  | vs => .tuple ⟨vs⟩
theorem run_results {fn : Func} {rs : List ResultVar} {vs : List Value} (hr : fn.results = ⟨rs⟩) (h : RVs P e l rs vs) {N : Nat} {a : Act} {w : World} (hf : Fits N e a) (hs : Sat l w) : (results fn a.tmps).run P w = .ok (tup vs) w := by
  have hm := run_mapM_rvs h hf hs
  rw [results_eq, hr]
  have h2 : (⟨rs⟩ : Array ResultVar).mapM (rdRes a) = (fun l => (⟨l⟩ : Array Value)) <$> rs.mapM (rdRes a) := List.mapM_toArray
  rw [h2]
  simp only [Sem.run_bind, Sem.run_map, hm, Result.andThen_ok, Sem.run_pure]
  match vs with
  | [] => rfl
  | [v] => rfl
  | v :: u :: r => rfl
theorem vc_end {fn : Func} {R : Asrt} {α : Type} {val : α → Value} {pu : α → Prop} {res : α → List Asrt} {rs : List ResultVar} {vs : List Value} (hr : fn.results = ⟨rs⟩) (h : RVs P e l rs vs) (x : α) (hv : val x = tup vs) (hp : pu x) (ht : Takes (res x ++ [R]) l m) {ex : Exit} (hx : ex = .ret ∨ ex = .normal) :
    VC N e l w0 (Ends P fn w0 R val pu res ex) := by
  have key : ∀ a w, Fits N e a → Sat l w → Env w0 w → a.defers = [] ∧ ∃ v, (results fn a.tmps).run P w = .ok v w ∧ ∃ x, (.returned v : Ending) = .returned (val x) ∧ pu x ∧ Sat (res x ++ [R]) w ∧ Env w0 w := fun a w hf hs he =>
    ⟨hf.defers, _, run_results hr h hf hs, x, by rw [hv], hp, (hs.takes ht).ent (Ent.trans (all_split _ _) (star_left _ _)), he⟩
  rcases hx with rfl | rfl
  · exact key
  · exact key
/-- The end, at plain results. -/
theorem en {fn : Func} {R : Asrt} {α : Type} {val : α → Value} {pu : α → Prop} {res : α → List Asrt} {rs : List ResultVar} {vs : List Value} {ex : Exit} (x : α) (hp : pu x)
    (hr : fn.results = ⟨rs⟩ := by rfl) (h : RVs P e l rs vs := by repeat (first | exact RVs.nil | (apply RVs.cons; first | exact rv_tmp rfl | exact rv_cell KAgg.out rfl (by repeat (first | exact Take.here | apply Take.there)) rfl | exact rv_cell1 KOne.out rfl (by repeat (first | exact Take.here | apply Take.there)))))
    (hv : val x = tup vs := by rfl) (ht : Takes (res x ++ [R]) l m := by repeat (first | exact Takes.nil | (apply Takes.cons; repeat (first | exact Take.keep | exact Take.here | exact take_rd_nil | exact take_own_nil | apply Take.there)))) (hx : ex = .ret ∨ ex = .normal := by first | exact .inl rfl | exact .inr rfl) :
    VC N e l w0 (Ends P fn w0 R val pu res ex) := vc_end hr h x hv hp ht hx
end
end Go.Sb
