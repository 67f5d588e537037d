/- A separation logic over the machine's calls: assertions on owned and on frozen-for-good blocks; triples for calls, operations and code. Nothing of any program stands here. -/
import Derived.WalkKit
import Derived.WalkLawsBesides
import Derived.WalkSpells
import Derived.Deep.Draws
import Derived.Below
import Derived.OwnWalk
import Derived.Orders
set_option linter.all false
namespace Go.Sb
open Go.RowKit

/-! ### 1. Assertions -/
abbrev PHeap := Nat → Option Obj
def PHeap.le (h h' : PHeap) : Prop := ∀ b o, h b = some o → h' b = some o
def PHeap.disj (h h' : PHeap) : Prop := ∀ b o o', h b = some o → h' b = some o' → False
def PHeap.emp : PHeap := fun _ => none
theorem PHeap.le_refl (h : PHeap) : h.le h := fun _ _ e => e
theorem PHeap.le_trans {a b c : PHeap} (x : a.le b) (y : b.le c) : a.le c := fun _ _ e => y _ _ (x _ _ e)
theorem PHeap.disj_le {a b a' b' : PHeap} (h : PHeap.disj a b) (x : a'.le a) (y : b'.le b) : PHeap.disj a' b' := fun k o o' e e' => h k o o' (x _ _ e) (y _ _ e')
theorem PHeap.disj_symm {a b : PHeap} (h : PHeap.disj a b) : PHeap.disj b a := fun k o o' e e' => h k o' o e' e
theorem PHeap.emp_le (h : PHeap) : PHeap.emp.le h := fun _ _ e => by cases e
theorem PHeap.emp_disj (h : PHeap) : PHeap.disj PHeap.emp h := fun _ _ _ e _ => by cases e
theorem PHeap.disj_emp (h : PHeap) : PHeap.disj h PHeap.emp := fun _ _ _ _ e => by cases e

structure Asrt where
  holds : PHeap → PHeap → Prop
  mono : ∀ {h f h' f' : PHeap}, h.le h' → f.le f' → holds h f → holds h' f'

def emp : Asrt := ⟨fun _ _ => True, fun _ _ _ => trivial⟩
def pure (p : Prop) : Asrt := ⟨fun _ _ => p, fun _ _ h => h⟩
/-- Block b is o, and whoever holds this may write it. -/
def pts (b : Nat) (o : Obj) : Asrt := ⟨fun h _ => h b = some o, fun x _ e => x _ _ e⟩
/-- Block b is o, for good. -/
def ro (b : Nat) (o : Obj) : Asrt := ⟨fun _ f => f b = some o, fun _ y e => y _ _ e⟩
/-- A fact on the blocks that are kept for good. -/
def rof (p : PHeap → Prop) (hm : ∀ {f f' : PHeap}, f.le f' → p f → p f') : Asrt := ⟨fun _ f => p f, fun _ y e => hm y e⟩
def star (A B : Asrt) : Asrt :=
  ⟨fun h f => ∃ h1 h2, PHeap.le h1 h ∧ PHeap.le h2 h ∧ PHeap.disj h1 h2 ∧ A.holds h1 f ∧ B.holds h2 f,
   fun x y ⟨h1, h2, a, b, d, p, q⟩ => ⟨h1, h2, PHeap.le_trans a x, PHeap.le_trans b x, d, A.mono (PHeap.le_refl _) y p, B.mono (PHeap.le_refl _) y q⟩⟩
def ex {α : Type} (A : α → Asrt) : Asrt := ⟨fun h f => ∃ x, (A x).holds h f, fun x y ⟨z, p⟩ => ⟨z, (A z).mono x y p⟩⟩
def all : List Asrt → Asrt
  | [] => emp
  | A :: l => star A (all l)

def Ent (A B : Asrt) : Prop := ∀ h f, A.holds h f → B.holds h f
theorem Ent.refl (A : Asrt) : Ent A A := fun _ _ h => h
theorem Ent.trans {A B C : Asrt} (x : Ent A B) (y : Ent B C) : Ent A C := fun h f p => y h f (x h f p)
theorem star_mono {A B A' B' : Asrt} (x : Ent A A') (y : Ent B B') : Ent (star A B) (star A' B') :=
  fun _ f ⟨h1, h2, a, b, d, p, q⟩ => ⟨h1, h2, a, b, d, x h1 f p, y h2 f q⟩
theorem star_comm (A B : Asrt) : Ent (star A B) (star B A) :=
  fun _ _ ⟨h1, h2, a, b, d, p, q⟩ => ⟨h2, h1, b, a, PHeap.disj_symm d, q, p⟩
theorem star_left (A B : Asrt) : Ent (star A B) A := fun _ _ ⟨_, _, a, _, _, p, _⟩ => A.mono a (PHeap.le_refl _) p
theorem star_right (A B : Asrt) : Ent (star A B) B := fun _ _ ⟨_, _, _, b, _, _, q⟩ => B.mono b (PHeap.le_refl _) q
/-- The union of two heaps. -/
def PHeap.or (a b : PHeap) : PHeap := fun k => match a k with | some o => some o | none => b k
theorem PHeap.or_left (a b : PHeap) : a.le (a.or b) := fun k o e => by simp [PHeap.or, e]
theorem PHeap.or_right {a b : PHeap} (d : PHeap.disj a b) : b.le (a.or b) := fun k o e => by
  unfold PHeap.or
  cases ha : a k with
  | none => exact e
  | some o' => exact (d k o' o ha e).elim
theorem PHeap.or_le {a b c : PHeap} (x : a.le c) (y : b.le c) : (a.or b).le c := fun k o e => by
  unfold PHeap.or at e
  cases ha : a k with
  | none => simp only [ha] at e; exact y _ _ e
  | some o' => simp only [ha] at e; cases e; exact x _ _ ha
theorem PHeap.disj_or {a b c : PHeap} (x : PHeap.disj a c) (y : PHeap.disj b c) : PHeap.disj (a.or b) c := fun k o o' e e' => by
  unfold PHeap.or at e
  cases ha : a k with
  | none => simp only [ha] at e; exact y k o o' e e'
  | some u => exact x k u o' ha e'
theorem star_assoc (A B C : Asrt) : Ent (star (star A B) C) (star A (star B C)) := by
  rintro h f ⟨h12, h3, a, b, d, ⟨h1, h2, a', b', d', p, q⟩, r⟩
  have d23 : PHeap.disj h2 h3 := PHeap.disj_le d b' (PHeap.le_refl _)
  have d13 : PHeap.disj h1 h3 := PHeap.disj_le d a' (PHeap.le_refl _)
  refine ⟨h1, h2.or h3, PHeap.le_trans a' a, PHeap.or_le (PHeap.le_trans b' a) b, ?_, p, h2, h3, PHeap.or_left _ _, PHeap.or_right d23, d23, q, r⟩
  exact PHeap.disj_symm (PHeap.disj_or (PHeap.disj_symm d') (PHeap.disj_symm d13))
theorem star_assoc' (A B C : Asrt) : Ent (star A (star B C)) (star (star A B) C) := by
  rintro h f ⟨h1, h23, a, b, d, p, ⟨h2, h3, a', b', d', q, r⟩⟩
  have d12 : PHeap.disj h1 h2 := PHeap.disj_le d (PHeap.le_refl _) a'
  have d13 : PHeap.disj h1 h3 := PHeap.disj_le d (PHeap.le_refl _) b'
  refine ⟨h1.or h2, h3, PHeap.or_le a (PHeap.le_trans a' b), PHeap.le_trans b' b, PHeap.disj_or d13 d', ⟨h1, h2, PHeap.or_left _ _, PHeap.or_right d12, d12, p, q⟩, r⟩
theorem star_swap (A B C : Asrt) : Ent (star A (star B C)) (star B (star A C)) :=
  Ent.trans (star_assoc' A B C) (Ent.trans (star_mono (star_comm A B) (Ent.refl C)) (star_assoc B A C))

theorem all_append (l m : List Asrt) : Ent (star (all l) (all m)) (all (l ++ m)) := by
  induction l with
  | nil => exact star_right _ _
  | cons A l ih => exact Ent.trans (star_assoc A (all l) (all m)) (star_mono (Ent.refl A) ih)
theorem all_split (l m : List Asrt) : Ent (all (l ++ m)) (star (all l) (all m)) := by
  induction l with
  | nil => exact fun h f p => ⟨PHeap.emp, h, PHeap.emp_le _, PHeap.le_refl _, PHeap.emp_disj _, trivial, p⟩
  | cons A l ih => exact Ent.trans (star_mono (Ent.refl A) ih) (star_assoc' A (all l) (all m))

/-- What asks nothing of the owned blocks may be used as often as one likes. -/
class Pers (A : Asrt) : Prop where out : ∀ h f, A.holds h f → A.holds PHeap.emp f
instance (p : Prop) : Pers (pure p) := ⟨fun _ _ h => h⟩
instance (b : Nat) (o : Obj) : Pers (ro b o) := ⟨fun _ _ h => h⟩
instance (p : PHeap → Prop) (hm) : Pers (rof p hm) := ⟨fun _ _ h => h⟩
instance : Pers emp := ⟨fun _ _ h => h⟩
theorem Pers.dup (A : Asrt) [Pers A] : Ent A (star A A) := fun h f p => ⟨PHeap.emp, h, PHeap.emp_le _, PHeap.le_refl _, PHeap.emp_disj _, Pers.out h f p, p⟩

/-! ### 2. Taking out of a list -/
/-- Of l one can have c, and m is left. -/
def Take (c : Asrt) (l m : List Asrt) : Prop := Ent (all l) (star c (all m))
theorem Take.here {c : Asrt} {l : List Asrt} : Take c (c :: l) l := Ent.refl _
theorem Take.keep {c : Asrt} {l : List Asrt} [Pers c] : Take c (c :: l) (c :: l) := Ent.trans (star_mono (Pers.dup c) (Ent.refl _)) (star_assoc _ _ _)
theorem Take.there {c d : Asrt} {l m : List Asrt} (h : Take c l m) : Take c (d :: l) (d :: m) := Ent.trans (star_mono (Ent.refl d) h) (star_swap _ _ _)
/-- Of l one can have all of cs, and m is left. -/
inductive Takes : List Asrt → List Asrt → List Asrt → Prop
  | nil {l : List Asrt} : Takes [] l l
  | cons {c : Asrt} {cs l m n : List Asrt} : Take c l m → Takes cs m n → Takes (c :: cs) l n
theorem Takes.ent {cs l m : List Asrt} (h : Takes cs l m) : Ent (all l) (all (cs ++ m)) := by
  induction h with
  | nil => exact Ent.refl _
  | cons h _ ih => exact Ent.trans h (star_mono (Ent.refl _) ih)

/-! ### 3. Worlds -/
def heapOf (w : World) : PHeap := fun b => w.heap[b]?
/-- The list holds in the world. -/
def Sat (l : List Asrt) (w : World) : Prop := ∃ h f, PHeap.disj h f ∧ h.le (heapOf w) ∧ f.le (heapOf w) ∧ (all l).holds h f
theorem Sat.ent {l m : List Asrt} {w : World} (h : Sat l w) (e : Ent (all l) (all m)) : Sat m w := by
  obtain ⟨a, f, d, x, y, p⟩ := h
  exact ⟨a, f, d, x, y, e _ _ p⟩
theorem Sat.takes {cs l m : List Asrt} {w : World} (h : Sat l w) (t : Takes cs l m) : Sat (cs ++ m) w := h.ent t.ent
theorem Sat.of_heap {l : List Asrt} {w w' : World} (h : Sat l w) (e : w'.heap = w.heap) : Sat l w' := by
  obtain ⟨a, f, d, x, y, p⟩ := h
  have : heapOf w' = heapOf w := by unfold heapOf; rw [e]
  exact ⟨a, f, d, this ▸ x, this ▸ y, p⟩
theorem Sat.drew {l : List Asrt} {w : World} (h : Sat l w) : Sat l w.drew := h.of_heap rfl
theorem Sat.tail {A : Asrt} {l : List Asrt} {w : World} (h : Sat (A :: l) w) : Sat l w := h.ent (star_right _ _)
theorem Sat.swap {A B : Asrt} {l : List Asrt} {w : World} (h : Sat (A :: B :: l) w) : Sat (B :: A :: l) w := h.ent (star_swap _ _ _)
theorem Sat.pure {p : Prop} {l : List Asrt} {w : World} (h : Sat (pure p :: l) w) : p := by
  obtain ⟨a, f, d, x, y, h1, h2, _, _, _, q, _⟩ := h
  exact q
theorem Sat.add_pure {p : Prop} {l : List Asrt} {w : World} (h : Sat l w) (q : p) : Sat (Sb.pure p :: l) w := by
  obtain ⟨a, f, d, x, y, r⟩ := h
  exact ⟨a, f, d, x, y, PHeap.emp, a, PHeap.emp_le _, PHeap.le_refl _, PHeap.emp_disj _, q, r⟩
theorem Sat.ex {α : Type} {A : α → Asrt} {l : List Asrt} {w : World} (h : Sat (ex A :: l) w) : ∃ x, Sat (A x :: l) w := by
  obtain ⟨a, f, d, x, y, h1, h2, p, q, r, ⟨z, s⟩, t⟩ := h
  exact ⟨z, a, f, d, x, y, h1, h2, p, q, r, s, t⟩
theorem Sat.pts {b : Nat} {o : Obj} {l : List Asrt} {w : World} (h : Sat (pts b o :: l) w) : w.heap[b]? = some o := by
  obtain ⟨a, f, d, x, y, h1, h2, p, _, _, q, _⟩ := h
  exact x _ _ (p _ _ q)
theorem Sat.ro {b : Nat} {o : Obj} {l : List Asrt} {w : World} (h : Sat (ro b o :: l) w) : w.heap[b]? = some o := by
  obtain ⟨a, f, d, x, y, h1, h2, p, _, _, q, _⟩ := h
  exact y _ _ q
/-- Persistent facts of the frozen blocks, told of the world. -/
theorem Sat.rof {p : PHeap → Prop} {hm} {l : List Asrt} {w : World} (h : Sat (rof p hm :: l) w) : p (heapOf w) := by
  obtain ⟨a, f, d, x, y, h1, h2, _, _, _, q, _⟩ := h
  exact hm y q
/-- A block that is owned is written. -/
theorem Sat.write {b : Nat} {o o' : Obj} {l : List Asrt} {w w' : World} (h : Sat (Sb.pts b o :: l) w)
    (hb : w'.heap[b]? = some o') (hk : ∀ k, k ≠ b → k < w.heap.size → w'.heap[k]? = w.heap[k]?) : Sat (Sb.pts b o' :: l) w' := by
  obtain ⟨a, f, d, x, y, h1, h2, p, q, r, s, t⟩ := h
  have s' : h1 b = some o := s
  have hlt : ∀ (g : PHeap), g.le (heapOf w) → ∀ k u, g k = some u → k < w.heap.size := fun g hg k u e => (Array.getElem?_eq_some_iff.1 (hg _ _ e)).1
  have h2b : h2 b = none := by
    cases e : h2 b with
    | none => rfl
    | some u => exact (r b o u s' e).elim
  have fb : f b = none := by
    cases e : f b with
    | none => rfl
    | some u => exact (d b o u (p _ _ s') e).elim
  let n1 : PHeap := fun k => if k = b then some o' else none
  have le2 : h2.le (heapOf w') := fun k u e => by
    have hne : k ≠ b := fun e' => by subst e'; rw [h2b] at e; cases e
    show w'.heap[k]? = some u
    rw [hk k hne (hlt a x k u (q _ _ e))]
    exact x _ _ (q _ _ e)
  have lef : f.le (heapOf w') := fun k u e => by
    have hne : k ≠ b := fun e' => by subst e'; rw [fb] at e; cases e
    show w'.heap[k]? = some u
    rw [hk k hne (hlt f y k u e)]
    exact y _ _ e
  have d12 : PHeap.disj n1 h2 := fun k u u' e e' => by
    by_cases hkb : k = b
    · subst hkb; rw [h2b] at e'; cases e'
    · simp [n1, hkb] at e
  refine ⟨n1.or h2, f, ?_, ?_, lef, n1, h2, PHeap.or_left _ _, PHeap.or_right d12, d12, by simp [Sb.pts, n1], t⟩
  · refine PHeap.disj_or (fun k u u' e e' => ?_) (fun k u u' e e' => d k u u' (q _ _ e) e')
    by_cases hkb : k = b
    · subst hkb; rw [fb] at e'; cases e'
    · simp [n1, hkb] at e
  · refine PHeap.or_le (fun k u e => ?_) le2
    by_cases hkb : k = b
    · subst hkb; simp [n1] at e; subst e; exact hb
    · simp [n1, hkb] at e
/-- A new block. -/
theorem Sat.alloc {l : List Asrt} {w : World} (h : Sat l w) (o : Obj) : Sat (Sb.pts w.heap.size o :: l) (w.alloc o) := by
  obtain ⟨a, f, d, x, y, p⟩ := h
  have hlt : ∀ (g : PHeap), g.le (heapOf w) → ∀ k u, g k = some u → k < w.heap.size := fun g hg k u e => (Array.getElem?_eq_some_iff.1 (hg _ _ e)).1
  have up : ∀ (g : PHeap), g.le (heapOf w) → g.le (heapOf (w.alloc o)) := fun g hg k u e => by
    show (w.alloc o).heap[k]? = some u
    rw [Below.heap_alloc w o k (hlt g hg k u e)]
    exact hg _ _ e
  let n1 : PHeap := fun k => if k = w.heap.size then some o else none
  have n1s : ∀ k u, n1 k = some u → k = w.heap.size ∧ u = o := fun k u e => by
    by_cases hk : k = w.heap.size
    · simp [n1, hk] at e; exact ⟨hk, e.symm⟩
    · simp [n1, hk] at e
  have d1 : ∀ (g : PHeap), g.le (heapOf w) → PHeap.disj n1 g := fun g hg k u u' e e' => by
    have := hlt g hg k u' e'
    have := (n1s k u e).1
    omega
  refine ⟨n1.or a, f, PHeap.disj_or (d1 f y) d, PHeap.or_le (fun k u e => ?_) (up a x), up f y, n1, a, PHeap.or_left _ _, PHeap.or_right (d1 a x), d1 a x, by simp [Sb.pts, n1], p⟩
  obtain ⟨rfl, rfl⟩ := n1s k u e
  exact heap_alloc_new w u
/-- An owned block is given up for good. -/
theorem Sat.freeze {b : Nat} {o : Obj} {l : List Asrt} {w : World} (h : Sat (Sb.pts b o :: l) w) : Sat (Sb.ro b o :: l) w := by
  obtain ⟨a, f, d, x, y, h1, h2, p, q, r, s, t⟩ := h
  have s' : h1 b = some o := s
  let n1 : PHeap := fun k => if k = b then some o else none
  have n1s : ∀ k u, n1 k = some u → k = b ∧ u = o := fun k u e => by
    by_cases hk : k = b
    · simp [n1, hk] at e; exact ⟨hk, e.symm⟩
    · simp [n1, hk] at e
  have df : PHeap.disj n1 f := fun k u u' e e' => by
    obtain ⟨rfl, rfl⟩ := n1s k u e
    exact d k u u' (p _ _ s') e'
  have d2 : PHeap.disj h2 (n1.or f) := PHeap.disj_symm (PHeap.disj_or (fun k u u' e e' => by
    obtain ⟨rfl, rfl⟩ := n1s k u e
    exact r k u u' s' e') (PHeap.disj_symm (PHeap.disj_le d q (PHeap.le_refl _))))
  refine ⟨h2, n1.or f, d2, PHeap.le_trans q x, PHeap.or_le (fun k u e => ?_) y, PHeap.emp, h2, PHeap.emp_le _, PHeap.le_refl _, PHeap.emp_disj _, ?_, (all l).mono (PHeap.le_refl _) (PHeap.or_right df) t⟩
  · obtain ⟨rfl, rfl⟩ := n1s k u e
    exact x _ _ (p _ _ s')
  · show (n1.or f) b = some o
    simp [PHeap.or, n1]
theorem Sat.ne {b c : Nat} {o o' : Obj} {l : List Asrt} {w : World} (h : Sat (Sb.pts b o :: Sb.pts c o' :: l) w) : b ≠ c := by
  obtain ⟨a, f, d, x, y, h1, h2, p, q, r, s, h3, h4, p', _, _, s', _⟩ := h
  rintro rfl
  exact r b o o' s (p' _ _ s')
/-- At the begin: all that is there is frozen for good. -/
theorem Sat.begin (w : World) : Sat [Sb.rof (fun f => PHeap.le (heapOf w) f) (fun y h => PHeap.le_trans h y)] w :=
  ⟨PHeap.emp, heapOf w, PHeap.emp_disj _, PHeap.emp_le _, PHeap.le_refl _, PHeap.emp, PHeap.emp, PHeap.le_refl _, PHeap.le_refl _, PHeap.emp_disj _, PHeap.le_refl _, trivial⟩

structure Env (w w' : World) : Prop where
  os : w'.os = w.os
  tape : w'.tape = w.tape
  output : w'.output = w.output
theorem Env.refl (w : World) : Env w w := ⟨rfl, rfl, rfl⟩
theorem Env.trans {a b c : World} (x : Env a b) (y : Env b c) : Env a c := ⟨y.os.trans x.os, y.tape.trans x.tape, y.output.trans x.output⟩

/-! ### 4. Calls -/
/-- Called with these values where 'pre' holds, it returns 'val x' for an x of which 'pu' and 'res' hold; whatever else holds stays. -/
def Does (P : Program) (f : FuncId) (args : Array Value) (pre : List Asrt) {α : Type} (val : α → Value) (pu : α → Prop) (res : α → List Asrt) : Prop :=
  ∀ (R : Asrt) (w : World), Sat (pre ++ [R]) w → Calls P f args w fun e w' => ∃ x, e = .returned (val x) ∧ pu x ∧ Sat (res x ++ [R]) w' ∧ Env w w'

/-- A list as one assertion at the end of a list. -/
theorem all_one (l : List Asrt) : Ent (all [all l]) (all l) := star_left _ _
theorem one_all (l : List Asrt) : Ent (all l) (all [all l]) := fun h f p => ⟨h, PHeap.emp, PHeap.le_refl _, PHeap.emp_le _, PHeap.disj_emp _, p, trivial⟩
theorem Sat.pack {l m : List Asrt} {w : World} (h : Sat (l ++ m) w) : Sat (l ++ [all m]) w := by
  refine h.ent (Ent.trans (all_split l m) (Ent.trans (star_mono (Ent.refl _) (one_all m)) (all_append l [all m])))
theorem Sat.unpack {l m : List Asrt} {w : World} (h : Sat (l ++ [all m]) w) : Sat (l ++ m) w := by
  refine h.ent (Ent.trans (all_split l [all m]) (Ent.trans (star_mono (Ent.refl _) (all_one m)) (all_append l m)))
theorem Does.use {P : Program} {f : FuncId} {args : Array Value} {pre : List Asrt} {α : Type} {val : α → Value} {pu : α → Prop} {res : α → List Asrt}
    (h : Does P f args pre val pu res) {l m : List Asrt} {w : World} (hs : Sat l w) (ht : Takes pre l m) :
    Calls P f args w fun e w' => ∃ x, e = .returned (val x) ∧ pu x ∧ Sat (res x ++ m) w' ∧ Env w w' :=
  (h (all m) w (hs.takes ht).pack).mono fun _ _ ⟨x, e, p, s, v⟩ => ⟨x, e, p, s.unpack, v⟩

/-! ### 5. One operation -/
/-- What an operation comes to, whatever is done with its value. -/
def uponV (P : Program) (next : Value → World → Prop) : Result Next → Prop
  | .ok (.value v) w => next v w
  | .ok .skip w => next undef w
  | .ok (.enter f args) w => Calls P f args w fun e w' => ∃ v, e = .returned v ∧ next v w'
  | .ok (.row row args) w => Rows P row args w next
  | _ => False
theorem uponV.upon {P : Program} {o : Oper} {a : Act} {K : Act → World → Prop} {Q : Exit → Act → World → Prop} {r : Result Next}
    (h : uponV P (fun v w => K (a.put o.dst v) w) r) : o.upon P a K Q r := by
  unfold uponV at h
  split at h
  · exact h
  · exact h
  · exact h.mono fun e w' ⟨v, he, hk⟩ => by subst he; exact hk
  · exact h
  · exact h.elim
theorem uponV.mono {P : Program} {K K' : Value → World → Prop} {r : Result Next} (h : uponV P K r) (hk : ∀ v w, K v w → K' v w) : uponV P K' r := by
  unfold uponV at h ⊢
  split at h
  · exact hk _ _ h
  · exact hk _ _ h
  · exact h.mono fun e w' ⟨v, he, x⟩ => ⟨v, he, hk _ _ x⟩
  · exact h.mono fun v w' x => hk _ _ x
  · exact h.elim
/-- The operation, its operands read by ρ, where A holds: its value is 'val x'. -/
def OpS (P : Program) (o : Oper) (ρ : Operand → Value) (A : List Asrt) {α : Type} (val : α → Value) (pu : α → Prop) (res : α → List Asrt) : Prop :=
  ∀ (R : Asrt) (w : World), Sat (A ++ [R]) w → uponV P (fun v w' => ∃ x, v = val x ∧ pu x ∧ Sat (res x ++ [R]) w' ∧ Env w w') ((execOp ρ o).run P w)
theorem OpS.use {P : Program} {o : Oper} {ρ : Operand → Value} {A : List Asrt} {α : Type} {val : α → Value} {pu : α → Prop} {res : α → List Asrt}
    (h : OpS P o ρ A val pu res) {l m : List Asrt} {w : World} (hs : Sat l w) (ht : Takes A l m) :
    uponV P (fun v w' => ∃ x, v = val x ∧ pu x ∧ Sat (res x ++ m) w' ∧ Env w w') ((execOp ρ o).run P w) :=
  (h (all m) w (hs.takes ht).pack).mono fun _ _ ⟨x, e, p, s, v⟩ => ⟨x, e, p, s.unpack, v⟩

/-! ### 6. Slots -/
abbrev Slots := List (Nat × Value)
def look : Slots → Nat → Option Value
  | [], _ => none
  | (k, v) :: l, n => match Nat.beq k n with | true => some v | false => look l n
def see (e : Slots) : Operand → Option Value
  | .tmp t => look e t
  | .const v => some v
  | .global g => some (.pointer (some ⟨g, 0, none⟩))
  | .func f => some (.func (.func f) #[] #[])
structure Fits (N : Nat) (e : Slots) (a : Act) : Prop where
  size : a.tmps.size = N
  defers : a.defers = []
  slots : ∀ k v, look e k = some v → a.tmps[k]? = some v
theorem Fits.see {N : Nat} {e : Slots} {a : Act} (h : Fits N e a) {x : Operand} {v : Value} (hx : see e x = some v) : a.eval x = v := by
  cases x with
  | tmp t => simp only [Sb.see] at hx; simp [Act.eval, h.slots t v hx]
  | const u => simp only [Sb.see, Option.some.injEq] at hx; exact hx
  | global g => simp only [Sb.see, Option.some.injEq] at hx; exact hx
  | func f => simp only [Sb.see, Option.some.injEq] at hx; exact hx
def put (e : Slots) : Option Tmp → Value → Slots
  | some d, v => (d, v) :: e
  | none, _ => e
theorem Fits.put {N : Nat} {e : Slots} {a : Act} (h : Fits N e a) {dst : Option Tmp} (hd : dst.all (Nat.blt · N) = true) (v : Value) : Fits N (put e dst v) (a.put dst v) := by
  cases dst with
  | none => exact h
  | some d =>
    have hd' : d < N := by simpa [Nat.blt_eq] using hd
    refine ⟨by simp [Act.put, h.size], h.defers, fun k u hk => ?_⟩
    simp only [Sb.put, look] at hk
    show (a.tmps.setIfInBounds d v)[k]? = some u
    split at hk
    · rename_i hb
      have : d = k := Nat.eq_of_beq_eq_true hb
      subst this
      cases hk
      rw [Array.getElem?_setIfInBounds]
      simp [h.size, hd']
    · rename_i hb
      have hne : d ≠ k := Nat.ne_of_beq_eq_false hb
      rw [Array.getElem?_setIfInBounds]
      simp [hne, h.slots k u hk]
/-- Slots that may be forgotten. -/
theorem Fits.less {N : Nat} {e e' : Slots} {a : Act} (h : Fits N e a) (hl : ∀ k v, look e' k = some v → look e k = some v) : Fits N e' a :=
  ⟨h.size, h.defers, fun k v hk => h.slots k v (hl k v hk)⟩

/-! ### 7. Code -/
/-- Wherever the slots fit and the list holds, K. -/
def VC (N : Nat) (e : Slots) (l : List Asrt) (w0 : World) (K : Act → World → Prop) : Prop :=
  ∀ a w, Fits N e a → Sat l w → Env w0 w → K a w
section
variable {P : Program} {N : Nat} {e : Slots} {l m : List Asrt} {w0 : World} {K : Act → World → Prop} {Q : Exit → Act → World → Prop}

theorem VC.mono {K' : Act → World → Prop} (h : VC N e l w0 K) (hk : ∀ a w, K a w → K' a w) : VC N e l w0 K' := fun a w x y z => hk _ _ (h a w x y z)
theorem vc_ent (hl : Ent (all l) (all m)) (h : VC N e m w0 K) : VC N e l w0 K := fun a w x y z => h a w x (y.ent hl) z
theorem vc_takes {cs : List Asrt} (ht : Takes cs l m) (h : VC N e (cs ++ m) w0 K) : VC N e l w0 K := fun a w x y z => h a w x (y.takes ht) z
theorem vc_pure {p : Prop} (h : p → VC N e l w0 K) : VC N e (pure p :: l) w0 K := fun a w x y z => h y.pure a w x y.tail z
theorem vc_ex {α : Type} {A : α → Asrt} (h : ∀ x, VC N e (A x :: l) w0 K) : VC N e (ex A :: l) w0 K := fun a w x y z => let ⟨u, s⟩ := y.ex; h u a w x s z
theorem vc_slots {e' : Slots} (hl : ∀ k v, look e' k = some v → look e k = some v) (h : VC N e' l w0 K) : VC N e l w0 K := fun a w x y z => h a w (x.less hl) y z
/-- A fact of the world that the list gives. -/
theorem vc_know {p : Prop} (hp : ∀ w, Sat l w → p) (h : p → VC N e l w0 K) : VC N e l w0 K := fun a w x y z => h (hp w y) a w x y z
theorem vc_freeze {b : Nat} {o : Obj} (h : VC N e (ro b o :: l) w0 K) : VC N e (pts b o :: l) w0 K := fun a w x y z => h a w x y.freeze z

theorem vc_seq {x y : Code} (h : VC N e l w0 (x.wp P (Exit.then (y.wp P Q) Q))) : VC N e l w0 ((Code.seq x y).wp P Q) := h.mono fun _ _ h => wp_seq h
theorem vc_skip (h : VC N e l w0 (Q .normal)) : VC N e l w0 (Code.skip.wp P Q) := h.mono fun _ _ h => wp_skip h
theorem vc_ret (h : VC N e l w0 (Q .ret)) : VC N e l w0 (Code.ret.wp P Q) := h.mono fun _ _ h => wp_ret h
theorem vc_exit {i : Nat} (h : VC N e l w0 (Q (.exit i))) : VC N e l w0 ((Code.exit i).wp P Q) := h.mono fun _ _ h => wp_exit h
theorem vc_block {i : Nat} {c : Code} (h : VC N e l w0 (c.wp P (Exit.inBlock i Q))) : VC N e l w0 ((Code.block i c).wp P Q) := h.mono fun _ _ h => wp_block h
theorem vc_cond {c : Operand} {x y : Code} {b : Bool} (hc : see e c = some (.bool b)) (ht : b = true → VC N e l w0 (x.wp P Q)) (hf : b = false → VC N e l w0 (y.wp P Q)) :
    VC N e l w0 ((Code.cond c x y).wp P Q) := fun a w u v z => wp_cond_split (u.see hc) (fun h => ht h a w u v z) (fun h => hf h a w u v z)
theorem vc_cond_dec {c : Operand} {x y : Code} {p : Prop} [Decidable p] (hc : see e c = some (.bool (decide p))) (ht : p → VC N e l w0 (x.wp P Q)) (hf : ¬ p → VC N e l w0 (y.wp P Q)) :
    VC N e l w0 ((Code.cond c x y).wp P Q) := vc_cond hc (fun h => ht (of_decide_eq_true h)) (fun h => hf (of_decide_eq_false h))
theorem vc_cond_t {c : Operand} {x y : Code} (hc : see e c = some (.bool true)) (ht : VC N e l w0 (x.wp P Q)) : VC N e l w0 ((Code.cond c x y).wp P Q) :=
  vc_cond hc (fun _ => ht) (fun h => by cases h)
theorem vc_cond_f {c : Operand} {x y : Code} (hc : see e c = some (.bool false)) (ht : VC N e l w0 (y.wp P Q)) : VC N e l w0 ((Code.cond c x y).wp P Q) :=
  vc_cond hc (fun h => by cases h) (fun _ => ht)
theorem vc_region {i : Nat} {ops : List Oper} (h : VC N e l w0 (wpList P ops.toArray Q ops)) : VC N e l w0 ((Code.region i ops.toArray false).wp P Q) :=
  h.mono fun _ _ h => wp_region_lit h
theorem vc_nil {ops : Array Oper} (h : VC N e l w0 (Q .normal)) : VC N e l w0 (wpList P ops Q []) := h
theorem vc_then {y : Code} (h : VC N e l w0 (y.wp P Q)) : VC N e l w0 (Exit.then (y.wp P Q) Q .normal) := h
/-- One operation, then the rest. -/
theorem vc_op {ops : Array Oper} {o : Oper} {rest : List Oper} {A : List Asrt} {α : Type} {val : α → Value} {pu : α → Prop} {res : α → List Asrt}
    (hg : o.guard = none) (hd : o.dst.all (Nat.blt · N) = true)
    (ho : ∀ ρ : Operand → Value, (∀ x v, see e x = some v → ρ x = v) → OpS P o ρ A val pu res) (ht : Takes A l m)
    (h : ∀ x, pu x → VC N (put e o.dst (val x)) (res x ++ m) w0 (wpList P ops Q rest)) : VC N e l w0 (wpList P ops Q (o :: rest)) := by
  intro a w hf hs he
  refine wpList_plain hg fun K hK => ?_
  refine uponV.upon (uponV.mono ((ho a.eval fun x v hx => hf.see hx).use hs ht) ?_)
  rintro v w' ⟨x, rfl, hp, hs', he'⟩
  exact hK _ _ (h x hp _ _ (hf.put hd _) hs' (he.trans he'))
theorem put_defers (a : Act) (d : Option Tmp) (v : Value) : (a.put d v).defers = a.defers := by cases d <;> rfl
/-- A guarded operation that is wanted. -/
theorem vc_op_if {ops : Array Oper} {o : Oper} {rest : List Oper} {A : List Asrt} {α : Type} {val : α → Value} {pu : α → Prop} {res : α → List Asrt} {j d : Nat} {b : Bool} {oj : Oper}
    (hg : o.guard = some (j, b)) (hj : ops[j]? = some oj) (hjd : oj.dst = some d) (hb : look e d = some (.bool b)) (hd : o.dst.all (Nat.blt · N) = true)
    (ho : ∀ ρ : Operand → Value, (∀ x v, see e x = some v → ρ x = v) → OpS P o ρ A val pu res) (ht : Takes A l m)
    (h : ∀ x, pu x → VC N (put e o.dst (val x)) (res x ++ m) w0 (wpList P ops Q rest)) : VC N e l w0 (wpList P ops Q (o :: rest)) := by
  intro a w hf hs he
  refine wpList_step fun K hK => ?_
  have hy : yielded ops a.tmps j = some b := by
    have hh := hf.slots d _ hb
    simp [yielded, hj, hjd, hh]
  rw [if_pos (by simp [Region.wanted, hg, hy])]
  refine uponV.upon (uponV.mono ((ho a.eval fun x v hx => hf.see hx).use hs ht) ?_)
  rintro v w' ⟨x, rfl, hp, hs', he'⟩
  exact hK _ _ (h x hp _ _ (hf.put hd _) hs' (he.trans he'))
def asB : Value → Option Bool
  | .bool b => some b
  | _ => none
theorem yielded_of {ops : Array Oper} {j d : Nat} {oj : Oper} {u : Value} {a : Act} (hj : ops[j]? = some oj) (hjd : oj.dst = some d) (hs : a.tmps[d]? = some u) : yielded ops a.tmps j = asB u := by
  unfold yielded
  simp only [hj, Option.bind_some, hjd, hs]
  cases u <;> rfl
/-- A guarded operation that is passed over. -/
theorem vc_op_skip {ops : Array Oper} {o : Oper} {rest : List Oper} {j d : Nat} {b : Bool} {u : Value} {oj : Oper}
    (hg : o.guard = some (j, b)) (hj : ops[j]? = some oj) (hjd : oj.dst = some d) (hb : look e d = some u) (hne : (asB u == some b) = false) (hd : o.dst.all (Nat.blt · N) = true)
    (h : VC N (put e o.dst undef) l w0 (wpList P ops Q rest)) : VC N e l w0 (wpList P ops Q (o :: rest)) := by
  intro a w hf hs he
  refine wpList_step fun K hK => ?_
  have hy : yielded ops a.tmps j = asB u := yielded_of hj hjd (hf.slots d _ hb)
  rw [if_neg (by simp only [Region.wanted, hg]; rw [hy, hne]; decide)]
  exact hK _ _ (h _ _ (hf.put hd _) hs he)
theorem vc_bool {d : Nat} {b : Bool} (ht : b = true → VC N ((d, .bool true) :: e) l w0 K) (hf : b = false → VC N ((d, .bool false) :: e) l w0 K) : VC N ((d, .bool b) :: e) l w0 K := by
  cases b
  · exact hf rfl
  · exact ht rfl

/-! ### 8. Joins and loops -/
/-- Some state of a family. -/
def InJ {ι : Type} (N : Nat) (e : ι → Slots) (l : ι → List Asrt) (w0 : World) (p : ι → Prop) (a : Act) (w : World) : Prop :=
  ∃ i, p i ∧ Fits N (e i) a ∧ Sat (l i) w ∧ Env w0 w
/-- x first, whatever of the family it comes to, then y. -/
theorem vc_cut {ι : Type} {x y : Code} (p : ι → Prop) (e' : ι → Slots) (l' : ι → List Asrt) (hx : VC N e l w0 (x.wp P (Exit.then (InJ N e' l' w0 p) Q)))
    (hy : ∀ i, p i → VC N (e' i) (l' i) w0 (y.wp P Q)) : VC N e l w0 ((Code.seq x y).wp P Q) := by
  refine hx.mono fun a w h => wp_seq (wp_mono h fun ex a w q => ?_)
  cases ex with
  | normal => obtain ⟨i, hp, hf, hs, he⟩ := q; exact hy i hp a w hf hs he
  | exit _ => exact q
  | goto _ => exact q
  | ret => exact q
  | panic _ => exact q
  | outgrown => exact q
/-- The family is reached. -/
theorem vc_join {ι : Type} {p : ι → Prop} {e' : ι → Slots} {l' : ι → List Asrt} {R : Exit → Act → World → Prop} (i : ι) (hp : p i) (hl : ∀ k v, look (e' i) k = some v → look e k = some v) (ht : Takes (l' i) l m) :
    VC N e l w0 (Exit.then (InJ N e' l' w0 p) R .normal) := fun _ _ hf hs he => ⟨i, hp, hf.less hl, (hs.takes ht).ent (Ent.trans (all_split _ _) (star_left _ _)), he⟩
theorem vc_loop {ι : Type} {c : Code} (p : ι → Prop) (e' : ι → Slots) (l' : ι → List Asrt) (μ : ι → Nat) (i0 : ι) (hp : p i0)
    (hl : ∀ k v, look (e' i0) k = some v → look e k = some v) (ht : Takes (l' i0) l m)
    (round : ∀ i, p i → VC N (e' i) (l' i) w0 (c.wp P (Exit.then (InJ N e' l' w0 (fun j => p j ∧ μ j < μ i)) Q))) : VC N e l w0 ((Code.loop c).wp P Q) := by
  intro a w hf hs he
  have hs0 : Sat (l' i0) w := (hs.takes ht).ent (Ent.trans (all_split _ _) (star_left _ _))
  have key : ∀ i, p i → ∀ a w, Fits N (e' i) a → Sat (l' i) w → Env w0 w → (Code.loop c).wp P Q a w := by
    intro i hpi a w hf hs he
    let I : Act → World → Prop := InJ N e' l' w0 p
    -- by strong induction through wp_loop with the measure chosen as the least
    let μ' : Act → World → Nat := fun a w => @ite Nat (∃ k, ∃ i, p i ∧ μ i = k ∧ Fits N (e' i) a ∧ Sat (l' i) w ∧ Env w0 w) (Classical.propDecidable _) (@dite Nat (∃ k, ∃ i, p i ∧ μ i = k ∧ Fits N (e' i) a ∧ Sat (l' i) w ∧ Env w0 w) (Classical.propDecidable _) (fun h => Classical.choose (least h)) (fun _ => 0)) 0
    have hμ : ∀ a w, I a w → ∃ i, p i ∧ μ i = μ' a w ∧ Fits N (e' i) a ∧ Sat (l' i) w ∧ Env w0 w := by
      rintro a w ⟨i, h1, h2, h3, h4⟩
      have hex : ∃ k, ∃ i, p i ∧ μ i = k ∧ Fits N (e' i) a ∧ Sat (l' i) w ∧ Env w0 w := ⟨_, i, h1, rfl, h2, h3, h4⟩
      have : μ' a w = Classical.choose (least hex) := by simp only [μ']; rw [if_pos hex, dif_pos hex]
      rw [this]
      exact (Classical.choose_spec (least hex)).1
    have hμle : ∀ a w i, p i → Fits N (e' i) a → Sat (l' i) w → Env w0 w → μ' a w ≤ μ i := by
      intro a w i h1 h2 h3 h4
      have hex : ∃ k, ∃ i, p i ∧ μ i = k ∧ Fits N (e' i) a ∧ Sat (l' i) w ∧ Env w0 w := ⟨_, i, h1, rfl, h2, h3, h4⟩
      have : μ' a w = Classical.choose (least hex) := by simp only [μ']; rw [if_pos hex, dif_pos hex]
      rw [this]
      exact (Classical.choose_spec (least hex)).2 _ ⟨i, h1, rfl, h2, h3, h4⟩
    refine wp_loop I μ' ⟨i, hpi, hf, hs, he⟩ fun a w hI => ?_
    obtain ⟨j, h1, h2, h3, h4, h5⟩ := hμ a w hI
    refine wp_mono (round j h1 a w h3 h4 h5) fun ex a' w' q => ?_
    cases ex with
    | normal =>
      obtain ⟨k, ⟨hk, hlt⟩, hkf, hks, hke⟩ := q
      exact ⟨⟨k, hk, hkf, hks, hke⟩, Nat.lt_of_le_of_lt (hμle a' w' k hk hkf hks hke) (h2 ▸ hlt)⟩
    | exit _ => exact q
    | goto _ => exact q
    | ret => exact q
    | panic _ => exact q
    | outgrown => exact q
  exact key i0 hp a w (hf.less hl) hs0 he
  where
  least {q : Nat → Prop} (h : ∃ n, q n) : ∃ n, q n ∧ ∀ m, q m → n ≤ m := by
    obtain ⟨n, hn⟩ := h
    induction n using Nat.strongRecOn with
    | _ n ih =>
      by_cases hx : ∃ m, m < n ∧ q m
      · obtain ⟨m, hm, hq⟩ := hx; exact ih m hm hq
      · exact ⟨n, hn, fun m hm => Classical.byContradiction fun hlt => hx ⟨m, by omega, hm⟩⟩
/-- The end of a round. -/
theorem vc_again {ι : Type} {p : ι → Prop} {e' : ι → Slots} {l' : ι → List Asrt} {R : Exit → Act → World → Prop} {μ : ι → Nat} {n : Nat} (i : ι) (hp : p i) (hlt : μ i < n) (hl : ∀ k v, look (e' i) k = some v → look e k = some v) (ht : Takes (l' i) l m) :
    VC N e l w0 (Exit.then (InJ N e' l' w0 (fun j => p j ∧ μ j < n)) R .normal) := vc_join i ⟨hp, hlt⟩ hl ht

/-! ### 9. The function's begin and end -/
theorem slots_args {args : List Value} {N : Nat} (hn : args.length ≤ N) (k : Nat) (v : Value) (h : args[k]? = some v) :
    ((args.toArray ++ Array.replicate (N - args.toArray.size) undef : Array Value))[k]? = some v := by
  have hk : k < args.length := by
    rcases Nat.lt_or_ge k args.length with h' | h'
    · exact h'
    · rw [List.getElem?_eq_none h'] at h; cases h
  rw [Array.getElem?_append_left (by simpa using hk)]
  simpa using h
def argSlots (n : Nat) : List Value → Slots
  | [] => []
  | v :: l => (n, v) :: argSlots (n + 1) l
theorem look_argSlots (l : List Value) : ∀ n k v, look (argSlots n l) k = some v → n ≤ k ∧ l[k - n]? = some v := by
  induction l with
  | nil => intro n k v h; cases h
  | cons u l ih =>
    intro n k v h
    simp only [argSlots, look] at h
    split at h
    · rename_i hb
      have : n = k := Nat.eq_of_beq_eq_true hb
      subst this
      cases h
      simp
    · rename_i hb
      have hne : n ≠ k := Nat.ne_of_beq_eq_false hb
      obtain ⟨h1, h2⟩ := ih (n + 1) k v h
      refine ⟨by omega, ?_⟩
      have : k - n = (k - (n + 1)) + 1 := by omega
      rw [this]
      simpa using h2
/-- What is to be shown at the end of a body. -/
def Ends (P : Program) (fn : Func) (w0 : World) (R : Asrt) {α : Type} (val : α → Value) (pu : α → Prop) (res : α → List Asrt) : Exit → Act → World → Prop :=
  bodyPost P fn fun e w' => ∃ x, e = .returned (val x) ∧ pu x ∧ Sat (res x ++ [R]) w' ∧ Env w0 w'
theorem spec_of {f : FuncId} {fn : Func} {c : Code} {args : List Value} {pre : List Asrt} {α : Type} {val : α → Value} {pu : α → Prop} {res : α → List Asrt}
    (hf : P.funcs[f]? = some fn) (hb : fn.body = some c) (hN : fn.ntmps = N) (hn : Nat.ble args.length N = true)
    (h : ∀ R w0, VC N (argSlots 0 args) (pre ++ [R]) w0 (c.wp P (Ends P fn w0 R val pu res))) : Does P f args.toArray pre val pu res := by
  intro R w hs
  have hn' : args.length ≤ N := Nat.le_of_ble_eq_true hn
  refine calls_of_wp hf hb (h R w _ w ⟨?_, rfl, fun k v hk => ?_⟩ hs (Env.refl w))
  · simp [hN]; omega
  · have h' := (look_argSlots args 0 k v hk).2
    rw [hN]
    exact slots_args hn' k v (by simpa using h')
end
end Go.Sb
