/- Regions whose order is drawn: operations that only read ('quiet') may be run whenever their edges let them; what they yield stands before. -/
import Derived.Test.YtikodfclemgfoaaDoorSbAuto
set_option linter.all false
set_option linter.unusedVariables false
namespace Go.Sb
open Go.RowKit
attribute [local irreducible] Go.wpList Go.Code.wp Go.Exit.then Go.Exit.inBlock Go.Sb.Ends Go.Sb.VC

/-! ### 1. The edges -/
def memN (n : Nat) : List Nat → Bool
  | [] => false
  | k :: l => match Nat.beq k n with | true => true | false => memN n l
theorem memN_iff {n : Nat} {l : List Nat} : memN n l = true ↔ n ∈ l := by
  induction l with
  | nil => simp [memN]
  | cons k l ih =>
    simp only [memN, List.mem_cons]
    split
    · rename_i h; have := Nat.eq_of_beq_eq_true h; simp [this]
    · rename_i h; have : k ≠ n := Nat.ne_of_beq_eq_false h
      rw [ih]; constructor
      · exact .inr
      · rintro (h | h)
        · exact absurd h.symm this
        · exact h
def aftersL : List Edge → List Nat
  | [] => []
  | e :: l => match Region.binds .any e with | true => e.on :: aftersL l | false => aftersL l
def afters (o : Oper) : List Nat := aftersL o.after.toList
theorem mem_aftersL {j : Nat} {l : List Edge} : j ∈ aftersL l ↔ ∃ e ∈ l, Region.binds .any e = true ∧ e.on = j := by
  induction l with
  | nil => simp [aftersL]
  | cons e l ih =>
    simp only [aftersL]
    split
    · rename_i h
      rw [List.mem_cons, ih]
      constructor
      · rintro (rfl | ⟨e', h1, h2, h3⟩)
        · exact ⟨e, List.mem_cons_self, h, rfl⟩
        · exact ⟨e', List.mem_cons_of_mem _ h1, h2, h3⟩
      · rintro ⟨e', h1, h2, h3⟩
        rcases List.mem_cons.1 h1 with rfl | h1
        · exact .inl h3.symm
        · exact .inr ⟨e', h1, h2, h3⟩
    · rename_i h
      rw [ih]
      constructor
      · rintro ⟨e', h1, h2, h3⟩
        exact ⟨e', List.mem_cons_of_mem _ h1, h2, h3⟩
      · rintro ⟨e', h1, h2, h3⟩
        rcases List.mem_cons.1 h1 with rfl | h1
        · rw [h2] at h; cases h
        · exact ⟨e', h1, h2, h3⟩
theorem mem_afters {j : Nat} {o : Oper} : j ∈ afters o ↔ ∃ e ∈ o.after, Region.binds .any e = true ∧ e.on = j := by
  unfold afters
  rw [mem_aftersL]
  simp
def tmpsOf : List Operand → List Nat
  | [] => []
  | .tmp t :: l => t :: tmpsOf l
  | _ :: l => tmpsOf l
theorem mem_tmpsOf {t : Nat} {l : List Operand} : .tmp t ∈ l → t ∈ tmpsOf l := by
  induction l with
  | nil => intro h; cases h
  | cons x l ih =>
    intro h
    cases x with
    | tmp u =>
      simp only [tmpsOf]
      rcases List.mem_cons.1 h with h2 | h2
      · cases h2; exact List.mem_cons_self
      · exact List.mem_cons_of_mem _ (ih h2)
    | const u => rcases List.mem_cons.1 h with h2 | h2; · cases h2
                 exact ih h2
    | global u => rcases List.mem_cons.1 h with h2 | h2; · cases h2
                  exact ih h2
    | func u => rcases List.mem_cons.1 h with h2 | h2; · cases h2
                exact ih h2
/-- Every operation of which one reads stands among its edges; all edges go back; nothing selects. -/
def okOne (l : List (Nat × Option Tmp)) (aft : List Nat) : List Nat → Bool
  | [] => true
  | t :: ts => go l t && okOne l aft ts
  where
  go : List (Nat × Option Tmp) → Nat → Bool
    | [], _ => true
    | (i, some d) :: l, t => (match Nat.beq d t with | true => memN i aft | false => true) && go l t
    | (_, none) :: l, t => go l t
theorem okOne_spec {l : List (Nat × Option Tmp)} {aft ts : List Nat} (h : okOne l aft ts = true) {t i : Nat} (ht : t ∈ ts) (hi : (i, some t) ∈ l) : i ∈ aft := by
  induction ts with
  | nil => cases ht
  | cons u ts ih =>
    simp only [okOne, Bool.and_eq_true] at h
    rcases List.mem_cons.1 ht with rfl | ht
    · have h1 := h.1
      clear h ih ht
      induction l with
      | nil => cases hi
      | cons p l ih =>
        obtain ⟨k, d⟩ := p
        cases d with
        | none =>
          simp only [okOne.go] at h1
          rcases List.mem_cons.1 hi with h2 | h2
          · cases h2
          · exact ih h2 h1
        | some d =>
          simp only [okOne.go, Bool.and_eq_true] at h1
          rcases List.mem_cons.1 hi with h2 | h2
          · cases h2
            have h3 := h1.1
            split at h3
            · exact memN_iff.1 h3
            · rename_i hb; exact absurd rfl (Nat.ne_of_beq_eq_false hb)
          · exact ih h2 h1.2
    · exact ih h.2 ht
def numbered : Nat → List Oper → List (Nat × Oper)
  | _, [] => []
  | n, o :: l => (n, o) :: numbered (n + 1) l
theorem mem_numbered {l : List Oper} : ∀ {n i : Nat} {o : Oper}, (i, o) ∈ numbered n l ↔ n ≤ i ∧ l[i - n]? = some o := by
  induction l with
  | nil => simp [numbered]
  | cons u l ih =>
    intro n i o
    simp only [numbered, List.mem_cons, ih, Prod.mk.injEq]
    constructor
    · rintro (⟨rfl, rfl⟩ | ⟨h1, h2⟩)
      · simp
      · refine ⟨by omega, ?_⟩
        have : i - n = (i - (n + 1)) + 1 := by omega
        rw [this]; simpa using h2
    · rintro ⟨h1, h2⟩
      by_cases hi : i = n
      · subst hi; simp at h2; exact .inl ⟨rfl, h2.symm⟩
      · refine .inr ⟨by omega, ?_⟩
        have : i - n = (i - (n + 1)) + 1 := by omega
        rw [this] at h2; simpa using h2
theorem numbered_nd {l : List Oper} : ∀ {n : Nat}, (numbered n l).Pairwise fun p q => p.1 ≠ q.1 := by
  induction l with
  | nil => intro n; exact List.Pairwise.nil
  | cons o l ih =>
    intro n
    refine List.Pairwise.cons (fun q hq => ?_) ih
    have := (mem_numbered.1 hq).1
    show n ≠ q.1
    omega
def guardTmp (l : List (Nat × Option Tmp)) : Option (Nat × Bool) → List Nat
  | none => []
  | some (g, _) => go l g
  where
  go : List (Nat × Option Tmp) → Nat → List Nat
    | [], _ => []
    | (i, some d) :: l, g => match Nat.beq i g with | true => d :: go l g | false => go l g
    | (_, none) :: l, g => go l g
theorem mem_guardTmp {l : List (Nat × Option Tmp)} {g d : Nat} {b : Bool} (h : (g, some d) ∈ l) : d ∈ guardTmp l (some (g, b)) := by
  simp only [guardTmp]
  induction l with
  | nil => cases h
  | cons p l ih =>
    obtain ⟨k, u⟩ := p
    cases u with
    | none =>
      simp only [guardTmp.go]
      rcases List.mem_cons.1 h with h2 | h2
      · cases h2
      · exact ih h2
    | some u =>
      simp only [guardTmp.go]
      rcases List.mem_cons.1 h with h2 | h2
      · cases h2
        split
        · simp
        · rename_i hb; exact absurd rfl (Nat.ne_of_beq_eq_false hb)
      · split
        · exact List.mem_cons_of_mem _ (ih h2)
        · exact ih h2
def dstsOf : List (Nat × Oper) → List (Nat × Option Tmp)
  | [] => []
  | (i, o) :: l => (i, o.dst) :: dstsOf l
theorem mem_dstsOf {l : List (Nat × Oper)} {i : Nat} {o : Oper} (h : (i, o) ∈ l) : (i, o.dst) ∈ dstsOf l := by
  induction l with
  | nil => cases h
  | cons p l ih =>
    obtain ⟨k, u⟩ := p
    rcases List.mem_cons.1 h with h2 | h2
    · cases h2; exact List.mem_cons_self
    · exact List.mem_cons_of_mem _ (ih h2)
def isSel : Op → Bool
  | .select .. => true
  | _ => false
def allBelow (i : Nat) : List Nat → Bool
  | [] => true
  | j :: l => Nat.blt j i && allBelow i l
theorem allBelow_spec {i : Nat} {l : List Nat} (h : allBelow i l = true) {j : Nat} (hj : j ∈ l) : j < i := by
  induction l with
  | nil => cases hj
  | cons k l ih =>
    simp only [allBelow, Bool.and_eq_true] at h
    rcases List.mem_cons.1 hj with rfl | hj
    · simpa [Nat.blt_eq] using h.1
    · exact ih h.2 hj
def okOps (ds : List (Nat × Option Tmp)) : List (Nat × Oper) → Bool
  | [] => true
  | (i, o) :: l => (!isSel o.op && allBelow i (afters o)) && okOps ds l
theorem okOps_spec {ds : List (Nat × Option Tmp)} {l : List (Nat × Oper)} (h : okOps ds l = true) {i : Nat} {o : Oper} (hi : (i, o) ∈ l) :
    isSel o.op = false ∧ (∀ j ∈ afters o, j < i) := by
  induction l with
  | nil => cases hi
  | cons p l ih =>
    obtain ⟨k, u⟩ := p
    simp only [okOps, Bool.and_eq_true] at h
    rcases List.mem_cons.1 hi with h2 | h2
    · cases h2
      obtain ⟨⟨h1, h2⟩, _⟩ := h
      exact ⟨by simpa using h1, fun j hj => allBelow_spec h2 hj⟩
    · exact ih h.2 h2
def okRegion (ops : List Oper) : Bool := okOps (dstsOf (numbered 0 ops)) (numbered 0 ops)
structure Ok (ops : Array Oper) : Prop where
  sel : ∀ (i : Nat) (o : Oper), ops[i]? = some o → ∀ cs b, o.op ≠ .select cs b
  back : ∀ (i : Nat) (o : Oper), ops[i]? = some o → ∀ j ∈ afters o, j < i
theorem ok_of {ops : List Oper} (h : okRegion ops = true) : Ok ops.toArray := by
  have key : ∀ (i : Nat) (o : Oper), ops.toArray[i]? = some o → (i, o) ∈ numbered 0 ops := fun i o hi => mem_numbered.2 ⟨by omega, by simpa using hi⟩
  refine ⟨fun i o hi cs b e => ?_, fun i o hi j hj => ?_⟩
  · have := (okOps_spec h (key i o hi)).1
    rw [e] at this; cases this
  · exact (okOps_spec h (key i o hi)).2 j hj
/-- Whoever reads what i yields waits for i. -/
def readOk (ds : List (Nat × Option Tmp)) (i d : Nat) : List (Nat × Oper) → Bool
  | [] => true
  | (_, o) :: l => ((!memN d (tmpsOf o.op.operands.toList) && !memN d (guardTmp ds o.guard)) || memN i (afters o)) && readOk ds i d l
theorem readOk_spec {ds : List (Nat × Option Tmp)} {i d : Nat} {l : List (Nat × Oper)} (h : readOk ds i d l = true) {j : Nat} {o : Oper} (hj : (j, o) ∈ l) (hr : d ∈ tmpsOf o.op.operands.toList ∨ d ∈ guardTmp ds o.guard) : i ∈ afters o := by
  induction l with
  | nil => cases hj
  | cons p l ih =>
    obtain ⟨k, u⟩ := p
    simp only [readOk, Bool.and_eq_true, Bool.or_eq_true, Bool.not_eq_true'] at h
    rcases List.mem_cons.1 hj with h2 | h2
    · cases h2
      rcases h.1 with ⟨h3, h4⟩ | h3
      · rcases hr with hr | hr
        · rw [memN_iff.2 hr] at h3; cases h3
        · rw [memN_iff.2 hr] at h4; cases h4
      · exact memN_iff.1 h3
    · exact ih h.2 h2
/-- Readers of d wait for i. -/
structure Waits (ops : Array Oper) (i d : Nat) : Prop where
  deps : ∀ (j : Nat) (o : Oper), ops[j]? = some o → .tmp d ∈ o.op.operands → i ∈ afters o
  grd : ∀ (j : Nat) (o : Oper), ops[j]? = some o → ∀ (g : Nat) (b : Bool), o.guard = some (g, b) → ∀ (og : Oper), ops[g]? = some og → og.dst = some d → i ∈ afters o
theorem waits_of {ops : Array Oper} {i d : Nat} (h : readOk (dstsOf (numbered 0 ops.toList)) i d (numbered 0 ops.toList) = true) : Waits ops i d := by
  have key : ∀ (i : Nat) (o : Oper), ops[i]? = some o → (i, o) ∈ numbered 0 ops.toList := fun i o hi => mem_numbered.2 ⟨by omega, by simpa using hi⟩
  refine ⟨fun j o hj ht => readOk_spec h (key j o hj) (.inl (mem_tmpsOf (by simpa using ht))), fun j o hj g b hg og hog hd => readOk_spec h (key j o hj) (.inr ?_)⟩
  rw [hg]
  refine mem_guardTmp ?_
  have := mem_dstsOf (key g og hog)
  rwa [hd] at this

/-! ### 2. Quiet operations -/
section
variable {P : Program} {N : Nat} {ops : Array Oper} {Q : Exit → Act → World → Prop} {e : Slots} {l m : List Asrt} {w0 : World} {done : List Nat} {pend : List (Nat × Value)} {rest : List (Nat × Oper)}

def Wants (ops : Array Oper) (e : Slots) (o : Oper) (b : Bool) : Prop :=
  match o.guard with
  | none => b = true
  | some (g, c) => ∃ og d u, ops[g]? = some og ∧ og.dst = some d ∧ look e d = some u ∧ b = (asB u == some c)
/-- Operation i is quiet: it yields v. -/
def QtO (P : Program) (N : Nat) (ops : Array Oper) (e : Slots) (l : List Asrt) (o : Oper) (v : Value) : Prop :=
  (∀ d, o.dst = some d → d < N ∧ look e d = some v) ∧
    ((Wants ops e o true ∧ ∀ ρ : Operand → Value, (∀ x u, see e x = some u → ρ x = u) → ∀ w, Sat l w → uponV P (fun u w' => u = v ∧ Sat l w' ∧ Env w w') ((execOp ρ o).run P w)) ∨
     (Wants ops e o false ∧ v = undef))
def Qt (P : Program) (N : Nat) (ops : Array Oper) (e : Slots) (l : List Asrt) (p : Nat × Value) : Prop := ∃ o, ops[p.1]? = some o ∧ QtO P N ops e l o p.2
theorem look_fresh {d k : Nat} {v u : Value} (hn : look e d = none) (h : look e k = some u) : look ((d, v) :: e) k = some u := by
  simp only [look]
  split
  · rename_i hb
    have := Nat.eq_of_beq_eq_true hb
    subst this
    rw [hn] at h; cases h
  · exact h
theorem see_fresh {d : Nat} {v u : Value} {x : Operand} (hn : look e d = none) (h : see e x = some u) : see ((d, v) :: e) x = some u := by
  cases x with
  | tmp t => exact look_fresh hn h
  | const _ => exact h
  | global _ => exact h
  | func _ => exact h
theorem Wants.grow {o : Oper} {b : Bool} {d : Nat} {v : Value} (hn : look e d = none) (h : Wants ops e o b) : Wants ops ((d, v) :: e) o b := by
  unfold Wants at h ⊢
  split at h
  · exact h
  · obtain ⟨og, d', b', h1, h2, h3, h4⟩ := h
    exact ⟨og, d', b', h1, h2, look_fresh hn h3, h4⟩
theorem Qt.grow {p : Nat × Value} {d : Nat} {v : Value} (hn : look e d = none) (h : Qt P N ops e l p) : Qt P N ops ((d, v) :: e) l p := by
  obtain ⟨o, ho, hd, h⟩ := h
  refine ⟨o, ho, fun d hd' => ⟨(hd d hd').1, look_fresh hn (hd d hd').2⟩, ?_⟩
  rcases h with ⟨h1, h2⟩ | ⟨h1, h2⟩
  · exact .inl ⟨h1.grow hn, fun ρ hρ w hs => h2 ρ (fun x u hx => hρ x u (see_fresh hn hx)) w hs⟩
  · exact .inr ⟨h1.grow hn, h2⟩

/-! ### 3. The states -/
structure Real (ops : Array Oper) (done : List Nat) (rest : List (Nat × Oper)) (listed : Array Bool) : Prop where
  size : listed.size = ops.size
  d1 : ∀ i ∈ done, i < ops.size → listed.getD i false = true
  d2 : ∀ p ∈ rest, listed.getD p.1 true = false
  down : ∀ (i : Nat) (o : Oper), ops[i]? = some o → listed.getD i false = true → ∀ j ∈ afters o, listed.getD j false = true
structure FitsR (ops : Array Oper) (pend : List (Nat × Value)) (listed : Array Bool) (N : Nat) (e : Slots) (a : Act) : Prop where
  size : a.tmps.size = N
  defers : a.defers = []
  slots : ∀ k v, look e k = some v → (∀ p ∈ pend, ∀ o, ops[p.1]? = some o → o.dst = some k → listed.getD p.1 false = true) → a.tmps[k]? = some v
structure Stat (ops : Array Oper) (done : List Nat) (pend : List (Nat × Value)) (rest : List (Nat × Oper)) : Prop where
  ok : Ok ops
  r : ∀ p ∈ rest, ops[p.1]? = some p.2
  all : ∀ i, i < ops.size → i ∈ done ∨ (∃ v, (i, v) ∈ pend) ∨ (∃ o, (i, o) ∈ rest)
  pr : ∀ p ∈ pend, ∀ q ∈ rest, p.1 ≠ q.1
  nd : rest.Pairwise fun p q => p.1 ≠ q.1
  dp : ∀ p ∈ pend, ∀ (o : Oper) (d : Nat), ops[p.1]? = some o → o.dst = some d → Waits ops p.1 d
/-- Of a region in a drawn order: done, what may have been run or may be still to run, the rest. -/
def VA (P : Program) (N : Nat) (ops : Array Oper) (Q : Exit → Act → World → Prop) (done : List Nat) (pend : List (Nat × Value)) (rest : List (Nat × Oper)) (e : Slots) (l : List Asrt) (w0 : World) : Prop :=
  Stat ops done pend rest → (∀ p ∈ pend, Qt P N ops e l p) → ∀ fuel listed a w, listed.toList.count false ≤ fuel → Real ops done rest listed → FitsR ops pend listed N e a → Sat l w → Env w0 w →
    wpAny P .any ops Q fuel listed a w

theorem count_set {listed : Array Bool} {i : Nat} (h : listed.getD i true = false) : (listed.setIfInBounds i true).toList.count false + 1 = listed.toList.count false := by
  have hi : i < listed.size := by
    rcases Nat.lt_or_ge i listed.size with h' | h'
    · exact h'
    · rw [Array.getD_eq_getD_getElem?, Array.getElem?_eq_none h'] at h; cases h
  have hv : listed.toList[i]'(by simpa using hi) = false := by simpa [hi] using h
  have hpos : 0 < listed.toList.count false := List.count_pos_iff.2 (hv ▸ List.getElem_mem _)
  have h2 := List.count_set (a := true) (b := false) (l := listed.toList) (i := i) (h := by simpa using hi)
  rw [hv] at h2
  rw [Array.toList_setIfInBounds, h2, if_pos (by rfl), if_neg (by decide)]
  omega
theorem getD_ff {listed : Array Bool} {i : Nat} (hi : i < listed.size) : listed.getD i false = listed.getD i true := by simp [hi]
theorem mem_ready' {j : Nat} {listed : Array Bool} (h : j ∈ Region.ready .any ops listed) : listed.getD j true = false ∧ ∃ o, ops[j]? = some o ∧ ∀ i ∈ afters o, listed.getD i false = true := by
  obtain ⟨h0, o, ho, h1⟩ := mem_ready.1 h
  refine ⟨h0, o, ho, fun i hi => ?_⟩
  obtain ⟨e, he, hb, rfl⟩ := mem_afters.1 hi
  exact h1 e he hb
theorem ready_of {j : Nat} {listed : Array Bool} {o : Oper} (h0 : listed.getD j true = false) (ho : ops[j]? = some o) (h1 : ∀ i ∈ afters o, listed.getD i false = true) : j ∈ Region.ready .any ops listed :=
  mem_ready.2 ⟨h0, o, ho, fun e he hb => h1 _ (mem_afters.2 ⟨e, he, hb, rfl⟩)⟩
theorem Real.set {listed : Array Bool} {j : Nat} {o : Oper} {done' : List Nat} {rest' : List (Nat × Oper)} (h : Real ops done rest listed) (hj : j ∈ Region.ready .any ops listed)
    (hd : ∀ i ∈ done', i < ops.size → i = j ∨ listed.getD i false = true) (hr : ∀ p ∈ rest', p ∈ rest ∧ p.1 ≠ j) : Real ops done' rest' (listed.setIfInBounds j true) := by
  obtain ⟨hjf, oj, hoj, haft⟩ := mem_ready' hj
  have hjlt : j < listed.size := by rw [h.size]; exact (Array.getElem?_eq_some_iff.1 hoj).1
  refine ⟨by simp [h.size], fun i hi hlt => ?_, fun p hp => ?_, fun i oi hoi hli k hk => ?_⟩
  · rcases hd i hi hlt with rfl | h'
    · simp [hjlt]
    · exact getD_set_true h'
  · obtain ⟨h1, h2⟩ := hr p hp
    rw [getD_set_ne true (Ne.symm h2)]
    exact h.d2 p h1
  · by_cases hij : j = i
    · subst hij
      rw [hoi] at hoj; cases hoj
      exact getD_set_true (haft k hk)
    · rw [getD_set_ne false hij] at hli
      exact getD_set_true (h.down i oi hoi hli k hk)
/-- What a ready operation's operands read. -/
theorem FitsR.eval {listed : Array Bool} {a : Act} {j : Nat} {o : Oper} (hf : FitsR ops pend listed N e a) (hok : Ok ops) (hdp : ∀ p ∈ pend, ∀ (o : Oper) (d : Nat), ops[p.1]? = some o → o.dst = some d → Waits ops p.1 d) (hj : ops[j]? = some o) (haft : ∀ i ∈ afters o, listed.getD i false = true) :
    ∃ ρ : Operand → Value, (∀ x u, see e x = some u → ρ x = u) ∧ execOp a.eval o = execOp ρ o := by
  refine ⟨fun x => @ite _ (x ∈ o.op.operands) (Classical.propDecidable _) (a.eval x) ((see e x).getD undef), fun x u hx => ?_, execOp_congr o (hok.sel j o hj) fun x hx => ?_⟩
  · by_cases hm : x ∈ o.op.operands
    · simp only [hm, if_true]
      cases x with
      | tmp t =>
        have : a.tmps[t]? = some u := hf.slots t u hx fun p hp q hq hd => haft _ ((hdp p hp q t hq hd).deps j o hj hm)
        simp [Act.eval, this]
      | const v => simp only [Sb.see, Option.some.injEq] at hx; exact hx
      | global g => simp only [Sb.see, Option.some.injEq] at hx; exact hx
      | func f => simp only [Sb.see, Option.some.injEq] at hx; exact hx
    · simp [hm, hx]
  · simp [hx]
theorem FitsR.wanted {listed : Array Bool} {a : Act} {j : Nat} {o : Oper} {b : Bool} (hf : FitsR ops pend listed N e a) (hok : Ok ops) (hdp : ∀ p ∈ pend, ∀ (o : Oper) (d : Nat), ops[p.1]? = some o → o.dst = some d → Waits ops p.1 d) (hj : ops[j]? = some o) (haft : ∀ i ∈ afters o, listed.getD i false = true)
    (hw : Wants ops e o b) : Region.wanted o (yielded ops a.tmps) = b := by
  unfold Wants at hw
  split at hw
  · rename_i hg; simp [Region.wanted, hg, hw]
  · rename_i g c hg
    obtain ⟨og, d, b', h1, h2, h3, rfl⟩ := hw
    have hs : a.tmps[d]? = some b' := hf.slots d _ h3 fun p hp q hq hd => haft _ ((hdp p hp q d hq hd).grd j o hj g c hg og h1 h2)
    rw [Region.wanted, hg]
    show (yielded ops a.tmps g == some c) = (asB b' == some c)
    rw [yielded_of h1 h2 hs]
theorem FitsR.put {listed : Array Bool} {a : Act} {j : Nat} {o : Oper} {pend' : List (Nat × Value)} {e' : Slots} {v : Value} (hf : FitsR ops pend listed N e a) (hd : ∀ d, o.dst = some d → d < N)
    (h : ∀ k u, look e' k = some u → (∀ p ∈ pend', ∀ q, ops[p.1]? = some q → q.dst = some k → (listed.setIfInBounds j true).getD p.1 false = true) →
      (o.dst = some k ∧ u = v) ∨ (o.dst ≠ some k ∧ look e k = some u ∧ ∀ p ∈ pend, ∀ q, ops[p.1]? = some q → q.dst = some k → listed.getD p.1 false = true)) :
    FitsR ops pend' (listed.setIfInBounds j true) N e' (a.put o.dst v) := by
  refine ⟨?_, by rw [put_defers]; exact hf.defers, fun k u hk hp => ?_⟩
  · cases o.dst with
    | none => exact hf.size
    | some d => simp [Act.put, hf.size]
  · rcases h k u hk hp with ⟨h1, rfl⟩ | ⟨h1, h2, h3⟩
    · rw [h1]
      have := hd k h1
      simp [Act.put, Array.getElem?_setIfInBounds, hf.size, this]
    · cases ho : o.dst with
      | none => exact hf.slots k u h2 h3
      | some d =>
        have hne : d ≠ k := fun e => h1 (by rw [ho, e])
        simp [Act.put, Array.getElem?_setIfInBounds_ne hne, hf.slots k u h2 h3]

/-- All orders: what is pending may be run at any time; the others are the caller's. -/
theorem va_core (hst : Stat ops done pend rest) (hq : ∀ p ∈ pend, Qt P N ops e l p) 
    (hend : rest = [] → VC N e l w0 (Q .normal))
    (hoth : ∀ fuel listed a w, listed.toList.count false ≤ fuel + 1 → Real ops done rest listed → FitsR ops pend listed N e a → Sat l w → Env w0 w →
      ∀ j o, (j, o) ∈ rest → j ∈ Region.ready .any ops listed → wpOp P ops Q j (wpAny P .any ops Q fuel (listed.setIfInBounds j true)) a w) :
    ∀ fuel listed a w, listed.toList.count false ≤ fuel → Real ops done rest listed → FitsR ops pend listed N e a → Sat l w → Env w0 w → wpAny P .any ops Q fuel listed a w := by
  have fin : ∀ listed a w, Real ops done rest listed → FitsR ops pend listed N e a → Sat l w → Env w0 w → Region.ready .any ops listed = [] → Q .normal a w := by
    intro listed a w hR hf hs he hr
    have all1 : ∀ n i, i < n → i < ops.size → listed.getD i false = true := by
      intro n
      induction n with
      | zero => intro i hi; omega
      | succ n ih =>
        intro i hi hlt
        cases hv : listed.getD i false with
        | true => rfl
        | false =>
          have hlt' : i < listed.size := by rw [hR.size]; exact hlt
          have h0 : listed.getD i true = false := by rw [← getD_ff hlt']; exact hv
          have ho : ops[i]? = some ops[i] := Array.getElem?_eq_getElem hlt
          have := ready_of h0 ho fun j hj => ih j (by have := hst.ok.back i _ ho j hj; exact Nat.lt_of_lt_of_le this (by omega)) (by have := hst.ok.back i _ ho j hj; exact Nat.lt_trans this hlt)
          rw [hr] at this; cases this
    have hre : rest = [] := by
      cases rest with
      | nil => rfl
      | cons p rs =>
        have h1 := hR.d2 p List.mem_cons_self
        have h2 := (Array.getElem?_eq_some_iff.1 (hst.r p List.mem_cons_self)).1
        have h3 := all1 (p.1 + 1) p.1 (by omega) h2
        rw [getD_ff (by rw [hR.size]; exact h2), h1] at h3; cases h3
    have hv := hend hre
    unfold VC at hv
    refine hv a w ⟨hf.size, hf.defers, fun k v hk => hf.slots k v hk fun p hp o ho _ => ?_⟩ hs he
    have := (Array.getElem?_eq_some_iff.1 ho).1
    exact all1 (p.1 + 1) p.1 (by omega) this
  intro fuel
  induction fuel with
  | zero =>
    intro listed a w hc hR hf hs he
    have hr : Region.ready .any ops listed = [] := by
      refine List.eq_nil_iff_forall_not_mem.2 fun j hj => ?_
      obtain ⟨h0, o, ho, _⟩ := mem_ready' hj
      have hlt : j < listed.size := by rw [hR.size]; exact (Array.getElem?_eq_some_iff.1 ho).1
      have hv : listed.toList[j]'(by simpa using hlt) = false := by simpa [hlt] using h0
      have hpos : 0 < listed.toList.count false := List.count_pos_iff.2 (hv ▸ List.getElem_mem _)
      omega
    exact ⟨hr, fin listed a w hR hf hs he hr⟩
  | succ fuel ih =>
    intro listed a w hc hR hf hs he
    refine ⟨fin listed a w hR hf hs he, fun j hj => ?_⟩
    obtain ⟨h0, o, ho, haft⟩ := mem_ready' hj
    have hlt : j < ops.size := (Array.getElem?_eq_some_iff.1 ho).1
    rcases hst.all j hlt with hd | ⟨v, hp⟩ | ⟨o', hr⟩
    · have := hR.d1 j hd hlt
      rw [getD_ff (by rw [hR.size]; exact hlt), h0] at this; cases this
    · obtain ⟨o2, ho2, hN, hcase⟩ := hq _ hp
      rw [ho] at ho2; cases ho2
      have hc' : (listed.setIfInBounds j true).toList.count false ≤ fuel := by have := count_set h0; omega
      have hR' : Real ops done rest (listed.setIfInBounds j true) := hR.set (o := o) hj (fun i hi hlt => .inr (hR.d1 i hi hlt)) (fun q hq' => ⟨hq', fun e => hst.pr _ hp q hq' e.symm⟩)
      have fit : ∀ u, u = v → FitsR ops pend (listed.setIfInBounds j true) N e (a.put o.dst u) := fun u hu' => by
        subst hu'
        refine hf.put (fun d hd => (hN d hd).1) fun k u' hk hp' => ?_
        by_cases hdk : o.dst = some k
        · have := (hN k hdk).2
          rw [hk] at this
          exact .inl ⟨hdk, Option.some.inj this⟩
        · refine .inr ⟨hdk, hk, fun p hp q hq' hqd => ?_⟩
          have h1 := hp' p hp q hq' hqd
          have hne : j ≠ p.1 := fun e => by rw [← e, ho] at hq'; cases hq'; exact hdk hqd
          rwa [getD_set_ne false hne] at h1
      unfold wpOp
      simp only [ho]
      rcases hcase with ⟨hw, hrun⟩ | ⟨hw, hv⟩
      · rw [if_pos (hf.wanted hst.ok hst.dp ho haft hw)]
        refine .inl ?_
        obtain ⟨ρ, hρ, heq⟩ := hf.eval hst.ok hst.dp ho haft
        unfold Oper.wp
        rw [heq]
        refine uponV.upon (uponV.mono (hrun ρ hρ w hs) ?_)
        rintro u w' ⟨hu', hs', he'⟩
        exact ih _ _ _ hc' hR' (fit u hu') hs' (he.trans he')
      · rw [if_neg (by rw [hf.wanted hst.ok hst.dp ho haft hw]; decide)]
        have hv' : v = undef := hv
        exact ih _ _ _ hc' hR' (fit undef hv'.symm) hs he
    · exact hoth fuel listed a w hc hR hf hs he j o' hr hj
end

/-! ### 4. The rules -/
section
variable {P : Program} {N : Nat} {ops : Array Oper} {Q : Exit → Act → World → Prop} {e : Slots} {l m : List Asrt} {w0 : World} {done : List Nat} {pend pend' : List (Nat × Value)} {rest : List (Nat × Oper)}

theorem vd_start {id : Nat} {ops' : List Oper} [KMix P] {r : List (Nat × Oper)} (h : VA P N ops'.toArray Q [] [] r e l w0) (hok : okRegion ops' = true := by rfl) (hr : numbered 0 ops' = r := by simp only [numbered]; rfl) : VC N e l w0 ((Code.region id ops'.toArray true).wp P Q) := by
  subst hr
  unfold VC
  intro a w hf hs he
  have ok := ok_of hok
  refine wp_region_any KMix.out (h ⟨ok, fun p hp => ?_, fun i hi => ?_, fun p hp => (by cases hp), numbered_nd, fun p hp => (by cases hp)⟩ (fun p hp => by cases hp) _ _ a _ ?_ ⟨by simp, fun i hi => (by cases hi), fun p hp => ?_, fun i o hi hl => ?_⟩ ⟨hf.size, hf.defers, fun k v hk _ => hf.slots k v hk⟩ hs.drew ⟨he.os, he.tape, he.output⟩)
  · have := (mem_numbered (l := ops') (n := 0) (i := p.1) (o := p.2)).1 hp
    simpa using this.2
  · refine .inr (.inr ⟨ops'.toArray[i], mem_numbered.2 ⟨Nat.zero_le _, ?_⟩⟩)
    have : i < ops'.length := by simpa using hi
    simp [this]
  · have h1 := List.count_le_length (a := false) (l := (Array.replicate ops'.toArray.size false).toList)
    simpa using h1
  · have := (mem_numbered (l := ops') (n := 0) (i := p.1) (o := p.2)).1 hp
    have h1 := (List.getElem?_eq_some_iff.1 this.2).1
    have h2 : p.1 < ops'.length := by simpa using h1
    simp [h2]
  · exfalso
    have h2 : i < ops'.length := by simpa using (Array.getElem?_eq_some_iff.1 hi).1
    simp [h2] at hl
theorem va_end (h : VC N e l w0 (Q .normal)) : VA P N ops Q done pend [] e l w0 := by
  intro hst hq
  exact va_core hst hq (fun _ => h) (fun _ _ _ _ _ _ _ _ _ j o hj => by cases hj)
/-- One more that is quiet. -/
theorem va_quiet {i d : Nat} {o : Oper} {v : Value} (hq : QtO P N ops ((d, v) :: e) l o v) (h : VA P N ops Q done ((i, v) :: pend) rest ((d, v) :: e) l w0) (hod : o.dst = some d) (hn : look e d = none) (hwt : Waits ops i d) :
    VA P N ops Q done pend ((i, o) :: rest) e l w0 := by
  intro hst hqs fuel listed a w hc hR hf hs he
  have hi : ops[i]? = some o := hst.r (i, o) List.mem_cons_self
  have hnd : ∀ q ∈ rest, i ≠ q.1 := (List.pairwise_cons.1 hst.nd).1
  refine h ⟨hst.ok, fun p hp => hst.r p (List.mem_cons_of_mem _ hp), fun k hk => ?_, fun p hp q hq' => ?_, (List.pairwise_cons.1 hst.nd).2, fun p hp o' d' h1 h2 => ?_⟩ (fun p hp => ?_) fuel listed a w hc ⟨hR.size, hR.d1, fun p hp => hR.d2 p (List.mem_cons_of_mem _ hp), hR.down⟩ ⟨hf.size, hf.defers, fun k u hk hp => ?_⟩ hs he
  · rcases hst.all k hk with h1 | ⟨v, h1⟩ | ⟨o', h1⟩
    · exact .inl h1
    · exact .inr (.inl ⟨v, List.mem_cons_of_mem _ h1⟩)
    · rcases List.mem_cons.1 h1 with h2 | h2
      · cases h2; exact .inr (.inl ⟨v, List.mem_cons_self⟩)
      · exact .inr (.inr ⟨o', h2⟩)
  · rcases List.mem_cons.1 hp with rfl | hp
    · exact hnd q hq'
    · exact hst.pr p hp q (List.mem_cons_of_mem _ hq')
  · rcases List.mem_cons.1 hp with rfl | hp
    · rw [hi] at h1; cases h1
      rw [hod] at h2; cases h2
      exact hwt
    · exact hst.dp p hp o' d' h1 h2
  · rcases List.mem_cons.1 hp with rfl | hp
    · exact ⟨o, hi, hq⟩
    · exact (hqs p hp).grow hn
  · have hif := hR.d2 (i, o) List.mem_cons_self
    have hlt : i < listed.size := by rw [hR.size]; exact (Array.getElem?_eq_some_iff.1 hi).1
    by_cases hk' : k = d
    · subst hk'
      have := hp (i, v) List.mem_cons_self o hi hod
      rw [getD_ff hlt, hif] at this; cases this
    · have hk2 : look e k = some u := by
        simp only [look] at hk
        split at hk
        · rename_i hb; exact absurd (Nat.eq_of_beq_eq_true hb).symm hk'
        · exact hk
      exact hf.slots k u hk2 fun p hp' => hp p (List.mem_cons_of_mem _ hp')
def anc2 (ops : List Oper) : List Nat → List Nat
  | [] => []
  | j :: l => match ops[j]? with
    | some o => j :: (afters o ++ anc2 ops l)
    | none => anc2 ops l
def inP (anc : List Nat) : List (Nat × Value) → List Nat
  | [] => []
  | p :: l => match memN p.1 anc with | true => p.1 :: inP anc l | false => inP anc l
def leftP (anc : List Nat) : List (Nat × Value) → List (Nat × Value)
  | [] => []
  | p :: l => match memN p.1 anc with | true => leftP anc l | false => p :: leftP anc l
theorem mem_inP {anc : List Nat} {i : Nat} : i ∈ inP anc pend ↔ i ∈ anc ∧ ∃ v, (i, v) ∈ pend := by
  induction pend with
  | nil => simp [inP]
  | cons p l ih =>
    obtain ⟨j, v⟩ := p
    simp only [inP]
    split
    · rename_i h; rw [memN_iff] at h
      rw [List.mem_cons, ih]
      constructor
      · rintro (rfl | ⟨h1, u, h2⟩)
        · exact ⟨h, v, List.mem_cons_self⟩
        · exact ⟨h1, u, List.mem_cons_of_mem _ h2⟩
      · rintro ⟨h1, u, h2⟩
        rcases List.mem_cons.1 h2 with h3 | h3
        · cases h3; exact .inl rfl
        · exact .inr ⟨h1, u, h3⟩
    · rename_i h
      rw [ih]
      constructor
      · rintro ⟨h1, u, h2⟩; exact ⟨h1, u, List.mem_cons_of_mem _ h2⟩
      · rintro ⟨h1, u, h2⟩
        rcases List.mem_cons.1 h2 with h3 | h3
        · cases h3; rw [memN_iff.2 h1] at h; cases h
        · exact ⟨h1, u, h3⟩
theorem mem_leftP {anc : List Nat} {p : Nat × Value} : p ∈ leftP anc pend ↔ p ∈ pend ∧ p.1 ∉ anc := by
  induction pend with
  | nil => simp [leftP]
  | cons q l ih =>
    simp only [leftP]
    split
    · rename_i h; rw [memN_iff] at h
      rw [ih, List.mem_cons]
      constructor
      · rintro ⟨h1, h2⟩; exact ⟨.inr h1, h2⟩
      · rintro ⟨rfl | h1, h2⟩
        · exact absurd h h2
        · exact ⟨h1, h2⟩
    · rename_i h
      have h' : q.1 ∉ anc := fun hx => by rw [memN_iff.2 hx] at h; cases h
      rw [List.mem_cons, List.mem_cons, ih]
      constructor
      · rintro (rfl | ⟨h1, h2⟩)
        · exact ⟨.inl rfl, h'⟩
        · exact ⟨.inr h1, h2⟩
      · rintro ⟨rfl | h1, h2⟩
        · exact .inl rfl
        · exact .inr ⟨h1, h2⟩
def blockedO (done : List Nat) (pend : List (Nat × Value)) : List Nat → Bool
  | [] => false
  | a :: l => (!memN a done && !memN a (pend.map (·.1))) || blockedO done pend l
def blocked (done : List Nat) (pend : List (Nat × Value)) : List (Nat × Oper) → Bool
  | [] => true
  | p :: l => blockedO done pend (afters p.2) && blocked done pend l
theorem blockedO_spec {l : List Nat} (h : blockedO done pend l = true) : ∃ a ∈ l, a ∉ done ∧ ∀ v, (a, v) ∉ pend := by
  induction l with
  | nil => cases h
  | cons a l ih =>
    simp only [blockedO, Bool.or_eq_true, Bool.and_eq_true, Bool.not_eq_true'] at h
    rcases h with ⟨h1, h2⟩ | h
    · refine ⟨a, List.mem_cons_self, fun hx => ?_, fun v hx => ?_⟩
      · rw [memN_iff.2 hx] at h1; cases h1
      · rw [memN_iff.2 (List.mem_map.2 ⟨(a, v), hx, rfl⟩ : a ∈ pend.map (·.1))] at h2; cases h2
    · obtain ⟨b, h1, h2⟩ := ih h
      exact ⟨b, List.mem_cons_of_mem _ h1, h2⟩
theorem blocked_spec {l : List (Nat × Oper)} (h : blocked done pend l = true) {p : Nat × Oper} (hp : p ∈ l) : blockedO done pend (afters p.2) = true := by
  induction l with
  | nil => cases hp
  | cons q l ih =>
    simp only [blocked, Bool.and_eq_true] at h
    rcases List.mem_cons.1 hp with rfl | hp
    · exact h.1
    · exact ih h.2 hp
/-- What is blocked is not ready. -/
theorem not_ready {listed : Array Bool} {j : Nat} {o : Oper} (hst : Stat ops done pend rest) (hR : Real ops done rest listed) (ho : ops[j]? = some o) (hb : blockedO done pend (afters o) = true) : j ∉ Region.ready .any ops listed := by
  intro hj
  obtain ⟨h0, o', ho', haft⟩ := mem_ready' hj
  rw [ho] at ho'; cases ho'
  obtain ⟨a, ha, h1, h2⟩ := blockedO_spec hb
  have hjl := (Array.getElem?_eq_some_iff.1 ho).1
  have hal : a < ops.size := Nat.lt_trans (hst.ok.back j o ho a ha) hjl
  rcases hst.all a hal with h3 | ⟨v, h3⟩ | ⟨oa, h3⟩
  · exact h1 h3
  · exact h2 v h3
  · have h4 := hR.d2 _ h3
    have h5 := haft a ha
    rw [getD_ff (by rw [hR.size]; exact hal), h4] at h5; cases h5
/-- The world and the slots behind an operation that does something. -/
theorem eff_wp {i : Nat} {o : Oper} {rest' : List (Nat × Oper)} {A : List Asrt} {α : Type} {val : α → Value} {pu : α → Prop} {res : α → List Asrt}
    (hst : Stat ops done pend rest) (hir : (i, o) ∈ rest) (hr' : ∀ p, p ∈ rest' ↔ p ∈ rest ∧ p.1 ≠ i) (hnd' : rest'.Pairwise fun p q => p.1 ≠ q.1)
    (ho : OpE P e o A val pu res) (ht : Takes A l m) (hg : Wants ops e o true) (hd : o.dst.all (Nat.blt · N) = true)
    (hp : ∀ x, pu x → ∀ p ∈ leftP (anc2 ops.toList (afters o)) pend, Qt P N ops (put e o.dst (val x)) (res x ++ m) p)
    (h : ∀ x, pu x → VA P N ops Q (i :: (inP (anc2 ops.toList (afters o)) pend ++ done)) (leftP (anc2 ops.toList (afters o)) pend) rest' (put e o.dst (val x)) (res x ++ m) w0)
    {fuel : Nat} {listed : Array Bool} {a : Act} {w : World} (hc : listed.toList.count false ≤ fuel + 1) (hR : Real ops done rest listed) (hf : FitsR ops pend listed N e a) (hs : Sat l w) (he : Env w0 w) (hj : i ∈ Region.ready .any ops listed) :
    wpOp P ops Q i (wpAny P .any ops Q fuel (listed.setIfInBounds i true)) a w := by
  obtain ⟨h0, o', hi, haft⟩ := mem_ready' hj
  have hi' := hst.r _ hir
  rw [hi'] at hi; cases hi
  have hanc : ∀ k ∈ anc2 ops.toList (afters o), listed.getD k false = true := by
    have key : ∀ L : List Nat, (∀ k ∈ L, listed.getD k false = true) → ∀ k ∈ anc2 ops.toList L, listed.getD k false = true := by
      intro L
      induction L with
      | nil => intro _ k hk; cases hk
      | cons j L ih =>
        intro hL k hk
        simp only [anc2] at hk
        split at hk
        · rename_i q hq
          rcases List.mem_cons.1 hk with rfl | hk
          · exact hL _ List.mem_cons_self
          · rcases List.mem_append.1 hk with hk | hk
            · exact hR.down j q (by simpa using hq) (hL j List.mem_cons_self) k hk
            · exact ih (fun k hk => hL k (List.mem_cons_of_mem _ hk)) k hk
        · exact ih (fun k hk => hL k (List.mem_cons_of_mem _ hk)) k hk
    exact key _ haft
  have hil : i < listed.size := by rw [hR.size]; exact (Array.getElem?_eq_some_iff.1 hi').1
  unfold wpOp
  simp only [hi']
  rw [if_pos (hf.wanted hst.ok hst.dp hi' haft hg)]
  refine .inl ?_
  obtain ⟨ρ, hρ, heq⟩ := hf.eval hst.ok hst.dp hi' haft
  unfold Oper.wp
  rw [heq]
  unfold OpE at ho
  refine uponV.upon (uponV.mono ((ho ρ hρ).use hs ht) ?_)
  rintro v w' ⟨x, rfl, hpu, hs', he'⟩
  refine h x hpu ⟨hst.ok, fun p hp => hst.r p ((hr' p).1 hp).1, fun k hk => ?_, fun p hp q hq => hst.pr p (mem_leftP.1 hp).1 q ((hr' q).1 hq).1, hnd', fun p hp => hst.dp p (mem_leftP.1 hp).1⟩ (hp x hpu) fuel _ _ w' (by have := count_set h0; omega)
    (hR.set (o := o) hj (fun k hk hlt => ?_) (fun p hp => (hr' p).1 hp)) (hf.put (fun d hd' => ?_) fun k u hk hp' => ?_) hs' (he.trans he')
  · rcases hst.all k hk with h1 | ⟨v, h1⟩ | ⟨o2, h1⟩
    · exact .inl (List.mem_cons_of_mem _ (List.mem_append_right _ h1))
    · by_cases hx : k ∈ anc2 ops.toList (afters o)
      · exact .inl (List.mem_cons_of_mem _ (List.mem_append_left _ (mem_inP.2 ⟨hx, v, h1⟩)))
      · exact .inr (.inl ⟨v, mem_leftP.2 ⟨h1, hx⟩⟩)
    · by_cases hx : k = i
      · subst hx; exact .inl List.mem_cons_self
      · exact .inr (.inr ⟨o2, (hr' _).2 ⟨h1, hx⟩⟩)
  · rcases List.mem_cons.1 hk with rfl | hk
    · exact .inl rfl
    · rcases List.mem_append.1 hk with hk | hk
      · exact .inr (hanc k (mem_inP.1 hk).1)
      · exact .inr (hR.d1 k hk hlt)
  · rw [hd'] at hd
    simpa [Nat.blt_eq] using hd
  · by_cases hdk : o.dst = some k
    · rw [hdk] at hk
      simp only [Sb.put, look] at hk
      split at hk
      · exact .inl ⟨hdk, (Option.some.inj hk).symm⟩
      · rename_i hb; exact absurd rfl (Nat.ne_of_beq_eq_false hb)
    · refine .inr ⟨hdk, ?_, fun p hp q hq hqd => ?_⟩
      · cases hod : o.dst with
        | none => rw [hod] at hk; exact hk
        | some d =>
          rw [hod] at hk
          simp only [Sb.put, look] at hk
          split at hk
          · rename_i hb; exact absurd (by rw [hod, Nat.eq_of_beq_eq_true hb]) hdk
          · exact hk
      · by_cases hx : p.1 ∈ anc2 ops.toList (afters o)
        · exact hanc _ hx
        · have h1 := hp' p (mem_leftP.2 ⟨hp, hx⟩) q hq hqd
          by_cases hpi : i = p.1
          · exact (hst.pr p hp _ hir hpi.symm).elim
          · rwa [getD_set_ne false hpi] at h1
/-- An operation that does something; all others wait for it. -/
theorem va_eff {i : Nat} {o : Oper} {A : List Asrt} {α : Type} {val : α → Value} {pu : α → Prop} {res : α → List Asrt}
    (ho : OpE P e o A val pu res) (ht : Takes A l m) (hg : Wants ops e o true) (hd : o.dst.all (Nat.blt · N) = true)
    (hb : blocked done pend rest = true)
    (hp : ∀ x, pu x → ∀ p ∈ leftP (anc2 ops.toList (afters o)) pend, Qt P N ops (put e o.dst (val x)) (res x ++ m) p)
    (h : ∀ x, pu x → VA P N ops Q (i :: (inP (anc2 ops.toList (afters o)) pend ++ done)) (leftP (anc2 ops.toList (afters o)) pend) rest (put e o.dst (val x)) (res x ++ m) w0) :
    VA P N ops Q done pend ((i, o) :: rest) e l w0 := by
  intro hst hq
  have hnd := List.pairwise_cons.1 hst.nd
  refine va_core hst hq (fun h => by cases h) fun fuel listed a w hc hR hf hs he j oj hj hjr => ?_
  rcases List.mem_cons.1 hj with h2 | h2
  · cases h2
    refine eff_wp hst List.mem_cons_self (fun p => ⟨fun hp => ⟨List.mem_cons_of_mem _ hp, (hnd.1 p hp).symm⟩, fun hp => ?_⟩) hnd.2 ho ht hg hd hp h hc hR hf hs he hjr
    rcases List.mem_cons.1 hp.1 with h3 | h3
    · cases h3; exact absurd rfl hp.2
    · exact h3
  · exact (not_ready hst hR (hst.r _ hj) (blocked_spec hb h2) hjr).elim
def without (j : Nat) : List (Nat × Oper) → List (Nat × Oper)
  | [] => []
  | p :: l => match Nat.beq p.1 j with | true => without j l | false => p :: without j l
theorem mem_without {j : Nat} {p : Nat × Oper} {l : List (Nat × Oper)} : p ∈ without j l ↔ p ∈ l ∧ p.1 ≠ j := by
  induction l with
  | nil => simp [without]
  | cons q l ih =>
    simp only [without]
    split
    · rename_i h; have h := Nat.eq_of_beq_eq_true h
      rw [ih, List.mem_cons]
      constructor
      · rintro ⟨h1, h2⟩; exact ⟨.inr h1, h2⟩
      · rintro ⟨rfl | h1, h2⟩
        · exact absurd h h2
        · exact ⟨h1, h2⟩
    · rename_i h; have h := Nat.ne_of_beq_eq_false h
      rw [List.mem_cons, List.mem_cons, ih]
      constructor
      · rintro (rfl | ⟨h1, h2⟩)
        · exact ⟨.inl rfl, h⟩
        · exact ⟨.inr h1, h2⟩
      · rintro ⟨rfl | h1, h2⟩
        · exact .inl rfl
        · exact .inr ⟨h1, h2⟩
theorem without_nd {j : Nat} {l : List (Nat × Oper)} (h : l.Pairwise fun p q => p.1 ≠ q.1) : (without j l).Pairwise fun p q => p.1 ≠ q.1 := by
  induction l with
  | nil => exact List.Pairwise.nil
  | cons q l ih =>
    obtain ⟨h1, h2⟩ := List.pairwise_cons.1 h
    simp only [without]
    split
    · exact ih h2
    · exact List.Pairwise.cons (fun p hp => h1 p (mem_without.1 hp).1) (ih h2)
/-- Two operations that do something, in whichever order; all others wait for one of them. -/
theorem va_two {i j : Nat} {o u : Oper} {A B : List Asrt} {α β : Type} {val : α → Value} {pu : α → Prop} {res : α → List Asrt} {val' : β → Value} {pu' : β → Prop} {res' : β → List Asrt} {m' : List Asrt}
    (hju : (j, u) ∈ rest) (hb : blocked done pend (without j rest) = true)
    (ho : OpE P e o A val pu res) (ht : Takes A l m) (hg : Wants ops e o true) (hd : o.dst.all (Nat.blt · N) = true)
    (hp : ∀ x, pu x → ∀ p ∈ leftP (anc2 ops.toList (afters o)) pend, Qt P N ops (put e o.dst (val x)) (res x ++ m) p)
    (h : ∀ x, pu x → VA P N ops Q (i :: (inP (anc2 ops.toList (afters o)) pend ++ done)) (leftP (anc2 ops.toList (afters o)) pend) rest (put e o.dst (val x)) (res x ++ m) w0)
    (ho' : OpE P e u B val' pu' res') (ht' : Takes B l m') (hg' : Wants ops e u true) (hd' : u.dst.all (Nat.blt · N) = true)
    (hp' : ∀ x, pu' x → ∀ p ∈ leftP (anc2 ops.toList (afters u)) pend, Qt P N ops (put e u.dst (val' x)) (res' x ++ m') p)
    (h' : ∀ x, pu' x → VA P N ops Q (j :: (inP (anc2 ops.toList (afters u)) pend ++ done)) (leftP (anc2 ops.toList (afters u)) pend) ((i, o) :: without j rest) (put e u.dst (val' x)) (res' x ++ m') w0) :
    VA P N ops Q done pend ((i, o) :: rest) e l w0 := by
  intro hst hq
  have hnd := List.pairwise_cons.1 hst.nd
  have hij : i ≠ j := hnd.1 _ hju
  refine va_core hst hq (fun h => by cases h) fun fuel listed a w hc hR hf hs he k ok hk hkr => ?_
  rcases List.mem_cons.1 hk with h2 | h2
  · cases h2
    refine eff_wp hst List.mem_cons_self (fun p => ⟨fun hp => ⟨List.mem_cons_of_mem _ hp, (hnd.1 p hp).symm⟩, fun hp => ?_⟩) hnd.2 ho ht hg hd hp h hc hR hf hs he hkr
    rcases List.mem_cons.1 hp.1 with h3 | h3
    · cases h3; exact absurd rfl hp.2
    · exact h3
  · by_cases hkj : k = j
    · subst hkj
      refine eff_wp hst (List.mem_cons_of_mem _ hju) (fun p => ⟨fun hp => ?_, fun hp => ?_⟩) (List.Pairwise.cons (fun p hp => hnd.1 p (mem_without.1 hp).1) (without_nd hnd.2)) ho' ht' hg' hd' hp' h' hc hR hf hs he hkr
      · rcases List.mem_cons.1 hp with rfl | h3
        · exact ⟨List.mem_cons_self, hij⟩
        · have := mem_without.1 h3
          exact ⟨List.mem_cons_of_mem _ this.1, this.2⟩
      · rcases List.mem_cons.1 hp.1 with rfl | h3
        · exact List.mem_cons_self
        · exact List.mem_cons_of_mem _ (mem_without.2 ⟨h3, hp.2⟩)
    · exact (not_ready hst hR (hst.r _ hk) (blocked_spec hb (mem_without.2 ⟨h2, hkj⟩)) hkr).elim

theorem va_stat (h : Stat ops done pend rest → VA P N ops Q done pend rest e l w0) : VA P N ops Q done pend rest e l w0 := fun hst => h hst hst
theorem va_know {p : Prop} (hp : ∀ w, Sat l w → p) (h : p → VA P N ops Q done pend rest e l w0) : VA P N ops Q done pend rest e l w0 := fun hst hq fuel listed a w hc hR hf hs he => h (hp w hs) hst hq fuel listed a w hc hR hf hs he
/-- Operation j out of the rest. -/
inductive Pick (j : Nat) : List (Nat × Oper) → Oper → List (Nat × Oper) → Prop
  | here {o : Oper} {l : List (Nat × Oper)} : Pick j ((j, o) :: l) o l
  | there {o : Oper} {p : Nat × Oper} {l l' : List (Nat × Oper)} : Pick j l o l' → Pick j (p :: l) o (p :: l')
theorem Pick.perm {j : Nat} {o : Oper} {l l' : List (Nat × Oper)} (h : Pick j l o l') : l.Perm ((j, o) :: l') := by
  induction h with
  | here => exact List.Perm.refl _
  | there _ ih => exact (List.Perm.cons _ ih).trans (List.Perm.swap _ _ _)
theorem va_perm {rest' : List (Nat × Oper)} (hp : rest.Perm rest') (h : VA P N ops Q done pend rest' e l w0) : VA P N ops Q done pend rest e l w0 := by
  intro hst hq fuel listed a w hc hR hf hs he
  refine h ⟨hst.ok, fun p hx => hst.r p (hp.mem_iff.2 hx), fun i hi => ?_, fun p hx q hy => hst.pr p hx q (hp.mem_iff.2 hy), ?_, hst.dp⟩ hq fuel listed a w hc ⟨hR.size, hR.d1, fun p hx => hR.d2 p (hp.mem_iff.2 hx), hR.down⟩ hf hs he
  · rcases hst.all i hi with h1 | h1 | ⟨o, h1⟩
    · exact .inl h1
    · exact .inr (.inl h1)
    · exact .inr (.inr ⟨o, hp.mem_iff.1 h1⟩)
  · exact (hp.pairwise_iff (fun h => Ne.symm h)).1 hst.nd
/-- Operation j is looked at next. -/
theorem va_pick (j : Nat) {o : Oper} {rest' : List (Nat × Oper)} (h : VA P N ops Q done pend ((j, o) :: rest') e l w0) (hp : Pick j rest o rest' := by repeat (first | exact Pick.here | apply Pick.there)) : VA P N ops Q done pend rest e l w0 := va_perm hp.perm h
/-! ### 5. Quiet ones, told by their rules -/
section
variable {i d : Nat} {op : Op} {t : TypeId} {pos : String} {aft : Array Edge} {g : Option (Nat × Bool)} {v : Value}
theorem qt_pure (ho : OpV P e ⟨some d, op, t, pos, aft, g⟩ v) (hw : Wants ops e ⟨some d, op, t, pos, aft, g⟩ true) (hd : Nat.blt d N = true) (hl : look e d = some v) : QtO P N ops e l ⟨some d, op, t, pos, aft, g⟩ v := by
  refine ⟨fun d' hd' => by cases hd'; exact ⟨by simpa [Nat.blt_eq] using hd, hl⟩, .inl ⟨hw, fun ρ hρ w hs => ?_⟩⟩
  have h1 := ho.d
  unfold OpD OpE at h1
  refine uponV.mono ((h1 ρ hρ).use hs Takes.nil) ?_
  rintro u w' ⟨x, rfl, _, hs', he'⟩
  exact ⟨rfl, hs', he'⟩
theorem qt_read {A A' : List Asrt} (ho : OpD P e ⟨some d, op, t, pos, aft, g⟩ A v A') {m n : List Asrt} (ht : Takes A l m) (hb : Takes l (A' ++ m) n) (hw : Wants ops e ⟨some d, op, t, pos, aft, g⟩ true) (hd : Nat.blt d N = true) (hl : look e d = some v) :
    QtO P N ops e l ⟨some d, op, t, pos, aft, g⟩ v := by
  refine ⟨fun d' hd' => by cases hd'; exact ⟨by simpa [Nat.blt_eq] using hd, hl⟩, .inl ⟨hw, fun ρ hρ w hs => ?_⟩⟩
  unfold OpD OpE at ho
  refine uponV.mono ((ho ρ hρ).use hs ht) ?_
  rintro u w' ⟨x, rfl, _, hs', he'⟩
  exact ⟨rfl, (hs'.takes hb).ent (Ent.trans (all_split _ _) (star_left _ _)), he'⟩
theorem qt_skip (hw : Wants ops e ⟨some d, op, t, pos, aft, g⟩ false) (hd : Nat.blt d N = true) (hl : look e d = some undef) : QtO P N ops e l ⟨some d, op, t, pos, aft, g⟩ undef :=
  ⟨fun d' hd' => by cases hd'; exact ⟨by simpa [Nat.blt_eq] using hd, hl⟩, .inr ⟨hw, rfl⟩⟩
theorem wants_none {d : Option Tmp} : Wants ops e ⟨d, op, t, pos, aft, none⟩ true := rfl
theorem wants_some {d : Option Tmp} {j dj : Nat} {b r : Bool} {u : Value} {oj : Oper} (hj : ops[j]? = some oj) (hjd : oj.dst = some dj) (hb : look e dj = some u) (hr : (asB u == some b) = r) : Wants ops e ⟨d, op, t, pos, aft, some (j, b)⟩ r :=
  ⟨oj, dj, u, hj, hjd, hb, hr.symm⟩
end
end
end Go.Sb
