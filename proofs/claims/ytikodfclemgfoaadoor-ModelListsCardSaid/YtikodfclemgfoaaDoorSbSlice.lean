/- Slices: len, an element's address, reading and writing an element, cutting, append, make; calls. -/
import Derived.Test.YtikodfclemgfoaaDoorSbMem
set_option linter.all false
set_option linter.unusedVariables false
set_option linter.unusedSimpArgs false
namespace Go.Sb
open Go.RowKit

section
variable {P : Program} {e : Slots} {x y z : Operand} {u v : Value} {dst : Option Tmp} {t : TypeId} {pos : String} {aft : Array Edge} {g : Option (Nat × Bool)}

/-! ### 1. Calls -/
def callable (P : Program) (f : FuncId) : Bool := match P.funcs[f]? with | some fn => fn.body.isSome && !(fn.name == "runtime.NumGoroutine") | none => false
theorem run_callFunc {f : FuncId} (h : callable P f = true) (args : Array Value) (w : World) : (callFunc f args).run P w = .ok (.enter f args) w := by
  unfold callable at h
  cases hf : P.funcs[f]? with
  | none => simp [hf] at h
  | some fn =>
    simp [hf] at h
    obtain ⟨c, hb⟩ := Option.isSome_iff_exists.1 h.1
    simp [callFunc, hf, h.2, hb]
theorem map_see {ρ : Operand → Value} (hρ : ∀ x v, see e x = some v → ρ x = v) : ∀ (xs : List Operand) (ys : List Value), xs.map (see e) = ys.map some → xs.map ρ = ys
  | [], ys, h => by cases ys <;> simp_all
  | x :: xs, [], h => by simp at h
  | x :: xs, y :: ys, h => by
    simp only [List.map_cons, List.cons.injEq] at h
    simp only [List.map_cons, hρ x y h.1, map_see hρ xs ys h.2]
theorem op_call {f : FuncId} {args : Array Operand} {vs : List Value} {ts : Array TypeId} {α : Type} {pre : List Asrt} {val : α → Value} {pu : α → Prop} {res : α → List Asrt}
    (hs : Does P f vs.toArray pre val pu res) (hc : callable P f = true) (ha : args.toList.map (see e) = vs.map some) : OpE P e ⟨dst, .call ⟨.value (.func f), args, ts⟩, t, pos, aft, g⟩ pre val pu res := fun ρ hρ R w hS => by
  have h1 : args.map ρ = vs.toArray := by apply Array.ext'; simpa using map_see hρ _ _ ha
  have h2 : ρ (.func f) = .func (.func f) #[] #[] := hρ _ _ rfl
  simp only [execOp, resolve, h1, h2, Deferred.ofValue, invoke, Sem.run_bind, Sem.run_pure, Result.andThen_ok, run_callFunc hc, Array.append_empty, Array.empty_append]
  exact (hs R w hS).mono fun ee w' ⟨x, he, hp, hS', hv⟩ => ⟨val x, he, x, rfl, hp, hS', hv⟩
theorem op_callv {f : FuncId} {a : Operand} {args : Array Operand} {first vs capt : List Value} {ts : Array TypeId} {α : Type} {pre : List Asrt} {val : α → Value} {pu : α → Prop} {res : α → List Asrt}
    (hf : see e a = some (.func (.func f) first.toArray capt.toArray)) (hs : Does P f (first ++ vs ++ capt).toArray pre val pu res) (hc : callable P f = true) (ha : args.toList.map (see e) = vs.map some) : OpE P e ⟨dst, .call ⟨.value a, args, ts⟩, t, pos, aft, g⟩ pre val pu res := fun ρ hρ R w hS => by
  have h1 : args.map ρ = vs.toArray := by apply Array.ext'; simpa using map_see hρ _ _ ha
  have h2 := hρ _ _ hf
  have h3 : first.toArray ++ vs.toArray ++ capt.toArray = (first ++ vs ++ capt).toArray := by simp
  simp only [execOp, resolve, h1, h2, Deferred.ofValue, invoke, Sem.run_bind, Sem.run_pure, Result.andThen_ok, run_callFunc hc, h3]
  exact (hs R w hS).mono fun ee w' ⟨x, he, hp, hS', hv⟩ => ⟨val x, he, x, rfl, hp, hS', hv⟩
theorem op_invoke {f : FuncId} {a : Operand} {T : TypeId} {rv r : Value} {nm : String} {args : Array Operand} {vs : List Value} {ts : Array TypeId} {α : Type} {pre : List Asrt} {val : α → Value} {pu : α → Prop} {res : α → List Asrt}
    (hf : see e a = some (.iface T rv)) (hm : ∀ w, (method (P.types.size + Made.depth) T rv nm).run P w = .ok (f, r) w) (hs : Does P f (r :: vs).toArray pre val pu res) (hc : callable P f = true) (ha : args.toList.map (see e) = vs.map some) : OpE P e ⟨dst, .call ⟨.invoke a nm, args, ts⟩, t, pos, aft, g⟩ pre val pu res := fun ρ hρ R w hS => by
  have h1 : args.map ρ = vs.toArray := by apply Array.ext'; simpa using map_see hρ _ _ ha
  have h2 := hρ _ _ hf
  have h3 : (#[.iface T rv] ++ vs.toArray : Array Value)[0]? = some (.iface T rv) := by simp
  have h4 : (#[Value.iface T rv] ++ vs.toArray).extract 1 (#[Value.iface T rv] ++ vs.toArray).size = vs.toArray := by
    apply Array.ext'; simp
  have h5 : #[r] ++ vs.toArray = (r :: vs).toArray := by simp
  simp only [execOp, resolve, h1, h2, invoke, Sem.run_bind, Sem.run_pure, Result.andThen_ok, h3, callMethod, h4, run_program, hm, run_callFunc hc, h5]
  exact (hs R w hS).mono fun ee w' ⟨x, he, hp, hS', hv⟩ => ⟨val x, he, x, rfl, hp, hS', hv⟩

/-! ### 2. Slices -/
variable {α : Type} {R : Rel α} {E : TypeId} {a : Option Addr} {n c k : Nat} {xs ys : List α} {T : TypeId}
/-- Where a slice begins. -/
def bk (a : Option Addr) : Nat := match a with | some x => x.block | none => 0
def of (a : Option Addr) : Nat := match a with | some x => x.off | none => 0
/-- A slice type, its element type, and that one's size in cells. -/
def slice1 (P : Program) (T E n : Nat) : Prop := P.underlying T = some (.slice E) ∧ (P.info? E).map (·.size) = some n
theorem slice1.size {E n : Nat} (h : slice1 P T E n) (w : World) : (sizeOf E).run P w = .ok n w := size1.run (show size1 P E n from h.2) w
theorem op_len {ts : Array TypeId} {T : TypeId} (hc : ts = #[T]) (ht : ∃ E, P.underlying T = some (.slice E)) (hx : see e x = some (.slice a n c)) : OpV P e ⟨dst, .call ⟨.builtin .len, #[x], ts⟩, t, pos, aft, g⟩ (.int .i64 n) := fun ρ hρ w => by
  obtain ⟨E, ht⟩ := ht
  subst hc
  simp [execOp, resolve, invoke, builtin, Builtin.len_, run_underlying ht, hρ x _ hx, goInt]
theorem op_cap {ts : Array TypeId} {T : TypeId} (hc : ts = #[T]) (ht : ∃ E, P.underlying T = some (.slice E)) (hx : see e x = some (.slice a n c)) : OpV P e ⟨dst, .call ⟨.builtin .cap, #[x], ts⟩, t, pos, aft, g⟩ (.int .i64 c) := fun ρ hρ w => by
  obtain ⟨E, ht⟩ := ht
  subst hc
  simp [execOp, resolve, invoke, builtin, Builtin.cap_, run_underlying ht, hρ x _ hx, goInt]
theorem run_indexAt {E n : Nat} {i : Int} {kk : IntKind} {ad : Addr} {len : Nat} (ht : slice1 P T E n) (hi : 0 ≤ i ∧ i < len) (w : World) : (Instr.indexAt T (.slice (some ad) len c) (.int kk i)).run P w = .ok (.pointer (some (ad.add (i.toNat * n)))) w := by
  simp [Instr.indexAt, asIntOf, run_underlying ht.1, hi.1, hi.2, ht.size]
theorem add_bk {g o n : Nat} : ((⟨g, o, none⟩ : Addr).add n) = ⟨bk (some ⟨g, o, none⟩), of (some ⟨g, o, none⟩) + n, none⟩ := add_plain _ _ _
theorem op_index_rd {E n : Nat} {i : Int} {kk : IntKind} (ht : slice1 P T E n) (hx : see e x = some (.slice a xs.length c)) (hy : see e y = some (.int kk i)) (hi : 0 ≤ i ∧ i < xs.length) : OpD P e ⟨dst, .indexAddr T x y, t, pos, aft, g⟩ [rd R a c xs] (.pointer (some ⟨bk a, of a + i.toNat * n, none⟩)) [] := fun ρ hρ => op_of_run fun A w hs => by
  have hne : xs ≠ [] := fun h => by subst h; simp at hi; omega
  obtain ⟨g', o, l, E', fr, cs, rfl, _, _, _⟩ := (Sat.rd hs).2 hne
  refine ⟨(), w, ?_, trivial, hs.tail, Env.refl w⟩
  simp only [execOp, hρ x _ hx, hρ y _ hy, Sem.run_bind, run_indexAt ht hi, Result.andThen_ok, Sem.run_pure, add_bk]
theorem op_index_own {E n : Nat} {i : Int} {kk : IntKind} (ht : slice1 P T E n) (hx : see e x = some (.slice a xs.length c)) (hy : see e y = some (.int kk i)) (hi : 0 ≤ i ∧ i < xs.length) : OpD P e ⟨dst, .indexAddr T x y, t, pos, aft, g⟩ [own R E a c xs] (.pointer (some ⟨bk a, of a + i.toNat * n, none⟩)) [own R E a c xs] := fun ρ hρ => op_of_run fun A w hs => by
  have hne : xs ≠ [] := fun h => by subst h; simp at hi; omega
  refine ⟨(), w, ?_, trivial, hs, Env.refl w⟩
  rcases Sat.own hs with ⟨_, h, _⟩ | ⟨g', d, fr, cs, rfl, _⟩
  · exact absurd h hne
  · simp only [execOp, hρ x _ hx, hρ y _ hy, Sem.run_bind, run_indexAt ht hi, Result.andThen_ok, Sem.run_pure, add_bk]
/-- The cells of an element, and where they are. -/
theorem Sat.drop2' {A B : Asrt} {l : List Asrt} {w : World} (h : Sat (A :: B :: l) w) : Sat (A :: l) w := h.ent (star_mono (Ent.refl A) (star_right B (all l)))
theorem Sat.rd_at {j : Nat} {q : α} {L : List Asrt} {w : World} (hs : Sat (Sb.rd R a c xs :: L) w) (hq : xs[j]? = some q) :
    ∃ l E fr cs, w.heap[bk a]? = some (.cells ⟨l⟩ E fr) ∧ of a + j * R.n + R.n ≤ l.length ∧ (l.drop (of a + j * R.n)).take R.n = cs ∧ Sat (hold R q cs :: Sb.rd R a c xs :: L) w := by
  have hne : xs ≠ [] := fun h => by subst h; simp at hq
  have hj : j < xs.length := by
    rcases Nat.lt_or_ge j xs.length with h | h
    · exact h
    · rw [List.getElem?_eq_none h] at hq; cases hq
  obtain ⟨hh, f, d, hx, hy, h1, h2, p1, p2, p3, ⟨hm, hr⟩, r⟩ := hs
  obtain ⟨g', o, l, E, fr, cs, rfl, hg, hrows, htake⟩ := hr hne
  have hlen := rows_length hrows
  have hlo : o + cs.length ≤ l.length := by
    have := congrArg List.length htake
    simp at this
    rw [hlen] at this
    have h0 : 0 < xs.length * R.n := Nat.mul_pos (by omega) R.pos
    omega
  have hjn : j * R.n + R.n ≤ xs.length * R.n := by rw [← Nat.succ_mul]; exact Nat.mul_le_mul_right _ hj
  refine ⟨l, E, fr, _, hy _ _ hg, by simp only [of]; omega, rfl, hh, f, d, hx, hy, PHeap.emp, hh, PHeap.emp_le _, PHeap.le_refl _, PHeap.emp_disj _, ?_, h1, h2, p1, p2, p3, ⟨hm, hr⟩, r⟩
  have := rows_at hrows hq
  rw [← htake, List.drop_take, List.take_take, List.drop_drop, Nat.min_eq_left (by omega)] at this
  exact this
theorem take_lay (d v : List Value) (p n : Nat) (h1 : p + v.length ≤ n) (h2 : n ≤ d.length) : (lay d p v).take n = lay (d.take n) p v := by
  unfold lay
  rw [List.take_append, List.take_append, List.length_append, List.length_take, Nat.min_eq_left (show p ≤ d.length by omega), List.take_take, List.drop_take, List.take_take, Nat.min_eq_right (show p ≤ n by omega),
    Nat.min_eq_left (show p ≤ n by omega), List.take_of_length_le (show v.length ≤ n - p by omega)]
theorem Sat.own_at {j : Nat} {q : α} {L : List Asrt} {w : World} (hs : Sat (Sb.own R E a c xs :: L) w) (hq : xs[j]? = some q) :
    ∃ l fr cs g, a = some ⟨g, 0, none⟩ ∧ w.heap[g]? = some (.cells ⟨l⟩ E fr) ∧ clear fr 0 l.length ∧ j * R.n + R.n ≤ l.length ∧ (l.drop (j * R.n)).take R.n = cs ∧ Sat (hold R q cs :: Sb.own R E a c xs :: L) w ∧
      (∀ cs' q', cs'.length = R.n → Sat (Sb.hold R q' cs' :: Sb.own R E a c xs :: L) w → (∀ v ∈ cs', v.oneCell' = true) → Sat (Sb.own R E a c (xs.set j q') :: L) (w.setRow g ⟨lay l (j * R.n) cs'⟩)) := by
  have hne : xs ≠ [] := fun h => by subst h; simp at hq
  have hj : j < xs.length := by
    rcases Nat.lt_or_ge j xs.length with h | h
    · exact h
    · rw [List.getElem?_eq_none h] at hq; cases hq
  have hjn : j * R.n + R.n ≤ xs.length * R.n := by rw [← Nat.succ_mul]; exact Nat.mul_le_mul_right _ hj
  rcases Sat.own hs with ⟨_, h, _⟩ | ⟨g, d, fr, cs, rfl, h3, h4, h5, h6, h8, hlen, h1, hs'⟩
  · exact absurd h hne
  have hcd : cs.length ≤ d.length := by have := congrArg List.length h8; simp at this; omega
  refine ⟨d, fr, _, g, rfl, hs'.pts, h3, by omega, rfl, ?_, ?_⟩
  · obtain ⟨hh, f, dd, hx, hy, k1, k2, p1, p2, p3, hpt, ⟨k3, k4, p4, p5, p6, hr, r⟩⟩ := hs'
    have := rows_at hr hq
    rw [← h8, List.drop_take, List.take_take, Nat.min_eq_left (by omega)] at this
    exact ⟨hh, f, dd, hx, hy, PHeap.emp, hh, PHeap.emp_le _, PHeap.le_refl _, PHeap.emp_disj _, this, k1, k4, p1, PHeap.le_trans p5 p2, PHeap.disj_le p3 (PHeap.le_refl _) p5, .inr ⟨g, d, fr, cs, rfl, hpt, h3, h4, h5, h6, hr, h8⟩, r⟩
  · intro cs' q' hl' hhold h1'
    have hs2 : Sat (Sb.hold R q' cs' :: Sb.pts g (.cells ⟨d⟩ E fr) :: Sb.rof (fun f => rows R f xs cs) (fun hf h => rows_mono hf h) :: L) w := by
      obtain ⟨hh, f, dd, hx, hy, k1, k2, p1, p2, p3, hq', ⟨k3, k4, p4, p5, p6, hown, r⟩⟩ := hhold
      rcases hown with ⟨_, h⟩ | ⟨g', d', fr', cs2, e1, e2, e3, e4, e5, e6, e7, e8⟩
      · exact absurd h hne
      · have eg : g = g' := by injection e1 with e1; injection e1
        subst eg
        have hw : w.heap[g]? = some (.cells ⟨d'⟩ E fr') := hx _ _ (p2 _ _ (p4 _ _ e2))
        have hw2 := hs'.pts
        rw [hw2] at hw
        injection hw with hw
        injection hw with hw _ hw3
        injection hw with hw
        subst hw; subst hw3
        have ecs : cs2 = cs := by
          rw [← e8, ← h8, rows_length e7, hlen]
        subst ecs
        exact ⟨hh, f, dd, hx, hy, k1, k2, p1, p2, p3, hq', k3, k4, p4, p5, p6, e2, PHeap.emp, k4, PHeap.emp_le _, PHeap.le_refl _, PHeap.emp_disj _, e7, r⟩
    have hs3 := hs2.swap.setRow (l' := lay d (j * R.n) cs')
    refine hs3.ent ?_
    rintro hh f ⟨k1, k2, p1, p2, p3, hpt, ⟨k3, k4, p4, p5, p6, hho, ⟨k5, k6, p7, p8, p9, hr, r⟩⟩⟩
    have hlay : (lay d (j * R.n) cs').length = d.length := lay_length _ _ _ (by omega)
    have hrs := rows_set hr hj hho
    refine ⟨k1, k6, p1, PHeap.le_trans p8 (PHeap.le_trans p5 p2), PHeap.disj_le p3 (PHeap.le_refl _) (PHeap.le_trans p8 p5), .inr ⟨g, _, fr, _, rfl, hpt, by rw [hlay]; exact h3, by simpa using h4, h5, by rw [hlay]; exact h6, hrs, ?_⟩, r⟩
    have hl2 : (lay cs (j * R.n) cs').length = cs.length := lay_length _ _ _ (by omega)
    rw [hl2]
    rw [take_lay _ _ _ _ (by omega) hcd, h8]
/-! ### 3. Elements read -/
section
variable {j : Nat} {q q' : α} {cs : List Value}
theorem op_load_rd (h1 : one1 P T) (hx : see e x = some (.pointer (some ⟨bk a, of a + j * R.n + k, none⟩))) (hq : xs[j]? = some q) (hd : ∀ f c, R.rel f q c → c[k]? = some v) : OpD P e ⟨dst, .load T x, t, pos, aft, g⟩ [rd R a c xs] v [] := fun ρ hρ => op_of_run fun A w hs => by
  obtain ⟨l, E, fr, d, hw, hl, hcs, hs'⟩ := Sat.rd_at hs hq
  have hv := hd _ _ (Sat.rof hs')
  have hk : k < R.n := by
    have := R.len (Sat.rof hs')
    rcases Nat.lt_or_ge k d.length with h | h
    · omega
    · rw [List.getElem?_eq_none h] at hv; cases hv
  have hv' : l[of a + j * R.n + k]? = some v := by
    rw [← hcs, List.getElem?_take, if_pos hk, List.getElem?_drop] at hv; exact hv
  exact ⟨(), w, by simp only [execOp, hρ x _ hx, Sem.run_bind, run_loadAt_one hw h1 hv', Result.andThen_ok, Sem.run_pure], trivial, hs.tail, Env.refl w⟩
theorem op_load_rd0 (h1 : one1 P T) (hx : see e x = some (.pointer (some ⟨bk a, of a + j * R.n, none⟩))) (hq : xs[j]? = some q) (hd : ∀ f c, R.rel f q c → c[0]? = some v) : OpD P e ⟨dst, .load T x, t, pos, aft, g⟩ [rd R a c xs] v [] :=
  op_load_rd (k := 0) h1 hx hq hd
theorem op_load_rd_agg (h1 : agg1 P T n) (hx : see e x = some (.pointer (some ⟨bk a, of a + j * R.n + k, none⟩))) (hq : xs[j]? = some q) (hk : k + n ≤ R.n) (hd : ∀ f c, R.rel f q c → cut c k n = cs) : OpD P e ⟨dst, .load T x, t, pos, aft, g⟩ [rd R a c xs] (.agg ⟨cs⟩) [] := fun ρ hρ => op_of_run fun A w hs => by
  obtain ⟨l, E, fr, d, hw, hl, hcs, hs'⟩ := Sat.rd_at hs hq
  have hv := hd _ _ (Sat.rof hs')
  have hv' : (l.drop (of a + j * R.n + k)).take n = cs := by
    rw [← hcs] at hv
    unfold cut at hv
    rw [List.drop_take, List.take_take, List.drop_drop, Nat.min_eq_left (by omega)] at hv
    exact hv
  have hr := run_loadAt_agg (P := P) (T := T) (n := n) (o := of a + j * R.n + k) hw h1 (by omega)
  rw [hv'] at hr
  exact ⟨(), w, by simp only [execOp, hρ x _ hx, Sem.run_bind, hr, Result.andThen_ok, Sem.run_pure], trivial, hs.tail, Env.refl w⟩
theorem op_load_rd_agg0 (h1 : agg1 P T n) (hx : see e x = some (.pointer (some ⟨bk a, of a + j * R.n, none⟩))) (hq : xs[j]? = some q) (hk : n ≤ R.n) (hd : ∀ f c, R.rel f q c → cut c 0 n = cs) : OpD P e ⟨dst, .load T x, t, pos, aft, g⟩ [rd R a c xs] (.agg ⟨cs⟩) [] :=
  op_load_rd_agg (k := 0) h1 hx hq (by omega) hd
/-- A whole element, whatever its cells: they are told behind it. -/
theorem op_load_rd_all (h1 : agg1 P T n) (hn : n = R.n) (hx : see e x = some (.pointer (some ⟨bk a, of a + j * R.n, none⟩))) (hq : xs[j]? = some q) : OpE P e ⟨dst, .load T x, t, pos, aft, g⟩ [rd R a c xs] (fun cs : List Value => .agg ⟨cs⟩) (fun _ => True) (fun cs => [hold R q cs]) := fun ρ hρ => op_of_run fun A w hs => by
  obtain ⟨l, E, fr, d, hw, hl, hcs, hs'⟩ := Sat.rd_at hs hq
  have hr := run_loadAt_agg (P := P) (T := T) (n := n) (o := of a + j * R.n) hw h1 (by omega)
  rw [hn, hcs] at hr
  exact ⟨d, w, by simp only [execOp, hρ x _ hx, Sem.run_bind, hr, Result.andThen_ok, Sem.run_pure], trivial, hs'.drop2', Env.refl w⟩
theorem op_load_own (h1 : one1 P T) (hx : see e x = some (.pointer (some ⟨bk a, of a + j * R.n + k, none⟩))) (hq : xs[j]? = some q) (hd : ∀ f c, R.rel f q c → c[k]? = some v) : OpD P e ⟨dst, .load T x, t, pos, aft, g⟩ [own R E a c xs] v [own R E a c xs] := fun ρ hρ => op_of_run fun A w hs => by
  obtain ⟨l, fr, d, g', rfl, hw, _, hl, hcs, hs', _⟩ := Sat.own_at hs hq
  have hv := hd _ _ (Sat.rof hs')
  have hk : k < R.n := by
    have := R.len (Sat.rof hs')
    rcases Nat.lt_or_ge k d.length with h | h
    · omega
    · rw [List.getElem?_eq_none h] at hv; cases hv
  have hv' : l[of (some ⟨g', 0, none⟩) + j * R.n + k]? = some v := by
    rw [← hcs, List.getElem?_take, if_pos hk, List.getElem?_drop] at hv; simpa [of] using hv
  exact ⟨(), w, by simp only [execOp, hρ x _ hx, Sem.run_bind, run_loadAt_one (b := bk (some ⟨g', 0, none⟩)) hw h1 hv', Result.andThen_ok, Sem.run_pure], trivial, hs, Env.refl w⟩
theorem op_load_own0 (h1 : one1 P T) (hx : see e x = some (.pointer (some ⟨bk a, of a + j * R.n, none⟩))) (hq : xs[j]? = some q) (hd : ∀ f c, R.rel f q c → c[0]? = some v) : OpD P e ⟨dst, .load T x, t, pos, aft, g⟩ [own R E a c xs] v [own R E a c xs] :=
  op_load_own (k := 0) h1 hx hq hd
theorem op_load_own_all (h1 : agg1 P T n) (hn : n = R.n) (hx : see e x = some (.pointer (some ⟨bk a, of a + j * R.n, none⟩))) (hq : xs[j]? = some q) : OpE P e ⟨dst, .load T x, t, pos, aft, g⟩ [own R E a c xs] (fun cs : List Value => .agg ⟨cs⟩) (fun _ => True) (fun cs => [hold R q cs, own R E a c xs]) := fun ρ hρ => op_of_run fun A w hs => by
  obtain ⟨l, fr, d, g', rfl, hw, _, hl, hcs, hs', _⟩ := Sat.own_at hs hq
  have hr := run_loadAt_agg (P := P) (T := T) (n := n) (b := bk (some ⟨g', 0, none⟩)) (o := of (some ⟨g', 0, none⟩) + j * R.n) hw h1 (by simp [of]; omega)
  have hcs' : (l.drop (of (some ⟨g', 0, none⟩) + j * R.n)).take n = d := by rw [hn]; simpa [of] using hcs
  rw [hcs'] at hr
  exact ⟨d, w, by simp only [execOp, hρ x _ hx, Sem.run_bind, hr, Result.andThen_ok, Sem.run_pure], trivial, hs', Env.refl w⟩

/-! ### 4. Elements written -/
theorem op_store_own_all (h1 : size1 P T R.n) (hx : see e x = some (.pointer (some ⟨bk a, of a + j * R.n, none⟩))) (hy : see e y = some v) (hc : v.cells = ⟨cs⟩) (hj : j < xs.length) :
    OpD P e ⟨dst, .store T x y, t, pos, aft, g⟩ [hold R q' cs, own R E a c xs] undef [own R E a c (xs.set j q')] := fun ρ hρ A w hs => by
  obtain ⟨l, fr, d, g', rfl, hw, hcl, hl, hcs, hs', hk⟩ := Sat.own_at hs.tail (List.getElem?_eq_getElem hj)
  have hrel := Sat.rof hs
  have hlen := R.len hrel
  have hst := run_storeAt (P := P) (T := T) (b := bk (some ⟨g', 0, none⟩)) (o := of (some ⟨g', 0, none⟩) + j * R.n) (v := v) (cs := cs) hw (by rw [hlen]; exact h1.run w) hc (hcl.mono (by omega) (by simp [of]; omega)) (by simp [of]; omega) (R.one hrel)
  simp only [execOp, hρ x _ hx, hρ y _ hy, Sem.run_bind, hst, Result.andThen_ok, Sem.run_pure]
  refine ⟨(), rfl, trivial, ?_, ⟨rfl, rfl, rfl⟩⟩
  have := hk cs q' hlen hs (R.one hrel)
  simpa [of, bk] using this
end
/-! ### 5. Cutting -/
/-- Cells that are frozen for good. -/
def rdcP (b o : Nat) (cs : List Value) (f : PHeap) : Prop := ∃ l E fr, f b = some (.cells ⟨l⟩ E fr) ∧ (l.drop o).take cs.length = cs
theorem rdcP_mono {b o : Nat} {cs : List Value} {f f' : PHeap} (hf : f.le f') (h : rdcP b o cs f) : rdcP b o cs f' := let ⟨l, E, fr, h1, h2⟩ := h; ⟨l, E, fr, hf _ _ h1, h2⟩
def rdc (b o : Nat) (cs : List Value) : Asrt := rof (rdcP b o cs) rdcP_mono
instance (b o : Nat) (cs : List Value) : Pers (rdc b o cs) := inferInstanceAs (Pers (rof _ _))
theorem rdc_at {o : Nat} {cs l : List Value} (h : (l.drop o).take cs.length = cs) {k : Nat} {v : Value} (hv : cs[k]? = some v) : l[o + k]? = some v := by
  have hk : k < cs.length := (List.getElem?_eq_some_iff.1 hv).1
  rw [← h, List.getElem?_take, if_pos hk, List.getElem?_drop] at hv
  exact hv
theorem op_load_rdc {b o : Nat} {cs : List Value} (h1 : one1 P T) (hx : see e x = some (.pointer (some ⟨b, o + k, none⟩))) (hv : cs[k]? = some v) : OpD P e ⟨dst, .load T x, t, pos, aft, g⟩ [rdc b o cs] v [] := fun ρ hρ => op_of_run fun A w hs => by
  obtain ⟨l, E, fr, hw, hl⟩ := Sat.rof hs
  have hw' : w.heap[b]? = some (.cells ⟨l⟩ E fr) := hw
  have hr := run_loadAt_one (P := P) (T := T) (o := o + k) hw' h1 (rdc_at hl hv)
  exact ⟨(), w, by simp only [execOp, hρ x _ hx, Sem.run_bind, hr, Result.andThen_ok, Sem.run_pure], trivial, hs.tail, Env.refl w⟩
theorem op_load_rdc0 {b o : Nat} {cs : List Value} (h1 : one1 P T) (hx : see e x = some (.pointer (some ⟨b, o, none⟩))) (hv : cs[0]? = some v) : OpD P e ⟨dst, .load T x, t, pos, aft, g⟩ [rdc b o cs] v [] := op_load_rdc (k := 0) h1 hx hv
theorem op_load_rdc_agg {b o : Nat} {cs ds : List Value} (h1 : agg1 P T n) (hx : see e x = some (.pointer (some ⟨b, o + k, none⟩))) (hk : Nat.ble (k + n) cs.length = true) (hn : 0 < n) (hv : cut cs k n = ds) : OpD P e ⟨dst, .load T x, t, pos, aft, g⟩ [rdc b o cs] (.agg ⟨ds⟩) [] := fun ρ hρ => op_of_run fun A w hs => by
  obtain ⟨l, E, fr, hw, hl⟩ := Sat.rof hs
  have hk' := Nat.le_of_ble_eq_true hk
  have hlen : o + cs.length ≤ l.length := by
    have := congrArg List.length hl
    simp at this
    omega
  have hv' : (l.drop (o + k)).take n = ds := by
    rw [← hv]
    unfold cut
    have := congrArg (fun z => (z.drop k).take n) hl
    simp only [List.drop_take, List.take_take, List.drop_drop, Nat.min_eq_left (show n ≤ cs.length - k by omega)] at this
    exact this
  have hr := run_loadAt_agg (P := P) (T := T) (n := n) (o := o + k) (show w.heap[b]? = _ from hw) h1 (by omega)
  rw [hv'] at hr
  exact ⟨(), w, by simp only [execOp, hρ x _ hx, Sem.run_bind, hr, Result.andThen_ok, Sem.run_pure], trivial, hs.tail, Env.refl w⟩
theorem op_load_rdc_agg0 {b o : Nat} {cs ds : List Value} (h1 : agg1 P T n) (hx : see e x = some (.pointer (some ⟨b, o, none⟩))) (hk : Nat.ble n cs.length = true) (hn : 0 < n) (hv : cut cs 0 n = ds) : OpD P e ⟨dst, .load T x, t, pos, aft, g⟩ [rdc b o cs] (.agg ⟨ds⟩) [] := op_load_rdc_agg (k := 0) h1 hx (by rw [Nat.zero_add]; exact hk) hn hv
/-- An element's cells, out of a row that is read. -/
theorem vc_rd_elem {j : Nat} {q : α} {N : Nat} {L : List Asrt} {w0 : World} {K : Act → World → Prop} (hq : xs[j]? = some q) (h : ∀ cs, cs.length = R.n → VC N e (rdc (bk a) (of a + j * R.n) cs :: hold R q cs :: Sb.rd R a c xs :: L) w0 K) : VC N e (Sb.rd R a c xs :: L) w0 K := by
  intro A w hf hs he
  have hne : xs ≠ [] := fun h => by subst h; simp at hq
  have hj : j < xs.length := (List.getElem?_eq_some_iff.1 hq).1
  obtain ⟨hh, f, d, hx, hy, h1, h2, p1, p2, p3, ⟨hm, hr⟩, r⟩ := hs
  obtain ⟨g', o, l, E, fr, cs, rfl, hg, hrows, htake⟩ := hr hne
  have hrel := rows_at hrows hq
  have hlen := R.len hrel
  refine h _ hlen A w hf ⟨hh, f, d, hx, hy, PHeap.emp, hh, PHeap.emp_le _, PHeap.le_refl _, PHeap.emp_disj _, ⟨l, E, fr, hg, ?_⟩, PHeap.emp, hh, PHeap.emp_le _, PHeap.le_refl _, PHeap.emp_disj _, hrel, h1, h2, p1, p2, p3, ⟨hm, hr⟩, r⟩ he
  rw [hlen]
  show (l.drop (o + j * R.n)).take R.n = _
  have hjn : j * R.n + R.n ≤ cs.length := by rw [rows_length hrows, ← Nat.succ_mul]; exact Nat.mul_le_mul_right _ hj
  have := congrArg (fun z => (z.drop (j * R.n)).take R.n) htake
  simp only [List.drop_take, List.take_take, List.drop_drop, Nat.min_eq_left (show R.n ≤ cs.length - j * R.n by omega)] at this
  exact this
theorem rdP_take {f : PHeap} {j : Nat} (h : rdP R a c xs f) : rdP R a c (xs.take j) f := by
  refine ⟨⟨by have := h.1.1; simp; omega, by have := h.1.2; simp; omega⟩, fun hne => ?_⟩
  obtain ⟨g', o, l, E, fr, cs, h1, h2, h3, h4⟩ := h.2 (fun e => hne (by rw [e]; simp))
  refine ⟨g', o, l, E, fr, cs.take (j * R.n), h1, h2, rows_take j h3, ?_⟩
  rw [← h4, List.take_take, List.length_take]
  simp only [List.length_take, List.length_drop]
  congr 1
  have := congrArg List.length h4
  simp at this
  omega
theorem rdP_drop {f : PHeap} {j c' : Nat} (hc : (xs.drop j).length ≤ c') (h : rdP R a c xs f) {ad : Option Addr} (had : ∀ b o, a = some ⟨b, o, none⟩ → j < xs.length → ad = some ⟨b, o + j * R.n, none⟩) : rdP R ad c' (xs.drop j) f := by
  refine ⟨⟨hc, by have := h.1.2; simp; omega⟩, fun hne => ?_⟩
  have hj : j < xs.length := by
    rcases Nat.lt_or_ge j xs.length with h' | h'
    · exact h'
    · exact absurd (List.drop_of_length_le h') hne
  obtain ⟨g', o, l, E, fr, cs, h1, h2, h3, h4⟩ := h.2 (fun e => hne (by rw [e]; simp))
  refine ⟨g', o + j * R.n, l, E, fr, cs.drop (j * R.n), had _ _ h1 hj, h2, rows_drop j h3, ?_⟩
  conv => rhs; rw [← h4, List.drop_take, List.drop_drop]
  rw [List.length_drop]
theorem take_rd_take {L : List Asrt} {j : Nat} : Take (rd R a c (xs.take j)) (rd R a c xs :: L) (rd R a c xs :: L) := fun h f p => by
  obtain ⟨h1, h2, p1, p2, p3, q, r⟩ := p
  exact ⟨PHeap.emp, h, PHeap.emp_le _, PHeap.le_refl _, PHeap.emp_disj _, rdP_take q, h1, h2, p1, p2, p3, q, r⟩
section
variable {i j : Int} {kk kk' : IntKind} {E n : Nat}
theorem op_slice_hi (ht : slice1 P T E R.n) (hx : see e x = some (.slice a xs.length c)) (hy : see e y = some (.int kk j)) (hj : 0 ≤ j ∧ j ≤ xs.length) : OpD P e ⟨dst, .slice T x none (some y) none, t, pos, aft, g⟩ [rd R a c xs] (.slice a (xs.take j.toNat).length c) [rd R a c (xs.take j.toNat)] := fun ρ hρ => op_of_run fun A w hs => by
  have hr := Sat.rd hs
  have h1 : j ≤ c := by have := hr.1.1; omega
  have hl : (xs.take j.toNat).length = j.toNat := by simp; omega
  refine ⟨(), w, ?_, trivial, (Sat.drop2' (hs.ent (m := _ :: _ :: [A]) take_rd_take)), Env.refl w⟩
  simp only [execOp, Instr.sliceAt, Instr.slice, Instr.sliceBounds, Instr.sliceBound, asIntOf, hρ x _ hx, hρ y _ hy, run_underlying ht.1, ht.size, Option.map_some, Option.map_none, Sem.run_bind, Sem.run_pure, Result.andThen_ok, hj.1, h1, and_self, if_true, hl, Nat.zero_mul, Nat.sub_zero]
  congr 3
  cases a <;> simp
  intro _; simp [Addr.add]
theorem op_slice_lo (ht : slice1 P T E R.n) (hx : see e x = some (.slice a xs.length c)) (hy : see e y = some (.int kk i)) (hj : 0 ≤ i ∧ i ≤ xs.length) : OpE P e ⟨dst, .slice T x (some y) none none, t, pos, aft, g⟩ [rd R a c xs] (fun p : Option Addr × Nat => .slice p.1 (xs.drop i.toNat).length p.2) (fun _ => True) (fun p => [rd R p.1 p.2 (xs.drop i.toNat)]) := fun ρ hρ => op_of_run fun A w hs => by
  have hr := Sat.rd hs
  have hl : (xs.drop i.toNat).length = xs.length - i.toNat := by simp
  refine ⟨(if c = i.toNat then a else a.map (·.add (i.toNat * R.n)), c - i.toNat), w, ?_, trivial, ?_, Env.refl w⟩
  · simp only [execOp, Instr.sliceAt, Instr.slice, Instr.sliceBounds, Instr.sliceBound, asIntOf, hρ x _ hx, hρ y _ hy, run_underlying ht.1, ht.size, Option.map_some, Option.map_none, Sem.run_bind, Sem.run_pure, Result.andThen_ok, hj.1, hj.2, and_self, if_true, hl, Option.isSome_none, Bool.false_eq_true, if_false]
  · refine hs.ent fun h f p => ?_
    obtain ⟨h1, h2, p1, p2, p3, q, r⟩ := p
    refine ⟨PHeap.emp, h2, PHeap.emp_le _, p2, PHeap.emp_disj _, rdP_drop (by have := hr.1.1; simp; omega) q (fun b o he hlt => ?_), r⟩
    have hc : c ≠ i.toNat := by have := hr.1.1; omega
    simp only [hc, if_false, he, Option.map_some, add_plain]
theorem op_slice_mid (ht : slice1 P T E R.n) (hx : see e x = some (.slice a xs.length c)) (hy : see e y = some (.int kk i)) (hz : see e z = some (.int kk' j)) (hj : 0 ≤ i ∧ i ≤ j ∧ j ≤ xs.length) : OpE P e ⟨dst, .slice T x (some y) (some z) none, t, pos, aft, g⟩ [rd R a c xs] (fun p : Option Addr × Nat => .slice p.1 ((xs.take j.toNat).drop i.toNat).length p.2) (fun _ => True) (fun p => [rd R p.1 p.2 ((xs.take j.toNat).drop i.toNat)]) := fun ρ hρ => op_of_run fun A w hs => by
  have hr := Sat.rd hs
  have hl : ((xs.take j.toNat).drop i.toNat).length = j.toNat - i.toNat := by simp; omega
  have h1 : j ≤ c := by have := hr.1.1; omega
  have h2 : i ≤ (j.toNat : Int) := by omega
  refine ⟨(if c = i.toNat then a else a.map (·.add (i.toNat * R.n)), c - i.toNat), w, ?_, trivial, ?_, Env.refl w⟩
  · simp only [execOp, Instr.sliceAt, Instr.slice, Instr.sliceBounds, Instr.sliceBound, asIntOf, hρ x _ hx, hρ y _ hy, hρ z _ hz, run_underlying ht.1, ht.size, Option.map_some, Option.map_none, Sem.run_bind, Sem.run_pure, Result.andThen_ok, hj.1, h1, h2, show 0 ≤ j by omega, and_self, if_true, hl, Option.isSome_none, Bool.false_eq_true, if_false]
  · refine hs.ent fun h f p => ?_
    obtain ⟨h1', h2', p1, p2, p3, q, r⟩ := p
    refine ⟨PHeap.emp, h2', PHeap.emp_le _, p2, PHeap.emp_disj _, rdP_drop (a := a) (c := c) (by have := hr.1.1; simp; omega) (rdP_take q) (fun b o he hlt => ?_), r⟩
    have hc : c ≠ i.toNat := by have := hr.1.1; simp at hlt; omega
    simp only [hc, if_false, he, Option.map_some, add_plain]
/-- s[:0:0]. -/
theorem op_slice_none (ht : slice1 P T E n) (hx : see e x = some (.slice a k c)) (hy : see e y = some (.int kk 0)) (hz : see e z = some (.int kk' 0)) : OpV P e ⟨dst, .slice T x none (some y) (some z), t, pos, aft, g⟩ (.slice a 0 0) := fun ρ hρ w => by
  simp [execOp, Instr.sliceAt, Instr.slice, Instr.sliceBounds, Instr.sliceBound, asIntOf, hρ x _ hx, hρ y _ hy, hρ z _ hz, run_underlying ht.1, ht.size]
/-- s[:j] of one's own: what is behind it is forgotten. -/
theorem op_slice_own_hi (ht : slice1 P T E R.n) (hx : see e x = some (.slice a xs.length c)) (hy : see e y = some (.int kk j)) (hj : 0 ≤ j ∧ j ≤ xs.length) : OpD P e ⟨dst, .slice T x none (some y) none, t, pos, aft, g⟩ [own R E a c xs] (.slice a (xs.take j.toNat).length c) [own R E a c (xs.take j.toNat)] := fun ρ hρ => op_of_run fun A w hs => by
  have hl : (xs.take j.toNat).length = j.toNat := by simp; omega
  have hxc : xs.length ≤ c := by
    rcases Sat.own hs with ⟨_, h, _⟩ | ⟨_, _, _, _, _, _, h, _⟩
    · subst h; simp
    · exact h
  have h1 : j ≤ c := by omega
  refine ⟨(), w, ?_, trivial, ?_, Env.refl w⟩
  · simp only [execOp, Instr.sliceAt, Instr.slice, Instr.sliceBounds, Instr.sliceBound, asIntOf, hρ x _ hx, hρ y _ hy, run_underlying ht.1, ht.size, Option.map_some, Option.map_none, Sem.run_bind, Sem.run_pure, Result.andThen_ok, hj.1, h1, and_self, if_true, hl, Nat.zero_mul, Nat.sub_zero]
    congr 3
    cases a <;> simp
    intro _; simp [Addr.add]
  · refine hs.ent (star_mono (fun h f p => ?_) (Ent.refl _))
    rcases p with ⟨p1, p2⟩ | ⟨g', d, fr, cs, h1, h2, h3, h4, h5, h6, h7, h8⟩
    · exact .inl ⟨p1, by rw [p2]; simp⟩
    · refine .inr ⟨g', d, fr, cs.take (j.toNat * R.n), h1, h2, h3, by simp; omega, h5, h6, rows_take _ h7, ?_⟩
      conv => rhs; rw [← h8, List.take_take]
      rw [List.length_take]
end
end
end Go.Sb
