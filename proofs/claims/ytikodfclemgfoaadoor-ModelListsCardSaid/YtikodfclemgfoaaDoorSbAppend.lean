/- append, make, texts to bytes and back. -/
import Derived.Test.YtikodfclemgfoaaDoorSbSlice
import Derived.Lib.AppendStr
set_option linter.all false
set_option linter.unusedVariables false
set_option linter.unusedSimpArgs false
namespace Go.Sb
open Go.RowKit Go.Lib

/-! ### 1. append, at the machine -/
/-- What is appended: m elements, these cells, however the world stands that has this heap. -/
structure Apps (P : Program) (tx : TypeId) (x : Value) (size m : Nat) (news : List Value) (w : World) : Prop where
  ty : (∃ d, P.underlying tx = some (.slice d)) ∨ P.underlying tx = some .string
  lenOf : ∀ w', (Builtin.lenOf x).run P w' = .ok m w'
  cells : ∀ w', w'.heap = w.heap → (Builtin.firstCells size m x).run P w' = .ok news.toArray w'
  len : news.length = m * size
section
variable {P : Program} {t tx E : TypeId} {ty : TypeId} {i : TypeInfo} {zv : Value} {w : World} {x : Value} {m : Nat} {news : List Value}
theorem run_append_empty (ht : P.underlying t = some (.slice E)) (hi : P.info? E = some i) (hx : Apps P tx x i.size 0 [] w) (a : Option Addr) : (Builtin.append_ #[t, tx] ty #[.slice a 0 0, x]).run P w = .ok (.slice a 0 0) w := by
  have hc := hx.cells w rfl
  rcases hx.ty with ⟨d, h1⟩ | h1 <;> cases a <;>
    simp [Builtin.append_, run_underlying ht, run_underlying h1, sizeOf, typeInfo, hi, hx.lenOf, hc, storeCells]
theorem run_append_in (ht : P.underlying t = some (.slice E)) (hi : P.info? E = some i) (hx : Apps P tx x i.size m news w) {g n c : Nat} {l : List Value} {fr : Nat × Nat} (hg : w.heap[g]? = some (.cells ⟨l⟩ E fr)) (hc : clear fr 0 l.length) (h1 : ∀ v ∈ news, v.oneCell' = true)
    (hroom : n + m ≤ c) (hl : l.length = c * i.size) : (Builtin.append_ #[t, tx] ty #[.slice (some ⟨g, 0, none⟩) n c, x]).run P w = .ok (.slice (some ⟨g, 0, none⟩) (n + m) c) (w.setRow g ⟨lay l (n * i.size) news⟩) := by
  have hcs := hx.cells w rfl
  have hfit : n * i.size + news.length ≤ l.length := by rw [hx.len, hl, ← Nat.add_mul]; exact Nat.mul_le_mul_right _ hroom
  have hst := run_storeCells_blk (P := P) g (n * i.size) E fr news 0 ⟨l⟩ w hg (hc.mono (by omega) (by omega)) (by simpa using hfit) h1
  simp only [Nat.add_zero] at hst
  have hlay : (List.take (n * i.size) l ++ news ++ List.drop (n * i.size + news.length) l) = lay l (n * i.size) news := rfl
  rcases hx.ty with ⟨d, h2⟩ | h2 <;>
    simp [Builtin.append_, run_underlying ht, run_underlying h2, sizeOf, typeInfo, hi, hx.lenOf, hcs, hroom, add_plain, hst, lay]
theorem run_append_new (ht : P.underlying t = some (.slice E)) (hi : P.info? E = some i) (hz : i.zero = some zv) (hzs : zv.cells.size = i.size) (hx : Apps P tx x i.size m news w) {a : Option Addr} {n c : Nat} {olds : List Value}
    (ho : ∀ w', w'.heap = w.heap → (Builtin.firstCells i.size n (.slice a n c)).run P w' = .ok olds.toArray w') (hol : olds.length = n * i.size) (hroom : c < n + m) (hnc : n ≤ c) (hb0 : 0 < i.bytes) (hb : (n + m) * i.bytes ≤ 140737488355328) :
    ∃ cap junk, n + m ≤ cap ∧ cap ≤ maxLen ∧ (olds ++ news ++ junk).length = cap * i.size ∧ (Builtin.append_ #[t, tx] ty #[.slice a n c, x]).run P w = .ok (.slice (some ⟨w.heap.size, 0, none⟩) (n + m) cap) (w.drew.alloc (.cells ⟨olds ++ news ++ junk⟩ E)) := by
  have hnm : n + m ≤ 140737488355328 := Nat.le_trans (Nat.le_mul_of_pos_right _ hb0) hb
  have hle : n + m ≤ maxLen := by simp only [maxLen]; omega
  have hcap := grownCap_ge w (n + m) c E
  have hcap2 := grownCap_le_maxLen w (n + m) c E hle
  have hn : ¬ (n + m ≤ c) := by omega
  have h63 : ¬ ((9223372036854775807 : Int) < ((n : Int) + (m : Int))) := by omega
  have hns : Builtin.nextslicecap (n + m) c * i.bytes ≤ 281474976710656 := by
    calc Builtin.nextslicecap (n + m) c * i.bytes ≤ (2 * (n + m)) * i.bytes := Nat.mul_le_mul_right _ (nextslicecap_le (by omega))
      _ = 2 * ((n + m) * i.bytes) := by rw [Nat.mul_assoc]
      _ ≤ _ := by omega
  have h48 : ¬ (281474976710656 < Builtin.nextslicecap (n + m) c * i.bytes) := by omega
  have hcs := hx.cells w.drew rfl
  have hos := ho w.drew rfl
  refine ⟨grownCap w (n + m) c E, (Builtin.zeroCells zv.cells (grownCap w (n + m) c E - (n + m))).toList, hcap, hcap2, ?_, ?_⟩
  · simp only [List.length_append, hol, hx.len, Array.length_toList, size_zeroCells, hzs, ← Nat.add_mul]
    congr 1; omega
  · have hw : ∀ (A : Array Value), (w.drew.alloc (.cells A E)) = { w.drew with heap := w.heap.push (.cells A E) } := fun _ => rfl
    have hcell : (⟨olds ++ news ++ (Builtin.zeroCells zv.cells (grownCap w (n + m) c E - (n + m))).toList⟩ : Array Value) = olds.toArray ++ news.toArray ++ Builtin.zeroCells zv.cells (grownCap w (n + m) c E - (n + m)) := by
      apply Array.ext'; simp
    rw [hcell]
    rcases hx.ty with ⟨d, h2⟩ | h2 <;>
      simp [Builtin.append_, run_underlying ht, run_underlying h2, sizeOf, typeInfo, zeroValue, hi, hz, hx.lenOf, hn, h63, h48, hcs, hos, Question.forced, newRow, grownCap] <;>
      (congr 2; apply Array.ext'; simp)
end

/-! ### 2. append, at rows -/
section
variable {P : Program} {α : Type} {R : Rel α} {t tx E ty : TypeId} {w : World} {x : Value} {news : List Value} {a : Option Addr} {c : Nat} {xs ys : List α} {L : List Asrt} {z : List Value} {bytes : Nat}
theorem rof_and {A : Asrt} {p q r : PHeap → Prop} {hp hq hr} (h : ∀ f, p f → q f → r f) : Ent (all (A :: rof p hp :: rof q hq :: L)) (all (A :: rof r hr :: L)) := by
  rintro hh f ⟨h1, h2, a1, a2, a3, a4, ⟨h3, h4, b1, b2, b3, b4, ⟨h5, h6, c1, c2, c3, c4, d⟩⟩⟩
  exact ⟨h1, h2, a1, a2, a3, a4, PHeap.emp, h2, PHeap.emp_le _, PHeap.le_refl _, PHeap.emp_disj _, h f b4 c4, (all L).mono (PHeap.le_trans c2 b2) (PHeap.le_refl _) d⟩
theorem take_lay_self (d news : List Value) (p : Nat) (h : p + news.length ≤ d.length) : (lay d p news).take (p + news.length) = d.take p ++ news := by
  unfold lay
  rw [List.take_append_of_le_length (by simp; omega), List.take_of_length_le (by simp; omega)]
theorem Sat.append (ht : P.underlying t = some (.slice E)) (hi : info1 P E z R.n bytes) (hb0 : 0 < bytes) (hzl : z.length = R.n) (hx : Apps P tx x R.n ys.length news w)
    (hs : Sat (Sb.own R E a c xs :: Sb.rof (fun f => rows R f ys news) (fun hf h => rows_mono hf h) :: L) w) (hb : (xs.length + ys.length) * bytes ≤ 140737488355328) :
    ∃ (p : Option Addr × Nat) (w' : World), (Builtin.append_ #[t, tx] ty #[.slice a xs.length c, x]).run P w = .ok (.slice p.1 (xs ++ ys).length p.2) w' ∧ Sat (Sb.own R E p.1 p.2 (xs ++ ys) :: L) w' ∧ Env w w' := by
  obtain ⟨i, zv, h1, h2, h3, h4, h5⟩ := hi.parts
  have hrow : rows R (heapOf w) ys news := by
    obtain ⟨hh, f, d, e1, e2, k1, k2, p1, p2, p3, _, ⟨k3, k4, p4, p5, p6, hr, r⟩⟩ := hs
    exact rows_mono e2 hr
  have hone := rows_one hrow
  have hnl := rows_length hrow
  have hzs : zv.cells.size = i.size := by rw [h3, h4, ← hzl]; rfl
  rw [← h4] at hx
  have hlen : (xs ++ ys).length = xs.length + ys.length := by simp
  rw [hlen]
  have fresh : ∀ (olds : List Value) (M : List Asrt), Sat (Sb.rof (fun f => rows R f xs olds) (fun hf h => rows_mono hf h) :: Sb.rof (fun f => rows R f ys news) (fun hf h => rows_mono hf h) :: L) w → c < xs.length + ys.length → xs.length ≤ c → olds.length = xs.length * i.size →
      (∀ w' : World, w'.heap = w.heap → (Builtin.firstCells i.size xs.length (.slice a xs.length c)).run P w' = .ok olds.toArray w') →
      ∃ (p : Option Addr × Nat) (w' : World), (Builtin.append_ #[t, tx] ty #[.slice a xs.length c, x]).run P w = .ok (.slice p.1 (xs.length + ys.length) p.2) w' ∧ Sat (Sb.own R E p.1 p.2 (xs ++ ys) :: L) w' ∧ Env w w' := by
    intro olds M hs2 hroom hnc hol ho
    obtain ⟨cap, junk, g1, g2, g3, g4⟩ := run_append_new (P := P) (ty := ty) ht h1 h2 hzs hx ho hol hroom hnc (by omega) (by rw [h5]; exact hb)
    refine ⟨(some ⟨w.heap.size, 0, none⟩, cap), _, g4, ?_, ⟨rfl, rfl, rfl⟩⟩
    have hs3 := hs2.drew.alloc (.cells ⟨olds ++ news ++ junk⟩ E)
    have hs4 := hs3.ent (rof_and (r := fun f => rows R f (xs ++ ys) (olds ++ news)) (hr := fun hf h => rows_mono hf h) fun f p q => rows_append p q)
    refine hs4.ent (own_intro (clear_zero _ _) (by rw [hlen]; exact g1) g2 (by rw [g3, h4]) ?_)
    exact List.take_left
  rcases Sat.own hs with ⟨rfl, rfl, hs'⟩ | ⟨g, d, fr, cs, rfl, k3, k4, k5, k6, k8, klen, kone, hs'⟩
  · by_cases hm : ys.length = 0
    · have hy : ys = [] := List.eq_nil_of_length_eq_zero hm
      subst hy
      have hn : news = [] := by simpa [rows] using hrow
      subst hn
      exact ⟨(a, 0), w, run_append_empty (P := P) (ty := ty) ht h1 hx a, hs.ent (star_mono (Ent.refl _) (star_right _ _)), Env.refl w⟩
    · refine fresh [] [] (hs'.ent ?_) (by simp; omega) (by simp) (by simp) (fun w' _ => ?_)
      · exact fun hh f p => ⟨PHeap.emp, hh, PHeap.emp_le _, PHeap.le_refl _, PHeap.emp_disj _, rfl, p⟩
      · cases a <;> simp [Builtin.firstCells, loadCells, loadCellsFrom]
  · by_cases hroom : xs.length + ys.length ≤ c
    · have hr := run_append_in (P := P) (ty := ty) ht h1 hx hs'.pts k3 hone hroom (by rw [k6, h4])
      refine ⟨(some ⟨g, 0, none⟩, c), _, hr, ?_, ⟨rfl, rfl, rfl⟩⟩
      have hs3 := hs'.setRow (l' := lay d (xs.length * i.size) news)
      have hs4 := hs3.ent (rof_and (r := fun f => rows R f (xs ++ ys) (cs ++ news)) (hr := fun hf h => rows_mono hf h) fun f p q => rows_append p q)
      have hfit : xs.length * i.size + news.length ≤ d.length := by
        rw [hnl, k6, h4, ← Nat.add_mul]; exact Nat.mul_le_mul_right _ hroom
      have hl := lay_length d (xs.length * i.size) news hfit
      refine hs4.ent (own_intro (by rw [hl]; exact k3) (by rw [hlen]; exact hroom) k5 (by rw [hl]; exact k6) ?_)
      have e : (cs ++ news).length = xs.length * i.size + news.length := by rw [List.length_append, klen, h4]
      rw [e, take_lay_self _ _ _ hfit]
      congr 1
      rw [h4, ← klen]; exact k8
    · refine fresh cs [] (hs'.tail) (by omega) k4 (by rw [klen, h4]) (fun w' hw' => ?_)
      have hg : w'.heap[g]? = some (.cells ⟨d⟩ E fr) := by rw [hw']; exact hs'.pts
      have hcd : cs.length ≤ d.length := by have := congrArg List.length k8; simp at this; omega
      have := run_loadCells_blk (P := P) hg 0 (xs.length * i.size) (by rw [h4, ← klen]; omega)
      simp only [Builtin.firstCells, this, List.drop_zero]
      rw [h4, ← klen, k8]
end

/-! ### 3. append, as an operation -/
section
variable {P : Program} {e : Slots} {x y z : Operand} {u v : Value} {dst : Option Tmp} {pos : String} {aft : Array Edge} {g : Option (Nat × Bool)} {α : Type} {R : Rel α} {t tt tx E : TypeId} {a b : Option Addr} {c c' : Nat} {xs ys : List α} {zl cs : List Value} {bytes : Nat}
theorem apps_slice {w : World} {E' : TypeId} (hx : P.underlying tx = some (.slice E')) {l : List Value} (h : rdP R b c' ys (heapOf w)) : ∃ news, Apps P tx (.slice b ys.length c') R.n ys.length news w ∧ ∀ f, rdP R b c' ys f → (∀ k o, f k = some o → w.heap[k]? = some o) → rows R f ys news := by
  by_cases hne : ys = []
  · subst hne
    refine ⟨[], ⟨.inl ⟨E', hx⟩, fun w' => by simp [Builtin.lenOf], fun w' _ => ?_, by simp⟩, fun f _ _ => rfl⟩
    cases b <;> simp [Builtin.firstCells, loadCells, loadCellsFrom]
  · obtain ⟨gg, o, l', E2, fr, cs, rfl, h1, h2, h3⟩ := h.2 hne
    have hlen := rows_length h2
    have hpos : 0 < cs.length := by
      rw [hlen]; exact Nat.mul_pos (by cases ys <;> simp_all) R.pos
    have hol : o + cs.length ≤ l'.length := by have := congrArg List.length h3; simp at this; omega
    refine ⟨cs, ⟨.inl ⟨E', hx⟩, fun w' => by simp [Builtin.lenOf], fun w' hw' => ?_, hlen⟩, fun f hf hfw => ?_⟩
    · have hg : w'.heap[gg]? = some (.cells ⟨l'⟩ E2 fr) := by rw [hw']; exact h1
      have := run_loadCells_blk (P := P) hg o (ys.length * R.n) (by rw [← hlen]; exact hol)
      simp only [Builtin.firstCells, this]
      rw [← hlen, h3]
    · obtain ⟨g2, o2, l2, E3, fr2, cs2, e1, e2, e3, e4⟩ := hf.2 hne
      have e5 : gg = g2 ∧ o = o2 := by injection e1 with e1; injection e1 with e1 e1'; exact ⟨e1, e1'⟩
      obtain ⟨rfl, rfl⟩ := e5
      have hw := hfw _ _ e2
      rw [show w.heap[gg]? = some (.cells ⟨l'⟩ E2 fr) from h1] at hw
      injection hw with hw
      injection hw with hw
      injection hw with hw
      subst hw
      have : cs2 = cs := by rw [← e4, ← h3, rows_length e3, hlen]
      subst this
      exact e3
/-- append(xs, ys...), ys frozen. -/
theorem op_append {ts : Array TypeId} {E' : TypeId} (hts : ts = #[t, tx]) (ht : P.underlying t = some (.slice E)) (htx : P.underlying tx = some (.slice E')) (hi : info1 P E zl R.n bytes) (hb0 : 0 < bytes) (hzl : zl.length = R.n) (hx : see e x = some (.slice a xs.length c)) (hy : see e y = some (.slice b ys.length c'))
    (hb : (xs.length + ys.length) * bytes ≤ 140737488355328) : OpE P e ⟨dst, .call ⟨.builtin .append, #[x, y], ts⟩, tt, pos, aft, g⟩ [own R E a c xs, rd R b c' ys] (fun p : Option Addr × Nat => .slice p.1 (xs ++ ys).length p.2) (fun _ => True) (fun p => [own R E p.1 p.2 (xs ++ ys)]) := fun ρ hρ => op_of_run fun A w hs => by
  subst hts
  have hrd := Sat.rd (hs.swap)
  obtain ⟨news, happ, hrows⟩ := apps_slice (l := []) htx hrd
  have hs' : Sat (own R E a c xs :: rof (fun f => rows R f ys news) (fun hf h => rows_mono hf h) :: [rd R b c' ys, A]) w := by
    obtain ⟨hh, f, d, e1, e2, k1, k2, p1, p2, p3, q, ⟨k3, k4, p4, p5, p6, hr, r⟩⟩ := hs
    exact ⟨hh, f, d, e1, e2, k1, k2, p1, p2, p3, q, PHeap.emp, k2, PHeap.emp_le _, PHeap.le_refl _, PHeap.emp_disj _, hrows f hr e2, k3, k4, p4, p5, p6, hr, r⟩
  obtain ⟨p, w', h1, h2, h3⟩ := hs'.append (ty := tt) ht hi hb0 hzl happ hb
  refine ⟨p, w', ?_, trivial, h2.drop2', h3⟩
  simp only [execOp, resolve, invoke, builtin, hρ x _ hx, hρ y _ hy, Sem.run_bind, Sem.run_pure, Result.andThen_ok, List.map_toArray, List.map_cons, List.map_nil, h1]
/-- append(xs, q), the one element in a block of its own. -/
theorem op_append_one {ts : Array TypeId} {q : α} {bb : Nat} (hts : ts = #[t, t]) (ht : P.underlying t = some (.slice E)) (hi : info1 P E zl R.n bytes) (hb0 : 0 < bytes) (hzl : zl.length = R.n) (hx : see e x = some (.slice a xs.length c)) (hy : see e y = some (.slice (some ⟨bb, 0, none⟩) 1 1))
    (hb : (xs.length + 1) * bytes ≤ 140737488355328) : OpE P e ⟨dst, .call ⟨.builtin .append, #[x, y], ts⟩, tt, pos, aft, g⟩ [own R E a c xs, blk bb E cs, hold R q cs] (fun p : Option Addr × Nat => .slice p.1 (xs ++ [q]).length p.2) (fun _ => True) (fun p => [own R E p.1 p.2 (xs ++ [q])]) := fun ρ hρ => op_of_run fun A w hs => by
  subst hts
  have hh := Sat.rof ((hs.tail).swap)
  have hpt := (hs.swap).pts
  have hlen := R.len hh
  have happ : Apps P t (.slice (some ⟨bb, 0, none⟩) 1 1) R.n [q].length cs w := by
    refine ⟨.inl ⟨E, ht⟩, fun w' => by simp [Builtin.lenOf], fun w' hw' => ?_, by simp [hlen]⟩
    have hg : w'.heap[bb]? = some (.cells ⟨cs⟩ E (0, 0)) := by rw [hw']; exact hpt
    have := run_loadCells_blk (P := P) hg 0 (1 * R.n) (by omega)
    simp only [Builtin.firstCells, List.length_singleton, this, List.drop_zero]
    rw [Nat.one_mul, ← hlen, List.take_length]
  have hs' : Sat (own R E a c xs :: rof (fun f => rows R f [q] cs) (fun hf h => rows_mono hf h) :: [A]) w := by
    refine hs.ent (star_mono (Ent.refl _) ?_)
    rintro h f ⟨k1, k2, p1, p2, p3, _, ⟨k3, k4, p4, p5, p6, hr, r⟩⟩
    exact ⟨PHeap.emp, k4, PHeap.emp_le _, PHeap.le_trans p5 p2, PHeap.emp_disj _, rows_single hr, r⟩
  obtain ⟨p, w', h1, h2, h3⟩ := hs'.append (ty := tt) ht hi hb0 hzl happ (by simpa using hb)
  refine ⟨p, w', ?_, trivial, h2, h3⟩
  simp only [execOp, resolve, invoke, builtin, hρ x _ hx, hρ y _ hy, Sem.run_bind, Sem.run_pure, Result.andThen_ok, List.map_toArray, List.map_cons, List.map_nil, h1]
/-- A byte in a cell. -/
abbrev encByte (b : UInt8) : List Value := [.int .u8 b.toNat]
def rB : Rel UInt8 := Rel.ofEnc 1 (by decide) encByte (fun _ => rfl) (fun _ v hv => by simp at hv; subst hv; rfl)
theorem strCells_eq (l : List UInt8) : strCells ⟨⟨l⟩⟩ = l.flatMap encByte := by
  simp only [strCells]
  induction l with
  | nil => rfl
  | cons b l ih => simp at ih ⊢; exact ih
/-- append(bytes, text...). -/
theorem op_append_str {ts : Array TypeId} {l bs : List UInt8} (hts : ts = #[t, tx]) (ht : P.underlying t = some (.slice E)) (htx : P.underlying tx = some .string) (hi : info1 P E zl 1 bytes) (hb0 : 0 < bytes) (hzl : zl.length = 1) (hx : see e x = some (.slice a bs.length c)) (hy : see e y = some (str l))
    (hb : (bs.length + l.length) * bytes ≤ 140737488355328) : OpE P e ⟨dst, .call ⟨.builtin .append, #[x, y], ts⟩, tt, pos, aft, g⟩ [own rB E a c bs] (fun p : Option Addr × Nat => .slice p.1 (bs ++ l).length p.2) (fun _ => True) (fun p => [own rB E p.1 p.2 (bs ++ l)]) := fun ρ hρ => op_of_run fun A w hs => by
  subst hts
  have happ : Apps P tx (str l) rB.n l.length (strCells ⟨⟨l⟩⟩) w := by
    refine ⟨.inr htx, fun w' => by simp [Builtin.lenOf]; rfl, fun w' _ => ?_, ?_⟩
    · exact run_firstCells_string (P := P) w' 1 ⟨⟨l⟩⟩
    · rw [strCells_length]; simp [rB, Rel.ofEnc]; rfl
  have hs' : Sat (own rB E a c bs :: rof (fun f => rows rB f l (strCells ⟨⟨l⟩⟩)) (fun hf h => rows_mono hf h) :: [A]) w := by
    refine hs.ent (star_mono (Ent.refl _) ?_)
    exact fun hh f p => ⟨PHeap.emp, hh, PHeap.emp_le _, PHeap.le_refl _, PHeap.emp_disj _, rows_ofEnc.2 (strCells_eq l), p⟩
  obtain ⟨p, w', h1, h2, h3⟩ := hs'.append (ty := tt) ht hi hb0 hzl happ hb
  refine ⟨p, w', ?_, trivial, h2, h3⟩
  simp only [execOp, resolve, invoke, builtin, hρ x _ hx, hρ y _ hy, Sem.run_bind, Sem.run_pure, Result.andThen_ok, List.map_toArray, List.map_cons, List.map_nil, h1]

/-! ### 4. make -/
theorem rows_rep {f : PHeap} {q : α} {zl : List Value} (h : R.rel f q zl) : ∀ n, rows R f (List.replicate n q) ((List.replicate n zl).flatten)
  | 0 => rfl
  | n + 1 => ⟨zl, _, by simp [List.replicate_succ], h, rows_rep h n⟩
theorem madeCells_list (zl : List Value) (h0 : 0 < zl.length) (n : Nat) : ((Array.range (n * zl.length)).map ((⟨zl⟩ : Array Value)[· % (⟨zl⟩ : Array Value).size]!)).toList = (List.replicate n zl).flatten := by
  rw [Array.toList_map, Array.toList_range]
  induction n with
  | zero => simp
  | succ n ih =>
    have e3 : (⟨zl⟩ : Array Value).size = zl.length := rfl
    rw [Nat.add_mul, Nat.one_mul, List.range_add, List.map_append, ih, List.replicate_succ', List.flatten_append]
    congr 1
    rw [List.map_map]
    apply List.ext_getElem?
    intro j
    simp only [List.getElem?_map, List.flatten_cons, List.flatten_nil, List.append_nil]
    by_cases hj : j < zl.length
    · rw [List.getElem?_range hj, List.getElem?_eq_getElem hj]
      have e2 : (n * zl.length + j) % zl.length = j := by rw [Nat.add_comm, Nat.add_mul_mod_self_right, Nat.mod_eq_of_lt hj]
      simp only [Option.map_some, Function.comp, e3, e2]
      congr 1
      rw [getElem!_pos (⟨zl⟩ : Array Value) j hj]
      rfl
    · rw [List.getElem?_eq_none (l := List.range zl.length) (by simp; omega), List.getElem?_eq_none (l := zl) (by omega)]
      rfl
/-- make([]T, n, m): n zero values; room for m. -/
theorem op_make {T : TypeId} {n m : Int} {k k' : IntKind} {q : α} (ht : P.underlying T = some (.slice E)) (hi : info1 P E zl R.n bytes) (hzl : zl.length = R.n) (hq : ∀ f, R.rel f q zl) (hx : see e x = some (.int k n)) (hy : see e y = some (.int k' m)) (h0 : 0 ≤ n ∧ n ≤ m) (hb : m * bytes ≤ 281474976710656) (hm : m ≤ 9223372036854775807) :
    OpE P e ⟨dst, .makeSlice T x y, tt, pos, aft, g⟩ [] (fun b : Nat => .slice (some ⟨b, 0, none⟩) (List.replicate n.toNat q).length m.toNat) (fun _ => True) (fun b => [own R E (some ⟨b, 0, none⟩) m.toNat (List.replicate n.toNat q)]) := fun ρ hρ => op_of_run fun A w hs => by
  obtain ⟨i, zv, h1, h2, h3, h4, h5⟩ := hi.parts
  have hpos : 0 < zl.length := by rw [hzl]; exact R.pos
  have hwn : IntKind.i64.wrap n = n := IntWalk.i64_in _ ⟨by omega, by omega⟩
  have hwm : IntKind.i64.wrap m = m := IntWalk.i64_in _ ⟨by omega, by omega⟩
  have hcells : (Array.range (m.toNat * i.size)).map (zv.cells[· % zv.cells.size]!) = ⟨(List.replicate m.toNat zl).flatten⟩ := by
    apply Array.ext'
    rw [h3, h4, ← hzl]
    exact madeCells_list zl hpos m.toNat
  have hrun : (Instr.makeSlice T (.int k n) (.int k' m)).run P w = .ok (.slice (some ⟨w.heap.size, 0, none⟩) n.toNat m.toNat) (w.alloc (.cells ⟨(List.replicate m.toNat zl).flatten⟩ E)) := by
    have e1 : ¬ (m < 0) := by omega
    have e2 : ¬ (281474976710656 < (i.bytes : Int) * m) := by rw [h5, Int.mul_comm]; omega
    have e3 : ¬ (n < 0) := by omega
    have e4 : ¬ (n > m) := by omega
    rw [← hcells]
    by_cases hz : m.toNat * i.size = 0
    · have : m = 0 ∨ i.size = 0 := by rcases Nat.mul_eq_zero.1 hz with h | h <;> omega
      have hm0 : m = 0 := by
        rcases this with h | h
        · exact h
        · rw [h4] at h; have := R.pos; omega
      subst hm0
      have hn0 : n = 0 := by omega
      subst hn0
      simp [Instr.makeSlice, run_underlying ht, asInt, asIntOf, typeInfo, h1, newRow, sizeOf, hwn]
      congr 2
      apply Array.ext'
      simp
    · have hz' : ¬ (m.toNat = 0 ∨ i.size = 0) := by rwa [← Nat.mul_eq_zero]
      simp only [Instr.makeSlice, Sem.run_bind, run_underlying ht, Result.andThen_ok, asInt, asIntOf, Sem.run_pure, typeInfo, run_program, h1, hwn, hwm]
      simp [e1, e2, e3, Int.not_lt.2 h0.2, sizeOf, typeInfo, h1, hz, zeroValue, h2, newRow, hz']
  refine ⟨w.heap.size, w.alloc (.cells ⟨(List.replicate m.toNat zl).flatten⟩ E), ?_, trivial, ?_, ⟨rfl, rfl, rfl⟩⟩
  · show _ = Result.ok (Next.value (.slice _ (List.replicate n.toNat q).length m.toNat)) _
    rw [List.length_replicate]
    simp only [execOp, hρ x _ hx, hρ y _ hy, Sem.run_bind, hrun, Result.andThen_ok, Sem.run_pure]
  · have hs2 := hs.alloc (.cells ⟨(List.replicate m.toNat zl).flatten⟩ E)
    have hfl : ∀ n, ((List.replicate n zl).flatten).length = n * R.n := fun n => by simp [hzl]
    have hs3 : Sat (pts w.heap.size (.cells ⟨(List.replicate m.toNat zl).flatten⟩ E) :: rof (fun f => rows R f (List.replicate n.toNat q) ((List.replicate n.toNat zl).flatten)) (fun hf h => rows_mono hf h) :: [A]) (w.alloc (.cells ⟨(List.replicate m.toNat zl).flatten⟩ E)) :=
      hs2.ent (star_mono (Ent.refl _) fun hh f p => ⟨PHeap.emp, hh, PHeap.emp_le _, PHeap.le_refl _, PHeap.emp_disj _, rows_rep (hq f) _, p⟩)
    refine hs3.ent (own_intro (clear_zero _ _) (by simp; omega) (by simp only [maxLen]; omega) (by rw [hfl]) ?_)
    · have : (List.replicate m.toNat zl) = List.replicate n.toNat zl ++ List.replicate (m.toNat - n.toNat) zl := by
        rw [List.replicate_append_replicate]; congr 1; omega
      rw [this, List.flatten_append]
      exact List.take_left
end
end Go.Sb
