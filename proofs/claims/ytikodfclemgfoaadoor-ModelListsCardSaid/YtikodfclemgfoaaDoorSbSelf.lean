/- Cutting a piece out of a row of one's own: slices of it, append over itself, clear. -/
import Derived.Test.YtikodfclemgfoaaDoorSbAuto
set_option linter.all false
set_option linter.unusedVariables false
set_option linter.unusedSimpArgs false
namespace Go.Sb
open Go.RowKit
section
variable {P : Program} {e : Slots} {x y z : Operand} {dst : Option Tmp} {t tx tt : TypeId} {pos : String} {aft : Array Edge} {gd : Option (Nat × Bool)} {g len c n : Nat} {T E : TypeId} {i j m : Int} {ki kj km : IntKind}
/-- Where a part begins. -/
def part0 (g c l n : Nat) : Option Addr := if c = l then some ⟨g, 0, none⟩ else some ⟨g, l * n, none⟩
/-- A slice's slice as a value. -/
theorem op_slice_v3 (ht : slice1 P T E n) (hx : see e x = some (.slice (some ⟨g, 0, none⟩) len c)) (hi : see e y = some (.int ki i)) (hj : see e z = some (.int kj j)) {u : Operand} (hm : see e u = some (.int km m)) (h : 0 ≤ i ∧ i ≤ j ∧ j ≤ m ∧ m ≤ c) :
    OpV P e ⟨dst, .slice T x (some y) (some z) (some u), t, pos, aft, gd⟩ (.slice (part0 g m.toNat i.toNat n) (j.toNat - i.toNat) (m.toNat - i.toNat)) := fun ρ hρ w => by
  have h1 : j ≤ (m.toNat : Int) := by omega
  have h2 : i ≤ (j.toNat : Int) := by omega
  simp [execOp, Instr.sliceAt, Instr.slice, Instr.sliceBounds, Instr.sliceBound, asIntOf, hρ x _ hx, hρ y _ hi, hρ z _ hj, hρ u _ hm, run_underlying ht.1, ht.size, h.1, h1, h2, h.2.2.2, show 0 ≤ j by omega, show 0 ≤ m by omega, show j ≤ max m 0 by omega, show i ≤ max j 0 by omega, part0, add_plain]
theorem op_slice_vhi (ht : slice1 P T E n) (hx : see e x = some (.slice (some ⟨g, 0, none⟩) len c)) (hj : see e z = some (.int kj j)) (h : 0 ≤ j ∧ j ≤ c) : OpV P e ⟨dst, .slice T x none (some z) none, t, pos, aft, gd⟩ (.slice (some ⟨g, 0, none⟩) j.toNat c) := fun ρ hρ w => by
  simp [execOp, Instr.sliceAt, Instr.slice, Instr.sliceBounds, Instr.sliceBound, asIntOf, hρ x _ hx, hρ z _ hj, run_underlying ht.1, ht.size, h.1, h.2]
  intro _; simp [Addr.add]
theorem op_slice_vlo (ht : slice1 P T E n) (hx : see e x = some (.slice (some ⟨g, 0, none⟩) len c)) (hi : see e y = some (.int ki i)) (h : 0 ≤ i ∧ i ≤ len) : OpV P e ⟨dst, .slice T x (some y) none none, t, pos, aft, gd⟩ (.slice (part0 g c i.toNat n) (len - i.toNat) (c - i.toNat)) := fun ρ hρ w => by
  simp [execOp, Instr.sliceAt, Instr.slice, Instr.sliceBounds, Instr.sliceBound, asIntOf, hρ x _ hx, hρ y _ hi, run_underlying ht.1, ht.size, h.1, h.2, part0, add_plain]
theorem op_slice_vmid (ht : slice1 P T E n) (hx : see e x = some (.slice (some ⟨g, 0, none⟩) len c)) (hi : see e y = some (.int ki i)) (hj : see e z = some (.int kj j)) (h : 0 ≤ i ∧ i ≤ j ∧ j ≤ c) : OpV P e ⟨dst, .slice T x (some y) (some z) none, t, pos, aft, gd⟩ (.slice (part0 g c i.toNat n) (j.toNat - i.toNat) (c - i.toNat)) := fun ρ hρ w => by
  have h2 : i ≤ (j.toNat : Int) := by omega
  simp [execOp, Instr.sliceAt, Instr.slice, Instr.sliceBounds, Instr.sliceBound, asIntOf, hρ x _ hx, hρ y _ hi, hρ z _ hj, run_underlying ht.1, ht.size, h.1, h2, h.2.2, show 0 ≤ j by omega, show i ≤ max j 0 by omega, part0, add_plain]
end
section
variable {P : Program} {e : Slots} {x y z : Operand} {dst : Option Tmp} {t tx tt : TypeId} {pos : String} {aft : Array Edge} {gd : Option (Nat × Bool)} {g c : Nat} {T E : TypeId} {α : Type} {R : Rel α} {xs : List α}
/-- append(s[:i], s[j:]...) -/
theorem op_append_self {ts : Array TypeId} {i j : Nat} {c' : Nat} {zl : List Value} {bytes : Nat} (hts : ts = #[t, t]) (ht : P.underlying t = some (.slice E)) (hi : info1 P E zl R.n bytes) (hij : i ≤ j ∧ j ≤ xs.length) (hx : see e x = some (.slice (some ⟨g, 0, none⟩) i c)) (hy : see e y = some (.slice (part0 g c j R.n) (xs.length - j) c'))
    (hne : xs ≠ []) : OpD P e ⟨dst, .call ⟨.builtin .append, #[x, y], ts⟩, tt, pos, aft, gd⟩ [own R E (some ⟨g, 0, none⟩) c xs] (.slice (some ⟨g, 0, none⟩) (xs.take i ++ xs.drop j).length c) [own R E (some ⟨g, 0, none⟩) c (xs.take i ++ xs.drop j)] := fun ρ hρ => op_of_run fun A w hs => by
  subst hts
  rcases Sat.own hs with ⟨_, h, _⟩ | ⟨g', d, fr, cs, e1, h3, h4, h5, h6, h8, hlen, h1, hs'⟩
  · exact absurd h hne
  injection e1 with e1
  injection e1 with e1
  subst e1
  have hp := hs'.pts
  obtain ⟨ti, zv, k1, k2, k3, k4, k5⟩ := hi.parts
  have hcd : cs.length ≤ d.length := by have := congrArg List.length h8; simp at this; omega
  have hjn : j * R.n ≤ xs.length * R.n := Nat.mul_le_mul_right _ hij.2
  have happ : Apps P t (.slice (part0 g c j R.n) (xs.length - j) c') ti.size (xs.length - j) (cs.drop (j * R.n)) w := by
    refine ⟨.inl ⟨E, ht⟩, fun w' => by simp [Builtin.lenOf], fun w' hw' => ?_, by rw [List.length_drop, hlen, k4, Nat.sub_mul]⟩
    unfold part0
    by_cases hcj : c = j
    · have hj : xs.length = j := by omega
      simp only [if_pos hcj, hj, Nat.sub_self, Builtin.firstCells, Nat.zero_mul]
      have : cs.drop (j * R.n) = [] := List.drop_of_length_le (by rw [hlen, hj]; exact Nat.le_refl _)
      rw [this]
      simp [loadCells, loadCellsFrom]
    · simp only [if_neg hcj, Builtin.firstCells]
      have hg : w'.heap[g]? = some (.cells ⟨d⟩ E fr) := by rw [hw']; exact hp
      have hfit : j * R.n + (xs.length - j) * ti.size ≤ d.length := by
        rw [k4, ← Nat.add_mul, show j + (xs.length - j) = xs.length by omega, ← hlen]; exact hcd
      rw [run_loadCells_blk (P := P) hg _ _ hfit]
      congr 2
      conv => rhs; rw [← h8, List.drop_take]
      rw [hlen, k4, Nat.sub_mul]
  have hnl : (cs.drop (j * R.n)).length = (xs.length - j) * R.n := by rw [List.length_drop, hlen, Nat.sub_mul]
  have hroom : i + (xs.length - j) ≤ c := by omega
  have hr := run_append_in (P := P) (ty := tt) (n := i) ht k1 happ hp h3 (fun v hv => h1 v (List.mem_of_mem_drop hv)) hroom (by rw [h6, k4])
  have hl0 : (xs.take i ++ xs.drop j).length = i + (xs.length - j) := by simp; omega
  refine ⟨(), w.setRow g ⟨lay d (i * ti.size) (cs.drop (j * R.n))⟩, ?_, trivial, ?_, ⟨rfl, rfl, rfl⟩⟩
  · rw [hl0]
    simp only [execOp, resolve, invoke, builtin, hρ x _ hx, hρ y _ hy, Sem.run_bind, Sem.run_pure, Result.andThen_ok, List.map_toArray, List.map_cons, List.map_nil, hr]
  · have hs3 := hs'.setRow (l' := lay d (i * ti.size) (cs.drop (j * R.n)))
    have hs4 : Sat (Sb.pts g (.cells ⟨lay d (i * ti.size) (cs.drop (j * R.n))⟩ E fr) :: Sb.rof (fun f => rows R f (xs.take i ++ xs.drop j) (cs.take (i * R.n) ++ cs.drop (j * R.n))) (fun hf h => rows_mono hf h) :: [A]) (w.setRow g ⟨lay d (i * ti.size) (cs.drop (j * R.n))⟩) :=
      hs3.ent (star_mono (Ent.refl _) (star_mono (fun _ f h => rows_append (rows_take i h) (rows_drop j h)) (Ent.refl _)))
    have hfit : i * ti.size + (cs.drop (j * R.n)).length ≤ d.length := by
      rw [hnl, h6, k4, ← Nat.add_mul]; exact Nat.mul_le_mul_right _ hroom
    have hl := lay_length d (i * ti.size) (cs.drop (j * R.n)) hfit
    refine hs4.ent (own_intro (by rw [hl]; exact h3) (by rw [hl0]; exact hroom) h5 (by rw [hl]; exact h6) ?_)
    have hik : i * R.n ≤ cs.length := by rw [hlen]; exact Nat.mul_le_mul_right _ (by omega)
    have e : (cs.take (i * R.n) ++ cs.drop (j * R.n)).length = i * ti.size + (cs.drop (j * R.n)).length := by
      rw [List.length_append, List.length_take, Nat.min_eq_left hik, k4]
    rw [e, take_lay_self _ _ _ hfit]
    congr 1
    rw [k4]
    conv => rhs; rw [← h8, List.take_take, Nat.min_eq_left hik]
/-- clear(s[k:m]) behind what is held. -/
theorem op_clear_tail {ts : Array TypeId} {k m c' : Nat} {zl : List Value} {bytes : Nat} (hts : ts[0]? = some T) (ht : P.underlying T = some (.slice E)) (hi : info1 P E zl R.n bytes) (hzl : zl.length = R.n) (hz1 : ∀ v ∈ zl, v.oneCell' = true) (hk : xs.length ≤ k ∧ k + m ≤ c) (hm : 0 < m) (hx : see e x = some (.slice (some ⟨g, k * R.n, none⟩) m c')) :
    OpD P e ⟨dst, .call ⟨.builtin .clear, #[x], ts⟩, tt, pos, aft, gd⟩ [own R E (some ⟨g, 0, none⟩) c xs] (.tuple #[]) [own R E (some ⟨g, 0, none⟩) c xs] := fun ρ hρ => op_of_run fun A w hs => by
  rcases Sat.own hs with ⟨h, _, _⟩ | ⟨g', d, fr, cs, e1, h3, h4, h5, h6, h8, hlen, h1, hs'⟩
  · omega
  injection e1 with e1
  injection e1 with e1
  subst e1
  have hp := hs'.pts
  obtain ⟨ti, zv, k1, k2, k3, k4, k5⟩ := hi.parts
  obtain ⟨m, rfl⟩ : ∃ q, m = q + 1 := ⟨m - 1, by omega⟩
  have hz0 : 0 < zl.length := by rw [hzl]; exact R.pos
  obtain ⟨zs, hzs⟩ : ∃ zs, zs = (List.replicate (m + 1) zl).flatten := ⟨_, rfl⟩
  have hzc : (Builtin.zeroCells zv.cells (m + 1)).toList = zs := by
    rw [hzs, k3]; exact madeCells_list zl hz0 (m + 1)
  have hzn : zs.length = (m + 1) * R.n := by rw [hzs, ← hzl]; simp
  have hz2 : ∀ v ∈ zs, v.oneCell' = true := fun v hv => by
    rw [hzs] at hv
    obtain ⟨l, hl, hv⟩ := List.mem_flatten.1 hv
    rw [List.eq_of_mem_replicate hl] at hv
    exact hz1 v hv
  have hfit : k * R.n + zs.length ≤ d.length := by rw [hzn, h6, ← Nat.add_mul]; exact Nat.mul_le_mul_right _ hk.2
  have hst := run_storeCells_blk (P := P) g (k * R.n) E fr zs 0 ⟨d⟩ w hp (h3.mono (by omega) (by omega)) (by simpa using hfit) hz2
  simp only [Nat.add_zero] at hst
  have hlay : (List.take (k * R.n) d ++ zs ++ List.drop (k * R.n + zs.length) d) = lay d (k * R.n) zs := rfl
  refine ⟨(), w.setRow g ⟨lay d (k * R.n) zs⟩, ?_, trivial, ?_, ⟨rfl, rfl, rfl⟩⟩
  · have hcl : (Builtin.clear_ ts tt #[.slice (some ⟨g, k * R.n, none⟩) (m + 1) c']).run P w = .ok (.tuple #[]) (w.setRow g ⟨lay d (k * R.n) zs⟩) := by
      simp [Builtin.clear_, hts, run_underlying ht, zeroValue, typeInfo, k1, k2, hzc, hst, hlay, Result.andThen]
    simp only [execOp, resolve, invoke, builtin, hρ x _ hx, Sem.run_bind, Sem.run_pure, Result.andThen_ok, List.map_toArray, List.map_cons, List.map_nil, hcl]
  · have hs3 := hs'.setRow (l' := lay d (k * R.n) zs)
    have hl := lay_length d (k * R.n) zs hfit
    refine hs3.ent (own_intro (by rw [hl]; exact h3) h4 h5 (by rw [hl]; exact h6) ?_)
    have hck : cs.length ≤ k * R.n := by rw [hlen]; exact Nat.mul_le_mul_right _ hk.1
    unfold lay
    rw [List.append_assoc, List.take_append_of_le_length (by simp; omega), List.take_take, Nat.min_eq_left hck]
    exact h8
end
end Go.Sb
