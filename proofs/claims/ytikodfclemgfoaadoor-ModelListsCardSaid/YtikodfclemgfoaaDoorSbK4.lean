/- Contracts 4: the model's changes. -/
import Derived.Test.YtikodfclemgfoaaDoorSbK3
set_option linter.all false
set_option linter.unusedVariables false
set_option linter.unusedSimpArgs false
namespace Go.Proofs.YtikodfclemgfoaaDoor
open Go.Sb
attribute [local irreducible] Go.wpList Go.Code.wp Go.Exit.then Go.Exit.inBlock Go.Sb.Ends Go.Sb.VC Go.Sb.VA Go.Sb.OpV Go.Sb.OpE Go.Sb.OpD
set_option maxHeartbeats 1000000

theorem c_KClone (a : Option Addr) (c : Nat) (xs : List Kept) (hb : xs.length ≤ 1000000) : Does Tryd.prog 38 [.slice a xs.length c].toArray [rd rKept a c xs] (fun p : Option Addr × Nat => .slice p.1 xs.length p.2) (fun _ => True) (fun p => [own rKept 74 p.1 p.2 xs]) := by
  refine spec_of Tryd.func38 rfl Tryd.ntmps38 rfl fun R w0 => ?_
  repeat refine sy ?_
  cases a with
  | none =>
    refine vc_know (p := xs = []) (fun w hs => ?_) fun h0 => ?_
    · by_cases h : xs = []
      · exact h
      · obtain ⟨g', o, l, E', fr, cs, h1, _⟩ := (Sat.rd hs).2 h; cases h1
    subst h0
    refine vc_cond_t rfl ?_
    repeat refine sy ?_
    exact en (none, 0) trivial
  | some a =>
    refine vc_cond_f rfl ?_
    repeat refine sy ?_
    refine so (op_buildSlice0 rfl KSlice.und KInfo.out) fun bb _ => ?_
    repeat refine sy ?_
    refine so (op_append (R := rKept) (E := 74) (c := 0) (xs := []) (ys := xs) rfl KUnd.out KUnd.out KInfo.out (by decide) rfl rfl rfl (by simp; omega)) fun p _ => ?_
    repeat refine sy ?_
    exact en p trivial
def lastId (l : List Kept) : Int := (l.getD (l.length - 1) Kept.zero).v.id
def moreErr (σ : St) (b k : Txt) (x : Kept) : Int :=
  if 64 ≤ (σ.v b k).length then 18 else if x.v.id < 1 then 1 else if 2147483647 < x.v.id then 1 else if 0 < (σ.v b k).length ∧ x.v.id ≤ lastId (σ.v b k) then 1 else 0
def St.set (σ : St) (b k : Txt) (l : List Kept) : St := ⟨σ.has, σ.n, fun c j => if c = b ∧ j = k then l else σ.v c j⟩
theorem Rep.set {D : Rows0} {σ : St} {b k : Txt} {ib : Nat} {I : Keys} {l : List Kept} (h : Rep D σ) (hf : findA D b = some (ib, I)) : Rep (setA D b (ib, setA I k l)) (σ.set b k l) := by
  refine ⟨?_, fun x => ?_, fun x j => ?_⟩
  · rw [setA_length, hf]; simpa [St.set] using h.n
  · rw [findA_setA]; by_cases hx : b = x
    · subst hx; simp [St.set, h.has, hf]
    · simp [St.set, hx, h.has]
  · unfold verOf; rw [findA_setA]; by_cases hx : b = x
    · subst hx
      simp only [if_true, Option.bind_some, findA_setA, St.set, true_and]
      by_cases hj : k = j
      · subst hj; simp
      · have : ¬ j = k := fun e => hj e.symm
        simp only [if_neg hj, if_neg this]
        rw [h.v, verOf, hf]; rfl
    · have : ¬ (x = b ∧ j = k) := fun e => hx e.1.symm
      simp only [St.set, if_neg hx, if_neg this]; exact h.v x j
theorem rKept_id {q : Kept} : ∀ f c, rKept.rel f q c → c[0]? = some (.int .i64 q.v.id) := by
  rintro f c ⟨a, cc, rfl, _⟩; rfl
theorem mp_set {D : Rows0} {b : Txt} {ib mb : Nat} {I I' : Keys} (hf : findA D b = some (ib, I)) : Ent (mp Vo mb D) (mp Vo mb (setA D b (ib, I'))) := by
  rintro h f ⟨es, clock, h1, hm⟩
  refine ⟨es, clock, h1, ?_, setA_nodup hm.nd, hm.bn, hm.lt⟩
  have key : ∀ {D : Rows0} {es : List MapEntry}, Mats Vo f D es → findA D b = some (ib, I) → Mats Vo f (setA D b (ib, I')) es := by
    intro D es hm
    induction hm with
    | nil => intro h; cases h
    | @cons n y v born D es hr hm ih =>
      intro h
      simp only [findA] at h
      by_cases hn : n = b
      · simp only [hn, if_true, Option.some.injEq] at h
        subst h
        simp only [setA, hn, if_true]
        exact .cons hr hm
      · simp only [if_neg hn] at h
        simp only [setA, if_neg hn]
        exact .cons hr (ih h)
  exact key hm.m hf
/-- An owned row of versions is laid under a key. -/
theorem op_put {P : Go.Program} {e : Slots} {x y z : Operand} {t : TypeId} {pos : String} {aft : Array Edge} {g : Option (Nat × Bool)} {T E K ib : Nat} {I : Keys} {k : Txt} {a : Option Addr} {c E' : Nat} {xs : List Kept} (ht : P.underlying T = some (.map K E)) (hk : P.underlying K = some .string)
    (hx : see e x = some (.map (some ib))) (hy : see e y = some (str k)) (hz : see e z = some (.slice a xs.length c)) :
    OpE P e ⟨none, .mapUpdate T x y z, t, pos, aft, g⟩ [mp rV ib I, own rKept E' a c xs] (fun _ : Unit => undef) (fun _ => True) (fun _ => [mp rV ib (setA I k xs)]) :=
  opE_pre (op_mapUpdate (V := rV) (D := I) (q := xs) ht hk hx hy hz) fun R w hs => by
    have h1 : Sat (own rKept E' a c xs :: mp rV ib I :: [R]) w := hs.swap
    have h2 := h1.own_freeze
    have h3 : Sat (hv rV xs (.slice a xs.length c) :: mp rV ib I :: [R]) w := h2.ent (star_mono (fun h f hr => ⟨a, c, rfl, hr⟩) (Ent.refl _))
    exact h3.swap
theorem take_mdl_put {D : Rows0} {σ : St} {b k : Txt} {i mb ib : Nat} {I : Keys} {xs : List Kept} {l m n o : List Asrt} (hr : Rep D σ) (hn : (D.map (·.1)).Nodup) (hf : findA D b = some (ib, I))
    (h1 : Take (blk i 61 [.map (some mb)]) l m := by repeat (first | exact Take.here | apply Take.there)) (h2 : Take (mp Vo mb D) m n := by repeat (first | exact Take.here | apply Take.there))
    (h3 : Takes [mp rV ib (setA I k xs), inns (delA D b)] n o := by repeat (first | exact Takes.nil | (apply Takes.cons; repeat (first | exact Take.here | apply Take.there)))) : Take (Mdl i (σ.set b k xs)) l o :=
  take_mdl (hr.set hf) (setA_nodup hn) h1 (Ent.trans h2 (star_mono (mp_set hf) (Ent.refl _))) (take_inns (p := (ib, setA I k xs)) h3)
theorem c_more (m : Nat) (σ : St) (b k : Txt) (x : Kept) (a : Option Addr) (c : Nat) (hb : σ.has b = true) :
    Does Tryd.prog 40 [.pointer (some ⟨m, 0, none⟩), str b, str k, .agg ⟨x.cells a c⟩].toArray [rd rB a c x.data, Mdl m σ]
      (fun _ : Unit => .tuple ⟨[.agg ⟨(if moreErr σ b k x = 0 then x.v else Kept.zero.v).cells⟩, .int .i64 (moreErr σ b k x)]⟩) (fun _ => True) (fun _ => [Mdl m (if moreErr σ b k x = 0 then σ.set b k (σ.v b k ++ [x]) else σ)]) := by
  refine spec_of Tryd.func40 rfl Tryd.ntmps40 rfl fun R w0 => ?_
  refine vc_take (A := Mdl m σ) (by repeat (first | exact Take.here | apply Take.there)) ?_
  refine vc_mdl fun mb D hr hn => ?_
  repeat refine sy ?_
  refine s_box (fun bx => ?_)
  refine s_alloc (fun br => ?_)
  repeat refine sy ?_
  refine sod (op_lookup_enc (D := D) KUnd.out KUnd.out KZero.out rfl rfl) ?_
  obtain ⟨⟨ib, I⟩, hf⟩ : ∃ p, findA D b = some p := Option.isSome_iff_exists.1 (by rw [← hr.has]; exact hb)
  have hv : σ.v b k = (findA I k).getD [] := by rw [hr.v, verOf, hf]; rfl
  rw [hf]
  repeat refine sy ?_
  refine vc_take (A := inns D) (by repeat (first | exact Take.here | apply Take.there)) ?_
  refine vc_inns_out hf ?_
  refine so (op_lookup (V := rV) (D := I) KUnd.out KUnd.out KZero.out rfl rfl) fun v _ => ?_
  refine vc_lk fun a' c' hvv => ?_
  subst hvv
  rw [← hv]
  refine vc_know (p := (σ.v b k).length ≤ 9223372036854775807) (fun w hs => by have := (Sat.rd hs).1.2; simpa [maxLen] using this) fun hlen => ?_
  repeat refine sy ?_
  refine vc_cond_dec rfl (fun h1 => ?_) (fun h1 => ?_)
  · have hm : moreErr σ b k x = 18 := by unfold moreErr; rw [if_pos (by omega)]
    repeat refine sy ?_
    rw [hm]
    exact en () trivial (ht := by
      exact Takes.cons (take_mdl hr hn (h3 := take_inns_same (p := (ib, I)) hf)) (Takes.cons (by repeat (first | exact Take.here | apply Take.there)) Takes.nil))
  repeat refine sy ?_
  refine vd_start ?_
  repeat refine dq ?_
  refine va_dec (fun h2 => ?_) (fun h2 => ?_)
  · have hm : moreErr σ b k x = 1 := by unfold moreErr; rw [if_neg (by omega), if_pos h2]
    repeat refine dq ?_
    refine va_end ?_
    repeat refine sy ?_
    refine vc_cond_t rfl ?_
    repeat refine sy ?_
    rw [hm]
    exact en () trivial (ht := by
      exact Takes.cons (take_mdl hr hn (h3 := take_inns_same (p := (ib, I)) hf)) (Takes.cons (by repeat (first | exact Take.here | apply Take.there)) Takes.nil))
  repeat refine dq ?_
  refine va_dec (fun h3 => ?_) (fun h3 => ?_)
  · have hm : moreErr σ b k x = 1 := by unfold moreErr; rw [if_neg (by omega), if_neg h2, if_pos h3]
    repeat refine dq ?_
    refine va_end ?_
    repeat refine sy ?_
    refine vc_cond_t rfl ?_
    repeat refine sy ?_
    rw [hm]
    exact en () trivial (ht := by
      exact Takes.cons (take_mdl hr hn (h3 := take_inns_same (p := (ib, I)) hf)) (Takes.cons (by repeat (first | exact Take.here | apply Take.there)) Takes.nil))
  repeat refine dq ?_
  refine va_dec (fun h4 => ?_) (fun h4 => ?_)
  focus
    obtain ⟨q, hq⟩ := get_some (xs := σ.v b k) (k := (((σ.v b k).length : Int) - 1).toNat) (by omega)
    have hlast : lastId (σ.v b k) = q.v.id := by
      unfold lastId
      have e1 : (((σ.v b k).length : Int) - 1).toNat = (σ.v b k).length - 1 := by omega
      rw [List.getD_eq_getElem?_getD, ← e1, hq]; rfl
    repeat refine dq ?_
    refine dq ?_ (hq := q_load_rd (hv := rKept_id))
    repeat refine dq ?_
    refine va_end ?_
    repeat refine sy ?_
    refine vc_cond_dec rfl (fun h5 => ?_) (fun h5 => ?_)
    · have hm : moreErr σ b k x = 1 := by unfold moreErr; rw [if_neg (by omega), if_neg h2, if_neg h3, if_pos ⟨by omega, by rw [hlast]; exact h5⟩]
      repeat refine sy ?_
      rw [hm]
      exact en () trivial (ht := by
        exact Takes.cons (take_mdl hr hn (h3 := take_inns_same (p := (ib, I)) hf)) (Takes.cons (by repeat (first | exact Take.here | apply Take.there)) Takes.nil))
    have hm : moreErr σ b k x = 0 := by unfold moreErr; rw [if_neg (by omega), if_neg h2, if_neg h3, if_neg (fun hh => h5 (by rw [← hlast]; exact hh.2))]
    repeat refine sy ?_
    clear h5
    revert hm
  rotate_left
  focus
    have hm : moreErr σ b k x = 0 := by unfold moreErr; rw [if_neg (by omega), if_neg h2, if_neg h3, if_neg (fun hh => h4 (by have := hh.1; omega))]
    repeat refine dq ?_
    refine va_end ?_
    repeat refine sy ?_
    refine vc_cond_f rfl ?_
    repeat refine sy ?_
    revert hm
  all_goals
    intro hm
    refine vd_start ?_
    repeat refine dq ?_
    refine va_pick 9 ?_
    repeat refine dq ?_
    refine va_pick 10 ?_
    refine va_pick 8 ?_
    refine de2 (op_call (c_KClone a' c' (σ.v b k) (by omega)) KCall.out rfl) oe_buildSlice (fun p _ => ⟨?_, ?_⟩) (fun bb _ => ⟨?_, ?_⟩)
    · exact aq
    · refine de oe_buildSlice (fun bb _ => ⟨?_, ?_⟩)
      · exact aq
      refine de (op_append_one (R := rKept) (E := 74) (xs := σ.v b k) (q := x) rfl KUnd.out KInfo.out (by decide) rfl rfl rfl (by omega)) (fun p' _ => ⟨?_, ?_⟩) (ht := Takes.cons (by repeat (first | exact Take.here | apply Take.there)) (Takes.cons (by repeat (first | exact Take.here | apply Take.there)) (Takes.cons (take_kept (by repeat (first | exact Take.keep | apply Take.there))) Takes.nil)))
      · exact aq
      refine de0 (op_put KUnd.out KUnd.out rfl rfl rfl) (fun _ _ => ⟨?_, ?_⟩)
      · exact aq
      refine va_end ?_
      repeat refine sy ?_
      simp only [hm, if_true]
      exact en () trivial (ht := Takes.cons (take_mdl_put hr hn hf) (Takes.cons (by repeat (first | exact Take.here | apply Take.there)) Takes.nil))
    · exact aq
    · refine de (op_call (c_KClone a' c' (σ.v b k) (by omega)) KCall.out rfl) (fun p _ => ⟨?_, ?_⟩)
      · exact aq
      refine de (op_append_one (R := rKept) (E := 74) (xs := σ.v b k) (q := x) rfl KUnd.out KInfo.out (by decide) rfl rfl rfl (by omega)) (fun p' _ => ⟨?_, ?_⟩) (ht := Takes.cons (by repeat (first | exact Take.here | apply Take.there)) (Takes.cons (by repeat (first | exact Take.here | apply Take.there)) (Takes.cons (take_kept (by repeat (first | exact Take.keep | apply Take.there))) Takes.nil)))
      · exact aq
      refine de0 (op_put KUnd.out KUnd.out rfl rfl rfl) (fun _ _ => ⟨?_, ?_⟩)
      · exact aq
      refine va_end ?_
      repeat refine sy ?_
      simp only [hm, if_true]
      exact en () trivial (ht := Takes.cons (take_mdl_put hr hn hf) (Takes.cons (by repeat (first | exact Take.here | apply Take.there)) Takes.nil))
end Go.Proofs.YtikodfclemgfoaaDoor
