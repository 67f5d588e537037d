/- Maps that are cloned; a key that is taken away while the map is ranged over. -/
import Derived.Test.YtikodfclemgfoaaDoorSbRange
import Derived.Laws.Externs
set_option linter.all false
set_option linter.unusedVariables false
namespace Go.Sb
open Go.RowKit
open Go.ChangeMaps (setBlock)
open Go.Maps
section
variable {P : Program} {e : Slots} {x y z : Operand} {u v : Value} {dst : Option Tmp} {t : TypeId} {pos : String} {aft : Array Edge} {g : Option (Nat × Bool)} {b r n : Nat} {T E K : TypeId} {α : Type} {V : MRel α} {D rest : List (Txt × α)} {last : Option (Txt × α)} {k : Txt}
theorem op_delete_itm {ts : Array TypeId} (hts : ts[0]? = some T) (ht : P.underlying T = some (.map K E)) (hk : P.underlying K = some .string) (hx : see e x = some (.map (some b))) (hy : see e y = some (str k)) :
    OpE P e ⟨dst, .call ⟨.builtin .delete, #[x, y], ts⟩, t, pos, aft, g⟩ [itm V b r D rest last] (fun _ : Unit => .tuple #[]) (fun _ => True) (fun _ => [itm V b r (delA D k) (delA rest k) none]) := fun ρ hρ R w hs => by
  obtain ⟨es, clock, seen, hne, h1⟩ := hs.itm_open
  obtain ⟨f0, hm0⟩ : ∃ f, Itm V f b r D rest last es clock seen := ⟨_, h1.tail.tail.rof⟩
  have hp := h1.pts
  have hlt : b < w.heap.size := (Array.getElem?_eq_some_iff.1 hp).1
  have fin : ∀ es', (∀ f, Itm V f b r D rest last es clock seen → Itm V f b r (delA D k) (delA rest k) none es' clock seen) → Sat (itm V b r (delA D k) (delA rest k) none :: [R]) (setBlock w b (.map es' clock)) := fun es' hm => by
    refine Sat.itm_close (es := es') (clock := clock) (h1.write (w' := setBlock w b (.map es' clock)) (o' := .map es' clock) ?_ ?_) (fun f h => hm f h)
    · simp [setBlock, hlt]
    · intro j hj _; simp [setBlock, Ne.symm hj]
  have hrun : ∀ c, (execOp ρ ⟨dst, .call ⟨.builtin .delete, #[x, y], ts⟩, t, pos, aft, g⟩).run P c = ((Builtin.delete_ ts t #[ρ x, ρ y]).run P c).andThen fun v w => .ok (.value v) w := fun c => by
    simp [execOp, resolve, invoke, builtin]
  rw [hrun]
  cases hf : findA D k with
  | none =>
    have h2 := ((findNow_mats (k := k) hm0.1.m 0).1 hf)
    have hdel : (Builtin.delete_ ts t #[.map (some b), str k]).run P w = .ok (.tuple #[]) (setBlock w b (.map (es) clock)) := by
      simp [Builtin.delete_, hts, run_underlying ht, MapKept.run_getObj_map hp, run_checkKey_str hk, run_findKey_str hk h2, MapKept.run_setObj_map _ hp, Result.andThen, setBlock]
    rw [hρ x _ hx, hρ y _ hy, hdel]
    refine ⟨(), rfl, trivial, fin _ (fun f hm => ?_), ⟨rfl, rfl, rfl⟩⟩
    have hD : delA D k = D := delA_none (findA_none.1 hf)
    have hR : delA rest k = rest := delA_none (fun hmem => by
      obtain ⟨p, hp1, hp2⟩ := List.mem_map.1 hmem
      rw [hm.2.1] at hp1
      exact findA_none.1 hf (List.mem_map.2 ⟨p, restOf_mem hp1, hp2⟩))
    rw [hD, hR]
    exact ⟨hm.1, hm.2.1, fun _ _ h => by cases h⟩
  | some x0 =>
    obtain ⟨j, e0, h2, h3, h4, h5, _, h6, h7⟩ := (findNow_mats (k := k) hm0.1.m 0).2 x0 hf
    have hdel : (Builtin.delete_ ts t #[.map (some b), str k]).run P w = .ok (.tuple #[]) (setBlock w b (.map (es.eraseIdxIfInBounds (0 + j)) clock)) := by
      simp [Builtin.delete_, hts, run_underlying ht, MapKept.run_getObj_map hp, run_checkKey_str hk, run_findKey_str hk h2, MapKept.run_setObj_map _ hp, Result.andThen, setBlock]
    rw [hρ x _ hx, hρ y _ hy, hdel]
    refine ⟨(), rfl, trivial, fin _ (fun f hm => ?_), ⟨rfl, rfl, rfl⟩⟩
    obtain ⟨j', e', h2', h3', h4', h5', _, _, h7'⟩ := (findNow_mats (k := k) hm.1.m 0).2 x0 hf
    have hjj : j' = j := by
      rw [h2'] at h2
      simp only [Option.some.injEq, Prod.mk.injEq] at h2
      omega
    subst hjj
    have hlt' : j' < es.size := by have := (List.getElem?_eq_some_iff.1 h3').1; simpa using this
    have hee : (es.eraseIdxIfInBounds (0 + j')).toList = es.toList.eraseIdx j' := by
      simp [Array.eraseIdxIfInBounds, hlt']
    refine ⟨⟨by rw [hee]; exact h7', delA_nodup hm.1.nd, ?_, ?_⟩, ?_, fun _ _ h => by cases h⟩
    · rw [hee]; exact hm.1.bn.sublist ((List.eraseIdx_sublist _ _).map _)
    · intro e' he'; rw [hee] at he'; exact hm.1.lt e' ((List.eraseIdx_sublist _ _).subset he')
    · rw [hee, hm.2.1]; exact (restOf_del hm.1.m seen hm.1.nd h3' (by first | exact h4' | exact h5')).symm
theorem op_typeAssert_map (hx : see e x = some (.iface T v)) (ht : P.underlying T = some (.map K E)) {xT : TypeId} : OpV P e ⟨dst, .typeAssert x xT T false, t, pos, aft, g⟩ v := fun ρ hρ w => by
  have h : (Instr.typeAssert (.iface T v) xT T false).run P w = .ok v w := by simp [Instr.typeAssert, run_underlying ht, go_sem, Result.andThen]
  simp only [execOp, hρ x _ hx, Sem.run_bind, h, Result.andThen_ok, Sem.run_pure]
/-- maps.clone: a new map with the same. -/
theorem op_clone {f : FuncId} {ts : Array TypeId} {fn : Func} (hf : P.funcs[f]? = some fn) (h1n : (fn.name == "runtime.NumGoroutine") = false) (h2n : fn.body.isNone = true) (h3n : Extern.findNext fn = none) (h4n : Extern.find fn = some Extern.MapsClone.clone) (hx : see e x = some (.iface T (.map (some b)))) :
    OpE P e ⟨dst, .call ⟨.value (.func f), #[x], ts⟩, t, pos, aft, g⟩ [mp V b D] (fun n : Nat => .iface T (.map (some n))) (fun _ => True) (fun n => [mp V b D, mp V n D]) := fun ρ hρ R w hs => by
  obtain ⟨es, clock, h1⟩ := hs.mp_open
  have hp := h1.pts
  have hc : ∀ args, (callFunc f args).run P w = ((Extern.MapsClone.clone args).run P w).andThen fun v w => .ok (.value v) w := fun args =>
    run_callFunc_extern hf h1n h2n h3n h4n args w
  have hrun : (execOp ρ ⟨dst, .call ⟨.value (.func f), #[x], ts⟩, t, pos, aft, g⟩).run P w = .ok (.value (.iface T (.map (some w.heap.size)))) (w.alloc (.map es clock)) := by
    have h3 : (Extern.MapsClone.clone #[.iface T (.map (some b))]).run P w = .ok (.iface T (.map (some w.heap.size))) (w.alloc (.map es clock)) := by
      have e0 : Extern.MapsClone.clone #[.iface T (.map (some b))] = (getObj b >>= fun o => match o with
          | .map entries clock => (newObj (.map entries clock) >>= fun n => Pure.pure (.iface T (.map (some n))))
          | _ => stuck "maps.clone: a map expected") := rfl
      rw [e0]
      simp [MapKept.run_getObj_map hp, Result.andThen, go_sem]
    have hfn : ρ (.func f) = .func (.func f) #[] #[] := hρ _ _ rfl
    have hxs : (#[x] : Array Operand).map ρ = #[.iface T (.map (some b))] := by simp [hρ x _ hx]
    simp only [execOp, resolve, hxs, hfn, Deferred.ofValue, invoke, Sem.run_bind, Sem.run_pure, Result.andThen_ok, Array.append_empty, Array.empty_append, hc, h3]
  rw [hrun]
  refine ⟨w.heap.size, rfl, trivial, ?_, ⟨rfl, rfl, rfl⟩⟩
  have h2 := h1.alloc (.map es clock)
  have h4 : Sat (Sb.pts w.heap.size (.map es clock) :: Sb.rof (fun f => Mat V f D es clock) (fun y h => h.mono y) :: Sb.pts b (.map es clock) :: Sb.rof (fun f => Mat V f D es clock) (fun y h => h.mono y) :: [R]) (w.alloc (.map es clock)) := by
    refine h2.ent (star_mono (Ent.refl _) ?_)
    refine Ent.trans (star_mono (Ent.refl _) (star_mono (Pers.dup _) (Ent.refl _))) ?_
    refine Ent.trans (star_mono (Ent.refl _) (star_assoc _ _ _)) ?_
    exact star_swap _ _ _
  have h5 : Sat (mp V w.heap.size D :: Sb.pts b (.map es clock) :: Sb.rof (fun f => Mat V f D es clock) (fun y h => h.mono y) :: [R]) (w.alloc (.map es clock)) := Sat.mp_close h4 (fun f h => h)
  have h6 : Sat (Sb.pts b (.map es clock) :: Sb.rof (fun f => Mat V f D es clock) (fun y h => h.mono y) :: mp V w.heap.size D :: [R]) (w.alloc (.map es clock)) := by
    refine h5.ent (Ent.trans (star_swap _ _ _) (star_mono (Ent.refl _) (star_swap _ _ _)))
  exact Sat.mp_close h6 (fun f h => h)
end
end Go.Sb
