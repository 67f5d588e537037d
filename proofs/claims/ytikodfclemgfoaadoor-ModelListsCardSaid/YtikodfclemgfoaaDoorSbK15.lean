/- Contracts 15: the law awakes; a row of choices as a fold. -/
import Derived.Test.YtikodfclemgfoaaDoorSbK14
set_option linter.all false
set_option linter.unusedVariables false
set_option linter.unusedSimpArgs false
namespace Go.Sb
theorem op_max {P : Program} {e : Slots} {x y : Operand} {dst : Option Tmp} {t : TypeId} {pos : String} {aft : Array Edge} {g : Option (Nat × Bool)} {ts : Array TypeId} {k k' : IntKind} {a b : Int} (hx : see e x = some (.int k a)) (hy : see e y = some (.int k' b)) : OpV P e ⟨dst, .call ⟨.builtin .max, #[x, y], ts⟩, t, pos, aft, g⟩ (.int k (max a b)) := fun ρ hρ w => by
  have h : max a b = if b > a then b else a := by rw [Int.max_def]; split <;> split <;> omega
  simp [execOp, resolve, invoke, builtin, Builtin.max_, Builtin.max2, hρ x _ hx, hρ y _ hy, h]
end Go.Sb
namespace Go.Proofs.YtikodfclemgfoaaDoor
open Go.Sb
attribute [local irreducible] Go.wpList Go.Code.wp Go.Exit.then Go.Exit.inBlock Go.Sb.Ends Go.Sb.VC Go.Sb.VA Go.Sb.OpV Go.Sb.OpE Go.Sb.OpD
set_option maxHeartbeats 1000000
abbrev tABC : Txt := [97, 98, 99]
theorem nb_abc : NB tABC true := by
  have h := c_Bucket tABC (by decide)
  rwa [show bucketOk tABC = true by decide +kernel] at h
theorem nk_asc (k : Txt) (hs : k.length ≤ 8) (h7 : ∀ b ∈ k, b.toNat < 128) (ho : keyOk k true = true) : NK k true := by
  have h := c_Key k (by omega) true (c_Valid_asc k hs h7)
  rwa [ho] at h
theorem nk_k : NK [107] true := nk_asc _ (by decide) (by decide) (by decide +kernel)
theorem nk_l : NK [108] true := nk_asc _ (by decide) (by decide) (by decide +kernel)
def σ1 : St := St.empty.make tABC
def σ2 : St := putSt σ1 tABC [107] 2 [120] 0
def σ3 : St := putSt σ2 tABC [107] 3 [121, 122] 0
theorem c_awake : Does Tryd.prog 6 [].toArray [TB] (fun _ : Unit => .bool true) (fun _ => True) (fun _ => []) := by
  refine spec_of Tryd.func6 rfl Tryd.ntmps6 rfl fun R w0 => ?_
  repeat refine sy ?_
  refine ca c_New fun m _ => ?_
  repeat refine sy ?_
  refine vc_cond_f rfl ?_
  repeat refine sy ?_
  refine cd (c_Make m St.empty tABC true nb_abc) ?_
  have e1 : mkErr St.empty tABC true = 0 := by decide
  rw [e1, if_pos rfl]
  repeat refine sy ?_
  refine s_buildSlice (fun b1 => ?_)
  repeat refine sy ?_
  refine sod (op_mark (xs := [120]) (by decide) KSlice.und KUnd.out rfl rfl (by decide)) ?_
  repeat refine sy ?_
  refine cd (c_Put m σ1 2 tABC [107] [120] (some ⟨b1, 0, none⟩) 1 true true nb_abc nk_k) ?_
  have e2 : putErr σ1 tABC [107] 2 [120] true true = 0 := by decide +kernel
  rw [e2]
  repeat refine sy ?_
  refine s_alloc (fun b3 => ?_)
  repeat refine sy ?_
  refine s_buildSlice (fun b2 => ?_)
  repeat refine sy ?_
  refine sod (op_mark (xs := [121, 122]) (by decide) KSlice.und KUnd.out rfl rfl (by decide)) ?_
  repeat refine sy ?_
  refine cd (c_Put m σ2 3 tABC [107] [121, 122] (some ⟨b2, 0, none⟩) 2 true true nb_abc nk_k) ?_
  have e3 : putErr σ2 tABC [107] 3 [121, 122] true true = 0 := by decide +kernel
  rw [e3]
  repeat refine sy ?_
  refine s_alloc (fun b5 => ?_)
  repeat refine sy ?_
  refine ca (c_Get m σ3 tABC [107] 0 true true nb_abc nk_k (by decide +kernel)) fun p _ => ?_
  obtain ⟨a, c⟩ := p
  have e4 : getR σ3 tABC [107] 0 true true = (putVer 3 [121, 122] 0, [121, 122], 0) := by decide +kernel
  rw [e4]
  dsimp only
  repeat refine sy ?_
  refine s_alloc (fun b7 => ?_)
  repeat refine sy ?_
  refine sv ?_ (op_eqVer (u := putVer 3 [121, 122] 0) (v := putVer 3 [121, 122] 0) rfl rfl)
  rw [decide_eq_true (rfl : putVer 3 [121, 122] 0 = putVer 3 [121, 122] 0)]
  repeat refine sy ?_
  refine sod (op_bytes_str (xs := [121, 122]) KSlice.und KUnd.out KUnd.out rfl) ?_
  repeat refine sy ?_
  exact en () trivial
/-! ### a choice, a row of choices -/
def step (σ : St) (x : Cho) (id : Int) : St :=
  if x.act = 4 then putSt σ x.bucket x.key id x.data (putErr σ x.bucket x.key id x.data true true)
  else if x.act = 7 then delSt σ x.bucket x.key id (delErr σ x.bucket x.key id true true)
  else eraSt σ x.bucket x.key x.n true true
def Bound (σ : St) : Prop := ∀ b k, (σ.v b k).length ≤ 64
theorem c_CallStep (m : Nat) (σ : St) (x : Cho) (a : Option Addr) (c : Nat) (id : Int) (hx : x.act = 4 ∨ x.act = 7 ∨ x.act = 8) (hb : NB x.bucket true) (hk : NK x.key true) (hσ : Bound σ) :
    Does Tryd.prog 10 [.pointer (some ⟨m, 0, none⟩), .agg ⟨x.cells a c⟩, .int .i64 id].toArray [rd rB a c x.data, Mdl m σ, TB]
      (fun v : Value => v) (fun _ => True) (fun _ => [Mdl m (step σ x id)]) := by
  intro R w hs
  rcases hx with hx | hx | hx
  · refine (c_CallPut m σ x a c id true true hx hb hk R w hs).mono fun e w' ⟨_, h1, _, h2, h3⟩ => ⟨_, h1, trivial, ?_, h3⟩
    rw [step, if_pos hx]; exact h2
  · refine (c_CallDelete m σ x a c id true true hx hb hk R w hs).mono fun e w' ⟨_, h1, _, h2, h3⟩ => ⟨_, h1, trivial, ?_, h3⟩
    rw [step, if_neg (by omega), if_pos hx]; exact h2
  · refine (c_CallErase m σ x a c id true true hx hb hk (by have := hσ x.bucket x.key; omega) R w hs).mono fun e w' ⟨_, h1, _, h2, h3⟩ => ⟨_, h1, trivial, ?_, h3⟩
    rw [step, if_neg (by omega), if_neg (by omega)]; exact h2
theorem set_v (σ : St) (b k : Txt) (l : List Kept) (b' k' : Txt) : (σ.set b k l).v b' k' = if b' = b ∧ k' = k then l else σ.v b' k' := rfl
theorem moreErr_len {σ : St} {b k : Txt} {x : Kept} (h : moreErr σ b k x = 0) : (σ.v b k).length < 64 := by
  unfold moreErr at h
  split at h
  · omega
  · omega
theorem Bound.set {σ : St} {b k : Txt} {l : List Kept} (h : Bound σ) (hl : l.length ≤ 64) : Bound (σ.set b k l) := by
  intro b' k'
  rw [set_v]; split
  · exact hl
  · exact h b' k'
theorem Bound.put {σ : St} {b k : Txt} {id : Int} {data : List UInt8} {ob ok : Bool} (h : Bound σ) : Bound (putSt σ b k id data (putErr σ b k id data ob ok)) := by
  unfold putSt
  split
  · rename_i he
    refine h.set ?_
    unfold putErr at he
    split at he
    · omega
    split at he
    · omega
    split at he
    · omega
    have := moreErr_len he
    simp; omega
  · exact h
theorem Bound.del {σ : St} {b k : Txt} {id : Int} {ob ok : Bool} (h : Bound σ) : Bound (delSt σ b k id (delErr σ b k id ob ok)) := by
  unfold delSt
  split
  · rename_i he
    refine h.set ?_
    unfold delErr at he
    split at he
    · exact absurd he (by assumption)
    have := moreErr_len he
    simp; omega
  · exact h
theorem Bound.era {σ : St} {b k : Txt} {id : Int} {ob ok : Bool} (h : Bound σ) : Bound (eraSt σ b k id ob ok) := by
  unfold eraSt
  split
  · refine h.set ?_
    have := h b k
    simp; omega
  · exact h
theorem Bound.step {σ : St} (h : Bound σ) (x : Cho) (id : Int) : Bound (step σ x id) := by
  unfold Go.Proofs.YtikodfclemgfoaaDoor.step
  split
  · exact h.put
  split
  · exact h.del
  · exact h.era
theorem bound_1 : Bound σ1 := by
  intro b k
  have : σ1.v b k = [] := by
    show (if b = tABC then [] else []) = ([] : List Kept)
    split <;> rfl
  rw [this]; decide
end Go.Proofs.YtikodfclemgfoaaDoor
