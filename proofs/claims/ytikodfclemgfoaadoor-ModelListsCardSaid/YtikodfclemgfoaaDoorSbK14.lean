/- Contracts 14: Call at Put, Delete, Erase. -/
import Derived.Test.YtikodfclemgfoaaDoorSbK13
set_option linter.all false
set_option linter.unusedVariables false
set_option linter.unusedSimpArgs false
namespace Go.Proofs.YtikodfclemgfoaaDoor
open Go.Sb
attribute [local irreducible] Go.wpList Go.Code.wp Go.Exit.then Go.Exit.inBlock Go.Sb.Ends Go.Sb.VC Go.Sb.VA Go.Sb.OpV Go.Sb.OpE Go.Sb.OpD
set_option maxHeartbeats 1000000
/-- An answer without a page and names. -/
abbrev ansV (err : Int) (v : Ver) (d : Value) : Value := .agg ⟨[.int .i64 err, .int .i64 v.id, .bool v.mark, .int .i64 v.size, .int .u32 v.sum, d, .slice none 0 0, .bool false, str [], .int .i64 0, .slice none 0 0]⟩
theorem c_CallPut (m : Nat) (σ : St) (x : Cho) (a : Option Addr) (c : Nat) (id : Int) (ob ok : Bool) (hx : x.act = 4) (hb : NB x.bucket ob) (hk : NK x.key ok) :
    Does Tryd.prog 10 [.pointer (some ⟨m, 0, none⟩), .agg ⟨x.cells a c⟩, .int .i64 id].toArray [rd rB a c x.data, Mdl m σ, TB]
      (fun _ : Unit => ansV (putErr σ x.bucket x.key id x.data ob ok) (putVer id x.data (putErr σ x.bucket x.key id x.data ob ok)) (.slice none 0 0)) (fun _ => True) (fun _ => [Mdl m (putSt σ x.bucket x.key id x.data (putErr σ x.bucket x.key id x.data ob ok))]) := by
  obtain ⟨act, bucket, key, data, n, at_, pre, frm, fid, most⟩ := x
  simp only at hx hb hk ⊢
  subst hx
  refine spec_of Tryd.func10 rfl Tryd.ntmps10 rfl fun R w0 => ?_
  repeat refine sy ?_
  refine s_box (fun b4 => ?_)
  refine s_alloc (fun b6 => ?_)
  repeat refine sy ?_
  refine s_alloc (fun b7 => ?_)
  repeat refine sy ?_
  refine vc_cond_f rfl ?_
  repeat refine sy ?_
  refine vc_cond_f rfl ?_
  repeat refine sy ?_
  refine vc_cond_f rfl ?_
  repeat refine sy ?_
  refine vc_cond_t rfl ?_
  repeat refine sy ?_
  refine cd (c_Put m σ id bucket key data a c ob ok hb hk) ?_
  repeat refine sy ?_
  refine s_alloc (fun b8 => ?_)
  repeat refine sy ?_
  exact en () trivial
theorem c_CallDelete (m : Nat) (σ : St) (x : Cho) (a : Option Addr) (c : Nat) (id : Int) (ob ok : Bool) (hx : x.act = 7) (hb : NB x.bucket ob) (hk : NK x.key ok) :
    Does Tryd.prog 10 [.pointer (some ⟨m, 0, none⟩), .agg ⟨x.cells a c⟩, .int .i64 id].toArray [rd rB a c x.data, Mdl m σ, TB]
      (fun _ : Unit => ansV (delErr σ x.bucket x.key id ob ok) (delVer id (delErr σ x.bucket x.key id ob ok)) (.slice none 0 0)) (fun _ => True) (fun _ => [Mdl m (delSt σ x.bucket x.key id (delErr σ x.bucket x.key id ob ok))]) := by
  obtain ⟨act, bucket, key, data, n, at_, pre, frm, fid, most⟩ := x
  simp only at hx hb hk ⊢
  subst hx
  refine spec_of Tryd.func10 rfl Tryd.ntmps10 rfl fun R w0 => ?_
  repeat refine sy ?_
  refine s_box (fun b4 => ?_)
  refine s_alloc (fun b6 => ?_)
  repeat refine sy ?_
  refine s_alloc (fun b7 => ?_)
  repeat (first | refine sy ?_ | refine vc_cond_f rfl ?_)
  refine vc_cond_t rfl ?_
  repeat refine sy ?_
  refine cd (c_Delete m σ id bucket key ob ok hb hk) ?_
  repeat refine sy ?_
  refine s_alloc (fun b8 => ?_)
  repeat refine sy ?_
  exact en () trivial
theorem c_CallErase (m : Nat) (σ : St) (x : Cho) (a : Option Addr) (c : Nat) (id : Int) (ob ok : Bool) (hx : x.act = 8) (hb : NB x.bucket ob) (hk : NK x.key ok) (hσ : (σ.v x.bucket x.key).length ≤ 1000000) :
    Does Tryd.prog 10 [.pointer (some ⟨m, 0, none⟩), .agg ⟨x.cells a c⟩, .int .i64 id].toArray [rd rB a c x.data, Mdl m σ, TB]
      (fun _ : Unit => ansV (eraErr σ x.bucket x.key x.n ob ok) Kept.zero.v (.slice none 0 0)) (fun _ => True) (fun _ => [Mdl m (eraSt σ x.bucket x.key x.n ob ok)]) := by
  obtain ⟨act, bucket, key, data, n, at_, pre, frm, fid, most⟩ := x
  simp only at hx hb hk hσ ⊢
  subst hx
  refine spec_of Tryd.func10 rfl Tryd.ntmps10 rfl fun R w0 => ?_
  repeat refine sy ?_
  refine s_box (fun b4 => ?_)
  refine s_alloc (fun b6 => ?_)
  repeat refine sy ?_
  refine s_alloc (fun b7 => ?_)
  repeat (first | refine sy ?_ | refine vc_cond_f rfl ?_)
  refine vc_cond_t rfl ?_
  repeat refine sy ?_
  refine cd (c_Erase m σ bucket key n ob ok hb hk hσ) ?_
  repeat refine sy ?_
  exact en () trivial
end Go.Proofs.YtikodfclemgfoaaDoor
