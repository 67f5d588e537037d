/- Contracts 30: page.Versions, page.Objects. -/
import Derived.Test.YtikodfclemgfoaaDoorSbK29
set_option linter.all false
set_option linter.unusedVariables false
namespace Go.Proofs.YtikodfclemgfoaaDoor
open Go.Sb
attribute [local irreducible] Go.wpList Go.Code.wp Go.Exit.then Go.Exit.inBlock Go.Sb.Ends Go.Sb.VC Go.Sb.VA Go.Sb.OpV Go.Sb.OpE Go.Sb.OpD
set_option maxHeartbeats 4000000
set_option maxRecDepth 10000
def vP (q : Ask) (e : Entr) : Bool := decide (q.frm = []) || Op.bytesLess q.frm e.key || (decide (e.key = q.frm) && decide (e.v.id < q.fid))
def oP (q : Ask) (e : Entr) : Bool := e.latest && !e.v.mark && (decide (q.frm = []) || Op.bytesLess q.frm e.key)
theorem c_vP (b : Nat) (q : Ask) (e : Entr) : Does Tryd.prog 50 [.agg ⟨e.cells⟩, .pointer (some ⟨b, 0, none⟩)].toArray [blk b 47 q.cells] (fun _ : Unit => .bool (vP q e)) (fun _ => True) (fun _ => [blk b 47 q.cells]) := by
  refine spec_of Tryd.func50 rfl Tryd.ntmps50 rfl fun R w0 => ?_
  repeat refine sy ?_
  refine s_box (fun b2 => ?_)
  repeat refine sy ?_
  refine vd (fun h => ?_) (fun h => ?_)
  · repeat refine sy ?_
    exact en () trivial (hv := by simp [tup, vP, h])
  · repeat refine sy ?_
    refine cd (c_Less q.frm e.key) ?_
    repeat refine sy ?_
    refine vb (fun h2 => ?_) (fun h2 => ?_)
    · repeat refine sy ?_
      exact en () trivial (hv := by simp [tup, vP, h2])
    · repeat refine sy ?_
      refine vd (fun h3 => ?_) (fun h3 => ?_)
      · repeat refine sy ?_
        exact en () trivial (hv := by simp [tup, vP, h, h2, h3, bl_irr])
      · repeat refine sy ?_
        exact en () trivial (hv := by simp [tup, vP, h, h2, h3, bl_irr])
theorem c_oP (b : Nat) (q : Ask) (e : Entr) : Does Tryd.prog 52 [.agg ⟨e.cells⟩, .pointer (some ⟨b, 0, none⟩)].toArray [blk b 47 q.cells] (fun _ : Unit => .bool (oP q e)) (fun _ => True) (fun _ => [blk b 47 q.cells]) := by
  refine spec_of Tryd.func52 rfl Tryd.ntmps52 rfl fun R w0 => ?_
  repeat refine sy ?_
  refine s_box (fun b2 => ?_)
  repeat refine sy ?_
  refine vb (fun h => ?_) (fun h => ?_)
  · repeat refine sy ?_
    refine vb (fun h2 => ?_) (fun h2 => ?_)
    · have hm : e.v.mark = false := by simpa using h2
      repeat refine sy ?_
      refine vd (fun h3 => ?_) (fun h3 => ?_)
      · repeat refine sy ?_
        exact en () trivial (hv := by simp [tup, oP, h, hm, h3])
      · repeat refine sy ?_
        refine cd (c_Less q.frm e.key) ?_
        repeat refine sy ?_
        exact en () trivial (hv := by simp [tup, oP, h, hm, h3])
    · have hm : e.v.mark = true := by simpa using h2
      repeat refine sy ?_
      exact en () trivial (hv := by simp [tup, oP, h, hm])
  · repeat refine sy ?_
    exact en () trivial (hv := by simp [tup, oP, h])
/-- What page.Versions, page.Objects tell. -/
def verR (q : Ask) (ys : List Entr) : Ans := cutR q (vP q) ys
def objR (q : Ask) (ys : List Entr) : Ans := ⟨(cutR q (oP q) ys).list, (cutR q (oP q) ys).more, (cutR q (oP q) ys).key, 0⟩
theorem c_pVersions (a : Option Addr) (c : Nat) (xs : List Entr) (q : Ask) (hb : xs.length ≤ 1000000) :
    Does Tryd.prog 28 [.slice a xs.length c, .agg ⟨q.cells⟩].toArray [rd rEn a c xs] (fun o : (Option Addr × Nat) × List Entr => .tuple ⟨[partV (verR q o.2) o.1, .int .i64 (cutE q)]⟩) (fun o => ¬ q.bad → o.2.Perm xs ∧ SrtE o.2) (fun o => [rd rEn o.1.1 o.1.2 (verR q o.2).list]) := by
  refine spec_of Tryd.func28 rfl Tryd.ntmps28 rfl fun R w0 => ?_
  repeat refine sy ?_
  refine s_box (fun b3 => ?_)
  refine s_alloc (fun b4 => ?_)
  repeat refine sy ?_
  refine ca (c_cut 50 [.pointer (some ⟨b3, 0, none⟩)] (blk b3 47 q.cells) (vP q) (c_vP b3 q) a c xs q hb) (fun o ho => ?_)
  repeat refine sy ?_
  exact en o ho
theorem c_pObjects (a : Option Addr) (c : Nat) (xs : List Entr) (q : Ask) (hb : xs.length ≤ 1000000) :
    Does Tryd.prog 29 [.slice a xs.length c, .agg ⟨q.cells⟩].toArray [rd rEn a c xs] (fun o : (Option Addr × Nat) × List Entr => .tuple ⟨[partV (objR q o.2) o.1, .int .i64 (cutE q)]⟩) (fun o => ¬ q.bad → o.2.Perm xs ∧ SrtE o.2) (fun o => [rd rEn o.1.1 o.1.2 (objR q o.2).list]) := by
  refine spec_of Tryd.func29 rfl Tryd.ntmps29 rfl fun R w0 => ?_
  repeat refine sy ?_
  refine s_box (fun b3 => ?_)
  refine s_alloc (fun b4 => ?_)
  repeat refine sy ?_
  refine ca (c_cut 52 [.pointer (some ⟨b3, 0, none⟩)] (blk b3 47 q.cells) (oP q) (c_oP b3 q) a c xs q hb) (fun o ho => ?_)
  repeat refine sy ?_
  refine s_alloc (fun b6 => ?_)
  repeat refine sy ?_
  exact en o ho
end Go.Proofs.YtikodfclemgfoaaDoor
