/- Contracts 13: bent; Call at Put, Delete, Erase. -/
import Derived.Test.YtikodfclemgfoaaDoorSbK12
set_option linter.all false
set_option linter.unusedVariables false
set_option linter.unusedSimpArgs false
namespace Go.Proofs.YtikodfclemgfoaaDoor
open Go.Sb
attribute [local irreducible] Go.wpList Go.Code.wp Go.Exit.then Go.Exit.inBlock Go.Sb.Ends Go.Sb.VC Go.Sb.VA Go.Sb.OpV Go.Sb.OpE Go.Sb.OpD
set_option maxHeartbeats 1000000
def rI : Rel Int := Rel.ofEnc 1 (by decide) (fun i => [.int .i64 i]) (fun _ => rfl) (fun _ v hv => by simp at hv; subst hv; rfl)
/-- A block given up, read as a row. -/
theorem Sat.blk_rd {α : Type} {R : Rel α} {b E c : Nat} {ls : List Value} {xs : List α} {l : List Asrt} {w : World} (h : Sat (blk b E ls :: l) w) (hr : ∀ f, rows R f xs ls) (hc : xs.length ≤ c ∧ xs.length ≤ maxLen) : Sat (rd R (some ⟨b, 0, none⟩) c xs :: l) w := by
  refine h.freeze.ent (star_mono (fun hh f p => ?_) (Ent.refl _))
  exact ⟨hc, fun _ => ⟨b, 0, ls, E, (0, 0), ls, rfl, p, hr f, by simp⟩⟩
theorem opE_post {P : Go.Program} {e : Slots} {o : Oper} {A : List Asrt} {α : Type} {val : α → Value} {pu : α → Prop} {res res' : α → List Asrt} (h : OpE P e o A val pu res) (hs : ∀ x (R : Asrt) w, Sat (res x ++ [R]) w → Sat (res' x ++ [R]) w) : OpE P e o A val pu res' := by
  unfold OpE at h ⊢
  exact fun ρ hρ R w hS => uponV.mono (h ρ hρ R w hS) fun v w' ⟨x, h1, h2, h3, h4⟩ => ⟨x, h1, h2, hs x R w' h3, h4⟩
end Go.Proofs.YtikodfclemgfoaaDoor
