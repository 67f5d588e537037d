/- The tables of unicode/utf8, read for good. -/
import Derived.Test.YtikodfclemgfoaaDoorSbAuto
import Derived.Lib.DecodeN
set_option linter.all false
set_option linter.unusedVariables false
namespace Go.Sb
def tabsP (gF gA : Nat) (f : PHeap) : Prop := ∃ l E r l' E' r', f gF = some (.cells ⟨l⟩ E r) ∧ f gA = some (.cells ⟨l'⟩ E' r') ∧ (∀ c, c < 256 → l[c]? = some (.int .u8 (Lib.firstT c))) ∧
  ∀ i, i < 16 → l'[2 * i]? = some (.int .u8 (Lib.accLo i)) ∧ l'[2 * i + 1]? = some (.int .u8 (Lib.accHi i))
theorem tabsP_mono {gF gA : Nat} {f f' : PHeap} (y : f.le f') (h : tabsP gF gA f) : tabsP gF gA f' :=
  let ⟨l, E, r, l', E', r', h1, h2, h3⟩ := h
  ⟨l, E, r, l', E', r', y _ _ h1, y _ _ h2, h3⟩
def Tabs (gF gA : Nat) : Asrt := rof (tabsP gF gA) tabsP_mono
instance (gF gA : Nat) : Pers (Tabs gF gA) := inferInstanceAs (Pers (rof _ _))
/-- One chunk out of a list. -/
theorem Takes.one {c : Asrt} {l m : List Asrt} (h : Take c l m := by repeat (first | exact Take.keep | exact Take.here | apply Take.there)) : Takes [c] l m := .cons h .nil
end Go.Sb
