/- Contracts 29: a part of a list (page.cut). -/
import Derived.Test.YtikodfclemgfoaaDoorSbK28
set_option linter.all false
set_option linter.unusedVariables false
namespace Go.Proofs.YtikodfclemgfoaaDoor
open Go.Sb
attribute [local irreducible] Go.wpList Go.Code.wp Go.Exit.then Go.Exit.inBlock Go.Sb.Ends Go.Sb.VC Go.Sb.VA Go.Sb.OpV Go.Sb.OpE Go.Sb.OpD
set_option maxHeartbeats 4000000
set_option maxRecDepth 10000
theorem vc_own_freeze' {α : Type} {R : Rel α} {E c N : Nat} {a : Option Addr} {xs : List α} {e : Slots} {l m : List Asrt} {w0 : World} {K : Act → World → Prop} (h : VC N e (rd R a c xs :: m) w0 K) (ht : Take (own R E a c xs) l m := by repeat (first | exact Take.here | apply Take.there)) : VC N e l w0 K :=
  by unfold VC at h ⊢; exact fun p q x y z => h p q x (Sat.own_freeze (y.takes (Takes.cons ht Takes.nil))) z
def pre (k p : Txt) : Bool := decide (p.length ≤ k.length) && decide (k.take p.length = p)
theorem c_Has0 (k p : Txt) : Does Tryd.prog 93 [str k, str p].toArray [] (fun _ : Unit => .bool (pre k p)) (fun _ => True) (fun _ => []) := by
  refine spec_of Tryd.func93 rfl Tryd.ntmps93 rfl fun R w0 => ?_
  repeat refine sy ?_
  refine vd (fun h => ?_) (fun h => ?_)
  · repeat refine sy ?_
    exact en () trivial (hv := by
      have h' : p.length ≤ k.length := by omega
      simp [tup, pre, h'])
  · repeat refine sy ?_
    exact en () trivial (hv := by
      have h' : ¬ p.length ≤ k.length := by omega
      simp [tup, pre, h'])
theorem c_Has (k p : Txt) : Does Tryd.prog 77 [str k, str p].toArray [] (fun _ : Unit => .bool (pre k p)) (fun _ => True) (fun _ => []) := by
  refine spec_of Tryd.func77 rfl Tryd.ntmps77 rfl fun R w0 => ?_
  repeat refine sy ?_
  refine cd (c_Has0 k p) ?_
  repeat refine sy ?_
  exact en () trivial
theorem c_Prefix (k p : Txt) : Does Tryd.prog 65 [str k, str p].toArray [] (fun _ : Unit => .bool (pre k p)) (fun _ => True) (fun _ => []) := by
  refine spec_of Tryd.func65 rfl Tryd.ntmps65 rfl fun R w0 => ?_
  repeat refine sy ?_
  refine cd (c_Has k p) ?_
  repeat refine sy ?_
  exact en () trivial
theorem c_Less (a b : Txt) : Does Tryd.prog 51 [str a, str b].toArray [] (fun _ : Unit => .bool (Op.bytesLess a b)) (fun _ => True) (fun _ => []) := by
  refine spec_of Tryd.func51 rfl Tryd.ntmps51 rfl fun R w0 => ?_
  repeat refine sy ?_
  exact en () trivial
structure Ask where
  pre : Txt
  frm : Txt
  fid : Int
  most : Int
abbrev Ask.cells (q : Ask) : List Value := [str q.pre, str q.frm, .int .i64 q.fid, .int .i64 q.most]
def Ask.bad (q : Ask) : Prop := q.most < 1 ∨ 1000 < q.most
instance (q : Ask) : Decidable q.bad := inferInstanceAs (Decidable (_ ∨ _))
def Entr.zero : Entr := ⟨[], ⟨0, false, 0, 0⟩, false⟩
/-- Those that are asked for, in order. -/
def inL (q : Ask) (p : Entr → Bool) (ys : List Entr) : List Entr := ys.filter fun e => _root_.Go.Proofs.YtikodfclemgfoaaDoor.pre e.key q.pre && p e
/-- A part of a list, as the program tells it. -/
structure Ans where
  list : List Entr
  more : Bool
  key : Txt
  id : Int
def cutR (q : Ask) (p : Entr → Bool) (ys : List Entr) : Ans :=
  if q.bad then ⟨[], false, [], 0⟩ else
    let zs := inL q p ys
    if zs.length ≤ q.most.toNat then ⟨zs, false, [], 0⟩ else
      let l := zs.getD (q.most.toNat - 1) Entr.zero
      ⟨zs.take q.most.toNat, true, l.key, l.v.id⟩
def cutE (q : Ask) : Int := if q.bad then 1 else 0
abbrev partV (x : Ans) (s : Option Addr × Nat) : Value := .agg ⟨[.slice s.1 x.list.length s.2, .bool x.more, str x.key, .int .i64 x.id]⟩
theorem inL_take {q : Ask} {p : Entr → Bool} {ys : List Entr} {i : Nat} {e : Entr} (h : ys[i]? = some e) : inL q p (ys.take (i + 1)) = inL q p (ys.take i) ++ (if (pre e.key q.pre && p e) = true then [e] else []) := by
  unfold inL
  rw [List.take_succ, h, List.filter_append]
  congr 1
  simp only [Option.toList, List.filter_cons, List.filter_nil]
theorem c_cut (g : Nat) [KCall Tryd.prog g] (capt : List Value) (C : Asrt) (p : Entr → Bool) (hp : ∀ e : Entr, Does Tryd.prog g ⟨[.agg ⟨e.cells⟩] ++ capt⟩ [C] (fun _ : Unit => .bool (p e)) (fun _ => True) (fun _ => [C]))
    (a : Option Addr) (c : Nat) (xs : List Entr) (q : Ask) (hb : xs.length ≤ 1000000) :
    Does Tryd.prog 49 [.slice a xs.length c, .agg ⟨q.cells⟩, .func (.func g) #[] ⟨capt⟩].toArray [rd rEn a c xs, C] (fun o : (Option Addr × Nat) × List Entr => .tuple ⟨[partV (cutR q p o.2) o.1, .int .i64 (cutE q)]⟩) (fun o => ¬ q.bad → o.2.Perm xs ∧ SrtE o.2) (fun o => [rd rEn o.1.1 o.1.2 (cutR q p o.2).list, C]) := by
  refine spec_of Tryd.func49 rfl Tryd.ntmps49 rfl fun R w0 => ?_
  repeat refine sy ?_
  refine s_box (fun b4 => ?_)
  refine s_alloc (fun b6 => ?_)
  repeat refine sy ?_
  refine ctw (ι := Unit) (fun _ => True) (fun _ => [(19, .bool (decide q.bad)), (4, .pointer (some ⟨b4, 0, none⟩)), (6, .pointer (some ⟨b6, 0, none⟩)), (0, .slice a xs.length c), (2, .func (.func g) #[] ⟨capt⟩)]) (fun _ => [blk b4 47 q.cells, blk b6 44 [.slice none 0 0, .bool false, str [], .int .i64 0], rd rEn a c xs, C, R]) ?_ ?_
  · refine vd (fun h => ?_) (fun h => ?_)
    · repeat refine sy ?_
      refine jn () trivial (hl := by
        rw [show decide q.bad = true by rw [decide_eq_true_iff]; exact .inl h]
        exact ⟨rfl, rfl, rfl, rfl, rfl, trivial⟩)
    · repeat refine sy ?_
      refine jn () trivial (hl := by
        rw [show decide q.bad = decide ((1000 : Int) < q.most) by rw [decide_eq_decide]; exact ⟨fun h2 => h2.resolve_left h, .inr⟩]
        exact ⟨rfl, rfl, rfl, rfl, rfl, trivial⟩)
  intro _ _
  repeat refine sy ?_
  refine vc_cond_dec rfl (fun h => ?_) (fun h => ?_)
  · repeat refine sy ?_
    have e1 : cutE q = 1 := if_pos h
    have e2 : ∀ ys, cutR q p ys = ⟨[], false, [], 0⟩ := fun ys => if_pos h
    exact en ((none, 0), []) (fun hn => absurd h hn) (hv := by rw [e1, e2]; rfl) (ht := by
      rw [e2]
      exact Takes.cons take_rd_nil (Takes.cons (by repeat (first | exact Take.here | apply Take.there)) (Takes.cons (by repeat (first | exact Take.here | apply Take.there)) Takes.nil)))
  repeat refine sy ?_
  refine s_alloc (fun b8 => ?_)
  repeat refine sy ?_
  refine ca (c_pSort a c xs hb) (fun o ho => ?_)
  obtain ⟨s, ys⟩ := o
  dsimp only at ho ⊢
  have hyl := ho.1.length_eq
  repeat refine sy ?_
  have hlo : 1 ≤ q.most := by unfold Ask.bad at h; omega
  have hhi : q.most ≤ 1000 := by unfold Ask.bad at h; omega
  refine lp (ι := Nat × (Option Addr × Nat)) (fun i => i.1 ≤ ys.length ∧ (inL q p (ys.take i.1)).length ≤ q.most.toNat) (fun i => [(24, .int .i64 i.1), (23, .int .i64 ys.length), (22, .slice s.1 ys.length s.2), (4, .pointer (some ⟨b4, 0, none⟩)), (6, .pointer (some ⟨b6, 0, none⟩)), (8, .pointer (some ⟨b8, 0, none⟩)), (2, .func (.func g) #[] ⟨capt⟩)])
    (fun i => [blk b4 47 q.cells, blk b6 44 [.slice none 0 0, .bool false, str [], .int .i64 0], blk b8 44 [.slice i.2.1 (inL q p (ys.take i.1)).length i.2.2, .bool false, str [], .int .i64 0], own rEn TE i.2.1 i.2.2 (inL q p (ys.take i.1)), own rEn TE s.1 s.2 ys, C, R]) (fun i => ys.length - i.1) (0, (none, 0)) ⟨Nat.zero_le _, by simp [inL]⟩ ?_
  rintro ⟨i, u9⟩ ⟨hi, hlen⟩
  dsimp only at hi hlen ⊢
  repeat refine sy ?_
  refine vc_cond_dec rfl (fun h1 => ?_) (fun h1 => ?_)
  · obtain ⟨e, he⟩ := get_some (xs := ys) (k := i) (by omega)
    have he' : ys[((i : Nat) : Int).toNat]? = some e := he
    have hin := inL_take (q := q) (p := p) he
    repeat refine sy ?_
    refine sod (op_load_own_enc (R := rEn) (xs := ys) (j := ((i : Nat) : Int).toNat) KAgg.out rfl rfl he' (by intro f c h; exact h)) ?_
    repeat refine sy ?_
    refine s_alloc (fun b10 => ?_)
    repeat refine sy ?_
    refine cd (c_Prefix e.key q.pre) ?_
    have skip : (pre e.key q.pre && p e) = false → inL q p (ys.take (i + 1)) = inL q p (ys.take i) := fun hn => by rw [hin, hn]; simp
    refine vb (fun h2 => ?_) (fun h2 => ?_)
    · repeat refine sy ?_
      refine so (op_callv (first := []) (capt := capt) (vs := [.agg ⟨e.cells⟩]) rfl (hp e) KCall.out rfl) fun _ _ => ?_
      refine vb (fun h3 => ?_) (fun h3 => ?_)
      · have hin2 : inL q p (ys.take (i + 1)) = inL q p (ys.take i) ++ [e] := by rw [hin, h2, h3]; rfl
        repeat refine sy ?_
        refine vc_cond_f rfl ?_
        repeat refine sy ?_
        refine vc_cond_dec rfl (fun h4 => ?_) (fun h4 => ?_)
        · repeat refine sy ?_
          refine s_buildSlice (fun bb => ?_)
          repeat refine sy ?_
          refine so (op_append_one (R := rEn) (E := TE) (xs := inL q p (ys.take i)) (q := e) rfl KUnd.out KInfo.out (by decide) rfl rfl rfl (by omega)) (fun p' _ => ?_) (Takes.cons (by repeat (first | exact Take.here | apply Take.there)) (Takes.cons (by repeat (first | exact Take.here | apply Take.there)) (Takes.cons take_hold_enc Takes.nil)))
          repeat refine sy ?_
          rw [← hin2]
          exact ag (i + 1, p') ⟨by show i + 1 ≤ ys.length; omega, by show (inL q p (ys.take (i + 1))).length ≤ _; rw [hin2]; simp only [List.length_append, List.length_cons, List.length_nil]; omega⟩ (by show ys.length - (i + 1) < ys.length - i; omega)
        · have hne : 0 < (inL q p (ys.take i)).length := by omega
          have hfull : (inL q p (ys.take i)).length = q.most.toNat := by omega
          obtain ⟨l9, hl9⟩ := get_some (xs := inL q p (ys.take i)) (k := (q.most - 1).toNat) (by omega)
          have e1 : cutE q = 0 := if_neg h
          have e2 : cutR q p ys = ⟨inL q p (ys.take i), true, l9.key, l9.v.id⟩ := by
            have hz : inL q p ys = inL q p (ys.take i) ++ (e :: inL q p (ys.drop (i + 1))) := by
              have h7 : inL q p ys = inL q p (ys.take (i + 1)) ++ inL q p (ys.drop (i + 1)) := by
                unfold inL; rw [← List.filter_append, List.take_append_drop]
              rw [h7, hin2, List.append_assoc]; rfl
            unfold cutR
            rw [if_neg h]
            simp only
            rw [if_neg (by rw [hz, List.length_append, List.length_cons]; omega), hz, List.take_left' hfull]
            have h8 : (inL q p (ys.take i) ++ (e :: inL q p (ys.drop (i + 1)))).getD (q.most.toNat - 1) Entr.zero = l9 := by
              rw [List.getD_eq_getElem?_getD, List.getElem?_append_left (by omega), show q.most.toNat - 1 = (q.most - 1).toNat by omega, hl9]; rfl
            rw [h8]
          repeat refine sy ?_
          refine sod (op_load_own_enc (R := rEn) (xs := inL q p (ys.take i)) (j := (q.most - 1).toNat) KAgg.out rfl rfl hl9 (by intro f c h; exact h)) ?_
          repeat refine sy ?_
          refine s_alloc (fun b11 => ?_)
          repeat refine sy ?_
          refine vd_start ?_
          repeat refine dq ?_
          refine d_store ⟨?_, ?_⟩
          · exact aq
          repeat refine dq ?_
          refine d_store ⟨?_, ?_⟩
          · exact aq
          repeat refine dq ?_
          refine d_store ⟨?_, ?_⟩
          · exact aq
          refine va_end ?_
          repeat refine sy ?_
          refine vc_own_freeze' (R := rEn) (xs := inL q p (ys.take i)) ?_
          exact en (u9, ys) (fun _ => ho) (hv := by rw [e1, e2]; rfl) (ht := by
            rw [e2]
            exact Takes.cons (by repeat (first | exact Take.here | apply Take.there)) (Takes.cons (by repeat (first | exact Take.here | apply Take.there)) (Takes.cons (by repeat (first | exact Take.here | apply Take.there)) Takes.nil)))
      · repeat refine sy ?_
        refine vc_cond_t rfl ?_
        repeat refine sy ?_
        rw [← skip (by rw [h3, Bool.and_false])]
        exact ag (i + 1, u9) ⟨by show i + 1 ≤ ys.length; omega, by show (inL q p (ys.take (i + 1))).length ≤ _; rw [skip (by rw [h3, Bool.and_false])]; exact hlen⟩ (by show ys.length - (i + 1) < ys.length - i; omega)
    · repeat refine sy ?_
      refine vc_cond_t rfl ?_
      repeat refine sy ?_
      rw [← skip (by rw [h2, Bool.false_and])]
      exact ag (i + 1, u9) ⟨by show i + 1 ≤ ys.length; omega, by show (inL q p (ys.take (i + 1))).length ≤ _; rw [skip (by rw [h2, Bool.false_and])]; exact hlen⟩ (by show ys.length - (i + 1) < ys.length - i; omega)
  · repeat refine sy ?_
    have hiy : i = ys.length := by omega
    subst hiy
    rw [List.take_length] at hlen ⊢
    have e1 : cutE q = 0 := if_neg h
    have e2 : cutR q p ys = ⟨inL q p ys, false, [], 0⟩ := by unfold cutR; rw [if_neg h]; exact if_pos hlen
    refine vc_own_freeze' (R := rEn) (xs := inL q p ys) ?_
    exact en (u9, ys) (fun _ => ho) (hv := by rw [e1, e2]; rfl) (ht := by
      rw [e2]
      exact Takes.cons (by repeat (first | exact Take.here | apply Take.there)) (Takes.cons (by repeat (first | exact Take.here | apply Take.there)) (Takes.cons (by repeat (first | exact Take.here | apply Take.there)) Takes.nil)))
end Go.Proofs.YtikodfclemgfoaaDoor
