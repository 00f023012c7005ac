/-
  GhostNil: the system of functions, its summaries, and the closed runs.
-/
import Derived.Test.YtjldbkicpbchkaaGreatEvFF
import Derived.Test.YtjldbkicpbchkaaGreatEvMeth
import Derived.Test.YtjldbkicpbchkaaGreatEvSV
import Derived.Test.YtjldbkicpbchkaaGreatEvCntB
import Derived.Test.YtjldbkicpbchkaaGreatChecked
namespace Go.Proofs.YtjldbkicpbchkaaGreat.Ev
open Go Go.RowKit
set_option maxRecDepth 100000

theorem cnt_ok : CallOk Tryz.prog fun g args h => if g = 55 then cntS args h else none := by
  intro W f args h v h' hc φ w args' ha R
  by_cases hf : f = 55
  · subst hf
    simp only [if_true] at hc
    unfold cntS at hc
    split at hc <;> try cases hc
    rename_i b o st
    split at hc <;> try cases hc
    rename_i m hrd
    split at hc <;> try cases hc
    rename_i hm
    simp only [RVs] at ha
    obtain ⟨y1, ys1, rfl, h1, y2, ys2, rfl, h2, rfl⟩ := ha
    simp only [RV] at h1
    obtain ⟨l, hl, rfl⟩ := h1
    obtain ⟨vs, g1, g2, g3, g4⟩ := R.rd hrd hl
    simp only [RVs] at g1
    obtain ⟨u, us, rfl, g5, rfl⟩ := g1
    simp only [RV] at g5
    obtain ⟨lm, g6, rfl⟩ := g5
    have g7 := g4 0 _ rfl
    obtain ⟨_, xs, clock, g8, g9, _⟩ := R.obj m lm _ g6 hm
    have hx : xs = #[] := by
      have := g9.length
      simp at this
      exact this
    subst hx
    rw [enters cf55]
    refine Calls.mono (count_calls w l.c (l.s + o) lm.c clock y2 (by simpa [Nat.add_assoc] using g7) g8 _ _ Tryz.underlying109) fun e w' he => ?_
    obtain ⟨rfl, hb⟩ := he
    exact ⟨_, rfl, Post.pure R hb (by simp only [RV])⟩
  · simp only [hf, if_false] at hc; cases hc

theorem sysT_ok : SysOk Tryz.prog sysT where
  code := code_ok
  meth := meth_ok
  sum := by
    intro f s hs
    have hs' : cond (Nat.beq f 55) (some cntS) none = some s := hs
    cases hb : Nat.beq f 55 with
    | false => rw [hb] at hs'; cases hs'
    | true =>
      rw [hb] at hs'
      cases hs'
      rw [Nat.eq_of_beq_eq_true hb]
      exact cnt_ok

theorem mixed : Tryz.prog.follows .mixedOrders = true := Checked.mixed Tryz.checked

/-- A closed run says so much. -/
def says (p : AV → AHeap → Bool) (r : R) : Bool := match r with | some (v, h) => p v h | none => false
theorem of_says {f : Nat} {args : List AV} {n : Nat} {p : AV → AHeap → Bool} (k : says p (fcall sysT fastT n f args ⟨0, .lf⟩) = true) : ∃ v h, Cl sysT f args ⟨0, .lf⟩ (v, h) ∧ p v h = true := by
  unfold says at k
  split at k
  · rename_i v h hr
    exact ⟨v, h, fcall_ok fastT_ok hr, k⟩
  · cases k

theorem awake_says : says (fun v _ => AV.beq v (.bool true)) (fcall sysT fastT 40 7 [] ⟨0, .lf⟩) = true := by kernel_rfl
def modelW : List UInt8 := List.replicate 56 0
def modelV : AV := .agg [.int .i64 4, .int .i64 2, .int .i64 1, .int .i64 1, .int .i64 1, .int .i64 10, .str modelW]
theorem model_says : says (fun v _ => match v with | .tup [.ptr _ 0, m] => AV.beq m modelV | _ => false) (fcall sysT fastT 40 8 [.str []] ⟨0, .lf⟩) = true := by kernel_rfl
theorem awake_cl : ∃ h, Cl sysT 7 [] ⟨0, .lf⟩ (.bool true, h) := by
  obtain ⟨v, h, h1, h2⟩ := of_says awake_says
  rw [AV.beq_eq _ _ h2] at h1
  exact ⟨h, h1⟩
theorem model_cl : ∃ r : Nat × AHeap, Cl sysT 8 [.str []] ⟨0, .lf⟩ (.tup [.ptr r.1 0, modelV], r.2) := by
  obtain ⟨v, h, h1, h2⟩ := of_says model_says
  split at h2
  · rename_i b m
    rw [AV.beq_eq _ _ h2] at h1
    exact ⟨(b, h), h1⟩
  · cases h2
noncomputable def modelB : Nat := (Classical.choose model_cl).1
noncomputable def modelH : AHeap := (Classical.choose model_cl).2
theorem model_cl' : Cl sysT 8 [.str []] ⟨0, .lf⟩ (.tup [.ptr modelB 0, modelV], modelH) := Classical.choose_spec model_cl

/-! ### The system over the closed runs -/
def awakeS (args : List AV) (h : AHeap) : Option (AV × AHeap) := match args with | [] => some (.bool true, h) | _ => none
noncomputable def modelS (args : List AV) (h : AHeap) : Option (AV × AHeap) := match args with | [.str []] => some (.tup [.ptr (modelB + h.n) 0, modelV], ⟨h.n + modelH.n, h.t⟩) | _ => none
noncomputable def sysB : ASys := { code := fun f => codeT.get f, sum := fun f => cond (Nat.beq f 7) (some awakeS) (cond (Nat.beq f 8) (some modelS) none), meth := methT }

theorem sysB_ok : SysOk Tryz.prog sysB where
  code := code_ok
  meth := meth_ok
  sum := by
    intro f s hs
    have hs' : cond (Nat.beq f 7) (some awakeS) (cond (Nat.beq f 8) (some modelS) none) = some s := hs
    cases hb : Nat.beq f 7 with
    | true =>
      rw [hb] at hs'
      cases hs'
      rw [Nat.eq_of_beq_eq_true hb]
      intro W g args h v h' hc φ w args' ha R
      by_cases hg : g = 7
      · subst hg
        simp only [if_true] at hc
        unfold awakeS at hc
        split at hc <;> cases hc
        obtain ⟨h1, hcl⟩ := awake_cl
        exact closed_ok mixed sysT_ok hcl rfl rfl ha R
      · simp only [hg, if_false] at hc; cases hc
    | false =>
      rw [hb] at hs'
      cases hb2 : Nat.beq f 8 with
      | true =>
        rw [hb2] at hs'
        cases hs'
        rw [Nat.eq_of_beq_eq_true hb2]
        intro W g args h v h' hc φ w args' ha R
        by_cases hg : g = 8
        · subst hg
          simp only [if_true] at hc
          unfold modelS at hc
          split at hc <;> cases hc
          exact opaque_ok mixed sysT_ok model_cl' rfl ha R
        · simp only [hg, if_false] at hc; cases hc
      | false => rw [hb2] at hs'; cases hs'
end Go.Proofs.YtjldbkicpbchkaaGreat.Ev
