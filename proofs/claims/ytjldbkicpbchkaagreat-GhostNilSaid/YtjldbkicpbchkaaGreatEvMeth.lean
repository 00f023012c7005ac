import Derived.Test.YtjldbkicpbchkaaGreatEvFF
namespace Go.Proofs.YtjldbkicpbchkaaGreat.Ev
open Go
set_option maxRecDepth 100000
theorem m1 : methOk Go.Proofs.Tryz.prog 272 "coadjutor/order.num" 341 = true := by kernel_rfl
theorem m2 : methOk Go.Proofs.Tryz.prog 272 "coadjutor/order.row" 342 = true := by kernel_rfl
theorem meth_ok (t : TypeId) (m : String) (f : Nat) (h : sysT.meth t m = some f) : methOk Go.Proofs.Tryz.prog t m f = true := by
  have h' : methT t m = some f := h
  unfold methT at h'
  cases h1 : Nat.beq t 272 with
  | false => rw [h1] at h'; cases h'
  | true =>
    rw [h1] at h'
    have ht := Nat.eq_of_beq_eq_true h1
    subst ht
    simp only [cond_true] at h'
    cases h2 : (m == "coadjutor/order.num") with
    | true =>
      rw [h2] at h'
      have := eq_of_beq h2
      subst this
      simp only [cond_true, Option.some.injEq] at h'
      rw [← h']
      exact m1
    | false =>
      rw [h2] at h'
      simp only [cond_false] at h'
      cases h3 : (m == "coadjutor/order.row") with
      | true =>
        rw [h3] at h'
        have := eq_of_beq h3
        subst this
        simp only [cond_true, Option.some.injEq] at h'
        rw [← h']
        exact m2
      | false => rw [h3] at h'; cases h'
end Go.Proofs.YtjldbkicpbchkaaGreat.Ev
