/-
  What a summary of a function wants.
-/
import Derived.Test.YtjldbkicpbchkaaGreatEvAF
namespace Go.Proofs.YtjldbkicpbchkaaGreat.Ev
open Go Go.RowKit

/-- New blocks change nothing. -/
theorem Rel.grow {W : World} {φ : Phi} {h : AHeap} {w w' : World} (R : Rel W φ h w) (hb : Below w.heap.size w w') : Rel W φ h w' :=
  ⟨R.below.trans (hb.mono R.below.size), R.dom, R.wf, fun b l o hl hg => (R.obj b l o hl hg).mono (Phi.le_refl φ) fun hd => hb.block _ ((R.obj b l o hl hg).lt hd), R.kin, R.apart⟩

/-- A summary that leaves the heap as it is. -/
theorem Post.pure {W : World} {φ : Phi} {h : AHeap} {w w' : World} {v : AV} {v' : Value} (R : Rel W φ h w) (hb : Below w.heap.size w w') (hv : RV φ v v') : Post W φ h v h v' w' :=
  ⟨Nat.le_refl _, φ, Phi.le_refl φ, fun b l hb => .inl hb, hv, R.grow hb⟩

end Go.Proofs.YtjldbkicpbchkaaGreat.Ev
