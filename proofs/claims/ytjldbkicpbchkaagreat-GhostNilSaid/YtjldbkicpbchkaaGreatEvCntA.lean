import Derived.Test.YtjldbkicpbchkaaGreatProg
import Derived.Tactics
import Derived.Below
import Derived.OwnWalk
namespace Go.Proofs
open Go Go.RowKit
theorem run_range_empty {P : Program} {t k e : TypeId} (ht : P.underlying t = some (.map k e)) (w : World) (m clock : Nat) (es : Array MapEntry) (h2 : w.heap[m]? = some (.map es clock)) :
    (Instr.range t (.map (some m))).run P w = .ok (.pointer (some ⟨w.heap.size, 0, none⟩)) (w.alloc (.mapIter (some m) clock #[] clock)) := by
  have hg : (getObj m).run P w = .ok (.map es clock) w := by simp [getObj, Sem.run, h2]
  simp [Instr.range, run_underlying ht, hg]
theorem run_next_empty {P : Program} {t : TypeId} (w : World) (r m clock c0 : Nat) (h1 : w.heap[r]? = some (.mapIter (some m) c0 #[] c0)) (h2 : w.heap[m]? = some (.map #[] clock)) :
    (Instr.next (.pointer (some ⟨r, 0, none⟩)) false t).run P w = .ok (.tuple #[.bool false]) w ∨ (Instr.next (.pointer (some ⟨r, 0, none⟩)) false t).run P w = .ok (.tuple #[.bool false]) w.drew := by
  have hg : (getObj r).run P w = .ok (.mapIter (some m) c0 #[] c0) w := by simp [getObj, Sem.run, h1]
  have hg2 : (getObj m).run P w = .ok (.map #[] clock) w := by simp [getObj, Sem.run, h2]
  simp [Instr.next, hg, hg2, Question.forced]
end Go.Proofs
