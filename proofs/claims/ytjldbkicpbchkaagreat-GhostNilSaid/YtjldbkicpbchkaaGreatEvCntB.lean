import Derived.Test.YtjldbkicpbchkaaGreatProg
import Derived.Test.YtjldbkicpbchkaaGreatEvCntA
import Derived.Tactics
import Derived.Below
import Derived.OwnWalk
namespace Go.Proofs
open Go Go.RowKit
set_option maxRecDepth 100000 in
theorem count_calls (w : World) (c s m clock : Nat) (states : Value) (h1 : w.cell? ⟨c, s + 9, none⟩ = some (.map (some m))) (h2 : w.heap[m]? = some (.map #[] clock)) (k e : TypeId) (h3 : Tryz.prog.underlying 109 = some (.map k e)) :
    Calls Tryz.prog 55 #[.pointer (some ⟨c, s, none⟩), states] w fun e w' => e = .returned (.int .i64 0) ∧ Below w.heap.size w w' := by
  have hr := run_range_empty h3 w m clock #[] h2
  have hlt : m < w.heap.size := (Array.getElem?_eq_some_iff.1 h2).1
  have h5 : (w.alloc (.mapIter (some m) clock #[] clock)).heap[m]? = some (.map #[] clock) := (Below.heap_alloc w _ m hlt).trans h2
  have h4 : (w.alloc (.mapIter (some m) clock #[] clock)).heap[w.heap.size]? = some (.mapIter (some m) clock #[] clock) := by
    show (w.heap.push _)[w.heap.size]? = _
    simp
  have hn := run_next_empty (P := Tryz.prog) (t := 0) _ w.heap.size m clock clock h4 h5
  have hres : ∀ (T : Array Value) (u : World), T.getD 4 undef = .int .i64 0 → (results Tryz.f55 T).run Tryz.prog u = .ok (.int .i64 0) u := by
    intro T u hT
    simp [results, show Tryz.f55.results = #[.tmp 4] from rfl]
    simpa using hT
  go_enter Tryz.func55, Tryz.ntmps55
  go_wp2
  refine wp_loop_once ?_
  rcases hn with hn | hn
  · go_wp2
    exact ⟨rfl, .int .i64 0, hres _ _ rfl, rfl, (Below.refl _ w).alloc (Nat.le_refl _) _⟩
  · go_wp2
    exact ⟨rfl, .int .i64 0, hres _ _ rfl, rfl, ((Below.refl _ w).alloc (Nat.le_refl _) _).drew⟩
end Go.Proofs
