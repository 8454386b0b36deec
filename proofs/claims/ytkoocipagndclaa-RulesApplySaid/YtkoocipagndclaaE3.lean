/- The document's examples: what is told of them, reckoned. -/
import Derived.Test.YtkoocipagndclaaE2
namespace Go.Proofs.Ytkoocipagndclaa
open Go.RowKit Go.Shelf

theorem eg_sm : SmF egF := by
  intro lk hlk
  have key : egF.lks.all (fun lk => decide (lk.rules.length ≤ 1000000) && lk.rules.all fun r => decide (r.back.length ≤ 1000000) && r.back.all (fun s => decide (s.length ≤ 1000000)) && decide (r.inn.length ≤ 1000000) && r.inn.all (fun s => decide (s.length ≤ 1000000)) && decide (r.ahead.length ≤ 1000000) && r.ahead.all (fun s => decide (s.length ≤ 1000000))) = true := by decide +kernel
  have h1 := List.all_eq_true.1 key lk hlk
  simp only [Bool.and_eq_true, decide_eq_true_eq, List.all_eq_true] at h1
  obtain ⟨h2, h3⟩ := h1
  refine ⟨h2, fun r hr => ?_⟩
  obtain ⟨⟨⟨⟨⟨a, b⟩, c⟩, d⟩, e⟩, g⟩ := h3 r hr
  exact ⟨⟨a, b⟩, ⟨c, d⟩, ⟨e, g⟩⟩
theorem eg_so : SmO egF := by
  intro lk hlk r hr
  have key : egF.lks.all (fun lk => lk.rules.all fun r => decide (r.out.length ≤ 1000000)) = true := by decide +kernel
  have h1 := List.all_eq_true.1 (List.all_eq_true.1 key lk hlk) r hr
  simpa using h1
theorem eg_m : matchQ egF 0 (runL [0, 4, 1]) 0 [] = some (0, [0, 2]) := by decide +kernel
theorem eg_6 : applyL w64 egF 6 (runL [0, 0, 0, 1]) [] = [⟨0, 0, 0, 5, 0, 0⟩, ⟨0, 1, 0, 5, 0, 0⟩, ⟨0, 2, 0, 0, 0, 0⟩, ⟨1, 3, 0, 0, 0, 0⟩] := by decide +kernel
theorem eg_0 : (applyL w64 egF 0 (runL [0, 4, 1]) []).map (·.g) = [2, 4] := by decide +kernel
theorem eg_1 : (applyL w64 egF 1 (runL [0, 1, 0]) []).map (·.g) = [0, 0, 1, 0, 0] := by decide +kernel
theorem eg_2 : (applyL w64 egF 2 (runL [0, 1]) []).map (·.g) = [2, 3, 1] := by decide +kernel
theorem eg_5 : (applyL w64 egF 5 (runL [0, 0, 1]) []).map (·.g) = [1, 1, 1] := by decide +kernel
theorem eg_9 : (applyL w64 egF 9 (runL [0]) []).map (·.g) = [0] := by decide +kernel

end Go.Proofs.Ytkoocipagndclaa
