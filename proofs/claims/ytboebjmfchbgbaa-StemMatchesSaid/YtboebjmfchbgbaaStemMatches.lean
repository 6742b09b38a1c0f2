/-
  The statement StemMatches: for every pattern and every text the program's Match and Wild answer as the document's. No condition.
-/
import Derived.Test.YtboebjmfchbgbaaRefStem
import Derived.Test.YtboebjmfchbgbaaAliveStem
namespace Go.Proofs.Ytboebjmfchbgbaa
open Go.RowKit
set_option linter.unusedSimpArgs false
set_option linter.unusedVariables false

set_option maxHeartbeats 4000000 in
theorem stemMatches_walk (a0 a1 : ByteArray) (w : World) (w0 : a0.size ≤ maxLen) (w1 : a1.size ≤ maxLen) :
    Calls Try.prog 5 #[.string a0, .string a1] w fun e w' => e = .returned (.bool true) ∧ Below w.heap.size w w' := by
  unfold maxLen at w0 w1
  rcases (show 100 < a0.size ∨ (a0.size ≤ 100 ∧ 100 < a1.size) ∨ (a0.size ≤ 100 ∧ a1.size ≤ 100) from by omega) with h | ⟨h, h'⟩ | ⟨h, h'⟩
  · go_enter Try.func5, Try.ntmps5
    go_wp2_with (go_at_call 20; refine (alive15_any _).mono ?_; rintro e w1 ⟨rfl, hb⟩)
    go_ret
    exact ⟨rfl, hb⟩
  · go_enter Try.func5, Try.ntmps5
    go_wp2_with (go_at_call 20; refine (alive15_any _).mono ?_; rintro e w1 ⟨rfl, hb⟩)
    go_ret
    exact ⟨rfl, hb⟩
  · go_enter Try.func5, Try.ntmps5
    go_wp2_with (first | (go_at_call 20; refine (alive15_any _).mono ?_; rintro e w1 ⟨rfl, hb⟩) | (go_at_call 21; refine (Match_any _ _ _ (by unfold maxLen; omega) (by unfold maxLen; omega)).mono ?_; rintro e w' ⟨rfl, rfl⟩) | (go_at_call 22; refine (RefMatch_any _ _ _ (by omega) (by omega)).mono ?_; rintro e w' ⟨rfl, n, rfl⟩) | (go_at_call 23; refine (Wild_any _ _ (by unfold maxLen; omega)).mono ?_; rintro e w' ⟨rfl, rfl⟩) | (go_at_call 24; refine (RefWild_any _ _ (by unfold maxLen; omega)).mono ?_; rintro e w' ⟨rfl, rfl⟩))
    go_ret
    exact ⟨rfl, below_drewN hb _⟩

end Go.Proofs.Ytboebjmfchbgbaa
