/- The global table of an instruction's names: block 0 holds it in every world that a call of the law meets. -/
import Derived.Test.YtdkbhjmoiblobaaWMore
namespace Go.Proofs.Ytdkbhjmoiblobaa.Hand
open Go.RowKit
set_option linter.unusedVariables false

/-- The names of the operations, by their numbers. -/
def names : List ByteArray := [⟨#[]⟩, ⟨#[97, 100, 100]⟩, ⟨#[115, 117, 98]⟩, ⟨#[97, 110, 100]⟩, ⟨#[111, 114]⟩, ⟨#[120, 111, 114]⟩, ⟨#[115, 104, 108]⟩, ⟨#[115, 104, 114]⟩, ⟨#[115, 97, 114]⟩, ⟨#[109, 117, 108]⟩, ⟨#[100, 105, 118]⟩, ⟨#[114, 101, 109]⟩, ⟨#[115, 108, 116]⟩, ⟨#[115, 108, 116, 117]⟩, ⟨#[]⟩, ⟨#[]⟩, ⟨#[97, 100, 100, 105]⟩, ⟨#[97, 110, 100, 105]⟩, ⟨#[111, 114, 105]⟩, ⟨#[120, 111, 114, 105]⟩, ⟨#[115, 104, 108, 105]⟩, ⟨#[115, 104, 114, 105]⟩, ⟨#[115, 97, 114, 105]⟩, ⟨#[115, 108, 116, 105]⟩, ⟨#[108, 117, 105]⟩, ⟨#[]⟩, ⟨#[]⟩, ⟨#[]⟩, ⟨#[]⟩, ⟨#[]⟩, ⟨#[]⟩, ⟨#[]⟩, ⟨#[108, 119]⟩, ⟨#[108, 98]⟩, ⟨#[108, 98, 117]⟩, ⟨#[115, 119]⟩, ⟨#[115, 98]⟩, ⟨#[]⟩, ⟨#[]⟩, ⟨#[]⟩, ⟨#[98, 101, 113]⟩, ⟨#[98, 110, 101]⟩, ⟨#[98, 108, 116]⟩, ⟨#[98, 103, 101]⟩, ⟨#[98, 108, 116, 117]⟩, ⟨#[98, 103, 101, 117]⟩, ⟨#[]⟩, ⟨#[]⟩, ⟨#[106, 97, 108]⟩, ⟨#[106, 97, 108, 114]⟩, ⟨#[]⟩, ⟨#[]⟩, ⟨#[]⟩, ⟨#[]⟩, ⟨#[]⟩, ⟨#[]⟩, ⟨#[101, 99, 97, 108, 108]⟩, ⟨#[101, 114, 101, 116]⟩, ⟨#[99, 115, 114, 114]⟩, ⟨#[99, 115, 114, 119]⟩, ⟨#[105, 110]⟩, ⟨#[111, 117, 116]⟩, ⟨#[119, 102, 105]⟩, ⟨#[102, 108, 117, 115, 104]⟩, ⟨#[104, 97, 108, 116]⟩]
/-- The table lies in block 0. -/
def Glob (w : World) : Prop := ∀ i : Nat, i < 65 → w.cell? ⟨0, i, none⟩ = some (.string (names.getD i ⟨#[]⟩))
/-- The table lies there still, whatever was laid behind. -/
theorem glob_b {w w' : World} (h : Glob w) (h0 : 0 < w.heap.size) (hb : Below w.heap.size w w') : Glob w' := fun i hi => (hb.cell (p := ⟨0, i, none⟩) h0).trans (h i hi)
theorem glob_pos {w : World} (h : Glob w) : 0 < w.heap.size := by
  have := h 0 (by decide)
  unfold World.cell? at this
  rcases Nat.eq_zero_or_pos w.heap.size with h0 | h0
  · have hn : w.heap[0]? = none := by rw [Array.getElem?_eq_none_iff]; omega
    simp [hn] at this
  · exact h0
theorem glob_of {w w' : World} (h : Glob w) (hb : Below w.heap.size w w') : Glob w' := glob_b h (glob_pos h) hb
/-- A number's name. -/
def nameOf (n : Int) : ByteArray := if n < 0 ∨ 65 ≤ n then ⟨#[]⟩ else names.getD n.toNat ⟨#[]⟩
end Go.Proofs.Ytdkbhjmoiblobaa.Hand
