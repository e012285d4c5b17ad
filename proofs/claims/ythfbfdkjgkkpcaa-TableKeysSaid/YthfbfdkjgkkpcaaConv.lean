/-
  []byte(s) of a text, and what it leaves.
-/
import Derived.Test.YthfbfdkjgkkpcaaOctet
import Derived.Laws.IdiomStrings
namespace Go.Proofs.Ythfbfdkjgkkpcaa
open Go Go.RowKit

def convV (W : World) (l : List UInt8) : Value := .slice (some ⟨W.heap.size, 0, none⟩) l.length (grownCap W l.length 0 5)
def convW (W : World) (l : List UInt8) : World :=
  W.drew.alloc (.cells (bytesRow ⟨l.toArray⟩ (grownCap W l.length 0 5)) 5 ((bytesRow ⟨l.toArray⟩ (grownCap W l.length 0 5)).size, (bytesRow ⟨l.toArray⟩ (grownCap W l.length 0 5)).size + 1))
theorem conv_run (l : List UInt8) (W : World) : (convert 9 41 (encS l)).run Try.prog W = .ok (convV W l) (convW W l) := by
  have := run_bytes_of_string (P := Try.prog) W 9 41 5 ⟨l.toArray⟩ (by kernel_rfl) (by kernel_rfl) (by kernel_rfl)
  exact this
theorem conv_upd (W : World) (l : List UInt8) : Upd [] W (convW W l) := (Upd.drew [] _).trans0 (Upd.alloc [] _ _)
theorem conv_by (W : World) (l : List UInt8) (hl : l.length ≤ 1073741824) : By (convW W l) (convV W l) l := by
  have hcap : l.length ≤ grownCap W l.length 0 5 := grownCap_ge W _ _ _
  have hmax : grownCap W l.length 0 5 ≤ maxLen := grownCap_le_maxLen W _ _ _ (by unfold maxLen; omega)
  unfold convV convW
  generalize grownCap W l.length 0 5 = cap at *
  have hrow : (bytesRow ⟨l.toArray⟩ cap) = (l.map enc).toArray ++ Array.replicate (cap - l.length) (.int .u8 0) := by
    unfold bytesRow
    congr 1
    simp
  refine ⟨by simp, Nat.le_trans hcap hmax, .inr ⟨W.heap.size, 0, cap, bytesRow ⟨l.toArray⟩ cap, _, rfl, hcap, hmax, heap_alloc_new W.drew _, ?_, ?_⟩⟩
  · rw [hrow]; simp
  · rw [hrow]; simp
end Go.Proofs.Ythfbfdkjgkkpcaa
