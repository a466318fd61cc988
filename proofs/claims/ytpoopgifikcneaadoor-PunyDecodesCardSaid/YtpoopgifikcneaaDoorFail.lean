/- An error that wraps one of the program's numbers: what such a value is in memory, and what builds it; no conditions. -/
import Derived.Test.YtpoopgifikcneaaDoorBld
import Derived.Lib.Hide
import Derived.Deep.DeepMust
import Derived.Outline
import Derived.WalkLawsBesides
import Derived.WalkSpells
set_option linter.unusedVariables false
namespace Go.Proofs.YtpoopgifikcneaaDoor
open Go.RowKit

/-- A value that is an error of a call, which wraps a number. -/
def IsFail (code : Int) (v : Value) (w : World) : Prop :=
  ∃ g c, v = .iface 192 (.pointer (some ⟨g, 0, none⟩)) ∧ w.heap[g]? = some (.cells #[.string c, .iface 75 (.int .i64 code)] 194 (0, 0))
theorem IsFail.below {code : Int} {v : Value} {w w' : World} (h : IsFail code v w) (hb : Below w.heap.size w w') : IsFail code v w' := by
  obtain ⟨g, c, hv, hg⟩ := h
  exact ⟨g, c, hv, (hb.block g (Array.getElem?_eq_some_iff.1 hg).1).trans hg⟩

set_option maxHeartbeats 1000000 in
set_option maxRecDepth 100000 in
theorem wrap_errno (call : ByteArray) (code : Int) (w : World) :
    Calls Tryd.prog 84 #[.string call, .iface 75 (.int .i64 code)] w fun e w' => ∃ v, e = .returned v ∧ IsFail code v w' ∧ Below w.heap.size w w' := by
  go_enter Tryd.func84, Tryd.ntmps84
  go_wp2
  go_ret
  exact ⟨_, rfl, ⟨w.heap.size, call, rfl, heap_alloc_new w _⟩, (Below.refl _ _).alloc (Nat.le_refl _) _⟩

/-- A slice value that reads as a list of whole numbers. -/
def Ints (k : IntKind) (w : World) (v : Value) (l : List Int) : Prop :=
  (l = [] ∧ ∃ A c, v = .slice A 0 c) ∨
  (0 < l.length ∧ ∃ b off c, v = .slice (some ⟨b, off, none⟩) l.length c ∧ l.length ≤ c ∧ ∀ i, i < l.length → w.cell? ⟨b, off + i, none⟩ = some (.int k (l.getD i 0)))
theorem Ints.below {k : IntKind} {w w' : World} {v : Value} {l : List Int} (h : Ints k w v l) (hb : Below w.heap.size w w') : Ints k w' v l := by
  rcases h with h | ⟨h0, b, off, c, hv, hc, hcell⟩
  · exact .inl h
  · exact .inr ⟨h0, b, off, c, hv, hc, fun i hi => (hb.cell (World.block_lt_of_cell? w _ (hcell i hi))).trans (hcell i hi)⟩

end Go.Proofs.YtpoopgifikcneaaDoor
