/- Rows of bytes of one's own, and what append does to them; all in plain words. -/
import Derived.Test.YtpoopgifikcneaaDoorBld
import Derived.Laws.IdiomStrings
import Derived.Laws.BytesArg
import Derived.Below
set_option linter.unusedVariables false
set_option linter.unusedSimpArgs false
namespace Go.Proofs.YtpoopgifikcneaaDoor
open Go.RowKit

/-- A slice that is one's own and has these bytes. -/
def Row (B : Nat) (w : World) (v : Value) (l : List UInt8) : Prop := w.ownsRow B 5 1 v l.length (l.map fun b => Value.int .u8 (b.toNat : Int))
theorem Row.nil (B : Nat) (w : World) : Row B w (.slice none 0 0) [] := World.ownsRow_nil _ _ _ _
theorem Row.shape {B : Nat} {w : World} {v : Value} {l : List UInt8} (h : Row B w v l) : ∃ ao cap, v = .slice ao l.length cap := by
  rcases h.2 with ⟨hv, h0⟩ | ⟨g, cap, cur, hv, _⟩
  · exact ⟨none, 0, by rw [hv, h0]⟩
  · exact ⟨_, _, hv⟩
theorem Row.alloc {B : Nat} {w : World} {v : Value} {l : List UInt8} (h : Row B w v l) (o : Obj) : Row B (w.alloc o) v l := World.ownsRow.alloc h o
theorem Row.text {B : Nat} {v : Value} {l : List UInt8} {w : World} (h : Row B w v l) : (convert 130 9 v).run Tryd.prog w = .ok (.string ⟨l.toArray⟩) w := by
  rcases h.2 with ⟨hv, h0⟩ | ⟨g, cap, cur, hv, _, hg, hnc, _, hcs, htake⟩
  · have hl := List.length_eq_zero_iff.1 h0
    subst hl
    rw [hv]
    exact run_convert_bytes_nil w 130 5 Tryd.underlying130 Tryd.underlying5 0 0 9 Tryd.underlying9
  · rw [hv]
    refine run_convert_bytes_back w 130 9 5 ⟨g, 0, none⟩ cap l Tryd.underlying130 Tryd.underlying5 Tryd.underlying9 fun j hj => ?_
    have := h.cells (g := g) (by rw [hv]; rfl) j (.int .u8 (l[j].toNat : Int)) (by simp [hj])
    rwa [Addr.add_lit] at this ⊢
theorem Row.below {B : Nat} {v : Value} {l : List UInt8} {w w' : World} (h : Row B w v l) (hb : Below w.heap.size w w') : Row B w' v l := by
  refine ⟨h.1, ?_⟩
  rcases h.2 with h0 | ⟨g, cap, cur, hv, hg0, hg, hx⟩
  · exact .inl h0
  · exact .inr ⟨g, cap, cur, hv, hg0, by rw [hb.block g (Array.getElem?_eq_some_iff.1 hg).1]; exact hg, hx⟩

theorem infoByte1 : (Tryd.prog.info? 5).map (fun i => (i.zero, i.size, i.bytes)) = some (some (.int .u8 0), 1, 1) := by kernel_rfl

theorem wpList_row_one (w : World) {ops : Array Oper} {rest : List Oper} {o : Oper} {a : Act} {Q : Exit → Act → World → Prop} (hgd : o.guard = none) (s x : Operand)
    (ho : o.op = .call { callee := .builtin .append, args := #[s, x], argTypes := #[130, 130] })
    (B : Nat) (v : Value) (l : List UInt8) (b : UInt8) (n : Int) (hs : a.eval s = v) (hR : Row B w v l) (ad : Addr) (hx : a.eval x = .slice (some ad) 1 1)
    (hc : w.cell? ad = some (.int .u8 n)) (hn : n = (b.toNat : Int)) (hl : l.length + 1 ≤ 1000000000) (hB : B ≤ w.heap.size)
    (h : ∀ ao cap w', Row B w' (.slice ao (l.length + 1) cap) (l ++ [b]) → Below B w w' → wpList Tryd.prog ops Q rest (a.put o.dst (.slice ao (l.length + 1) cap)) w') :
    wpList Tryd.prog ops Q (o :: rest) a w := by
  obtain ⟨i0, hi, hz0, hz1, hz2⟩ := info_parts infoByte1
  subst hn
  refine wpList_append_own w hgd s x 130 ho B 5 i0 (.int .u8 0) 1 1 Tryd.underlying130 hi hz0 hz1 hz2 rfl (by decide) v l.length _ hs hR ad 1 1 [.int .u8 (b.toNat : Int)] hx rfl ?_ ?_ (by unfold maxLen; omega) (by omega) hB ?_
  · intro j u hj
    match j, hj with
    | 0, hj => simp at hj; subst hj; simpa [Addr.add] using hc
  · intro u hu; simp at hu; subst hu; rfl
  · intro v' w' hown hgrow _
    have hR' : Row B w' v' (l ++ [b]) := by
      unfold Row
      simpa using hown
    have hlow := World.ownsRow.lt hR
    obtain ⟨ao, cap, rfl⟩ := hR'.shape
    rw [List.length_append, List.length_singleton] at hR' ⊢
    exact h ao cap w' hR' ((Below.refl _ _).grown hgrow hB (fun q hq => (hlow q hq).1))

theorem wpList_row_all (w : World) {ops : Array Oper} {rest : List Oper} {o : Oper} {a : Act} {Q : Exit → Act → World → Prop} (hgd : o.guard = none) (s x : Operand)
    (ho : o.op = .call { callee := .builtin .append, args := #[s, x], argTypes := #[130, 130] })
    (B B2 : Nat) (v v2 : Value) (l l2 : List UInt8) (hs : a.eval s = v) (hR : Row B w v l) (hx : a.eval x = v2) (hR2 : Row B2 w v2 l2) (hne : l2 ≠ [])
    (hl : l.length + l2.length ≤ 1000000000) (hB : B ≤ w.heap.size)
    (h : ∀ ao cap w', Row B w' (.slice ao (l.length + l2.length) cap) (l ++ l2) → Below B w w' → wpList Tryd.prog ops Q rest (a.put o.dst (.slice ao (l.length + l2.length) cap)) w') :
    wpList Tryd.prog ops Q (o :: rest) a w := by
  obtain ⟨i0, hi, hz0, hz1, hz2⟩ := info_parts infoByte1
  have hpos : 0 < l2.length := List.length_pos_iff.2 hne
  obtain ⟨g, cap2, hv2⟩ : ∃ g cap, v2 = .slice (some ⟨g, 0, none⟩) l2.length cap := by
    rcases hR2.2 with ⟨_, h0⟩ | ⟨g, cap, cur, hv, _⟩
    · omega
    · exact ⟨g, cap, hv⟩
  subst hv2
  refine wpList_append_own w hgd s x 130 ho B 5 i0 (.int .u8 0) 1 1 Tryd.underlying130 hi hz0 hz1 hz2 rfl (by decide) v l.length _ hs hR ⟨g, 0, none⟩ l2.length cap2 (l2.map fun b => Value.int .u8 (b.toNat : Int)) hx (by simp) ?_ ?_ (by unfold maxLen; omega) (by omega) hB ?_
  · intro j u hj
    have := hR2.cells (g := g) rfl j u hj
    exact this
  · intro u hu; obtain ⟨y, _, rfl⟩ := List.mem_map.1 hu; rfl
  · intro v' w' hown hgrow _
    have hR' : Row B w' v' (l ++ l2) := by
      unfold Row
      simpa using hown
    have hlow := World.ownsRow.lt hR
    obtain ⟨ao, cap, rfl⟩ := hR'.shape
    rw [List.length_append] at hR' ⊢
    exact h ao cap w' hR' ((Below.refl _ _).grown hgrow hB (fun q hq => (hlow q hq).1))

end Go.Proofs.YtpoopgifikcneaaDoor
