/- Rows of code points of one's own, what append does to them, and the reference's put. -/
import Derived.Test.YtpoopgifikcneaaDoorPunyA
import Derived.Test.YtpoopgifikcneaaDoorPunyS
import Derived.Laws.AppendOwnNone
import Derived.Laws.OwnMore
set_option linter.unusedVariables false
set_option linter.unusedSimpArgs false
namespace Go.Proofs.YtpoopgifikcneaaDoor
open Go.RowKit PunyP

/-- A slice that is one's own and has these code points. -/
def IRow (B : Nat) (w : World) (v : Value) (l : List Int) : Prop := w.ownsRow B 21 1 v l.length (l.map (Value.int .i32))
theorem IRow.nil (B : Nat) (w : World) : IRow B w (.slice none 0 0) [] := World.ownsRow_nil _ _ _ _
theorem IRow.shape {B : Nat} {w : World} {v : Value} {l : List Int} (h : IRow B w v l) : ∃ ao cap, v = .slice ao l.length cap := own_shape h
theorem IRow.alloc {B : Nat} {w : World} {v : Value} {l : List Int} (h : IRow B w v l) (o : Obj) : IRow B (w.alloc o) v l := World.ownsRow.alloc h o
theorem IRow.ints {B : Nat} {w : World} {v : Value} {l : List Int} (h : IRow B w v l) : Ints .i32 w v l := own_ints h
theorem IRow.below {B : Nat} {v : Value} {l : List Int} {w w' : World} (h : IRow B w v l) (hb : Below w.heap.size w w') : IRow B w' v l := by
  refine ⟨h.1, ?_⟩
  rcases h.2 with h0 | ⟨g, cap, cur, hv, hg0, hg, hx⟩
  · exact .inl h0
  · exact .inr ⟨g, cap, cur, hv, hg0, by rw [hb.block g (Array.getElem?_eq_some_iff.1 hg).1]; exact hg, hx⟩
theorem IRow.mono {B B' : Nat} {w : World} {v : Value} {l : List Int} (h : IRow B w v l) (hB : B' ≤ B) : IRow B' w v l := by
  refine ⟨h.1, ?_⟩
  rcases h.2 with h0 | ⟨g, cap, cur, hv, hg0, hx⟩
  · exact .inl h0
  · exact .inr ⟨g, cap, cur, hv, Nat.le_trans hB hg0, hx⟩

theorem wpList_irow_src (w : World) {ops : Array Oper} {rest : List Oper} {o : Oper} {a : Act} {Q : Exit → Act → World → Prop} (hgd : o.guard = none) (s x : Operand)
    (ho : o.op = .call { callee := .builtin .append, args := #[s, x], argTypes := #[71, 71] })
    (B : Nat) (v : Value) (l l2 : List Int) (hs : a.eval s = v) (hR : IRow B w v l) (ad : Addr) (c : Nat) (hx : a.eval x = .slice (some ad) l2.length c)
    (hc : ∀ j (hj : j < l2.length), w.cell? (ad.add j) = some (.int .i32 l2[j])) (hl : l.length + l2.length ≤ 1000000000) (hB : B ≤ w.heap.size)
    (h : ∀ ao cap w', IRow B w' (.slice ao (l.length + l2.length) cap) (l ++ l2) → Below B w w' → wpList Tryd.prog ops Q rest (a.put o.dst (.slice ao (l.length + l2.length) cap)) w') :
    wpList Tryd.prog ops Q (o :: rest) a w := by
  obtain ⟨i0, hi, hz0, hz1, hz2⟩ := info_parts infoRune
  refine wpList_append_own w hgd s x 71 ho B 21 i0 (.int .i32 0) 1 4 Tryd.underlying71 hi hz0 hz1 hz2 rfl (by decide) v l.length _ hs hR ad l2.length c (l2.map (Value.int .i32)) hx (by simp) ?_ ?_ (by unfold maxLen; omega) (by omega) hB ?_
  · intro j u hj
    obtain ⟨h1, h2⟩ := List.getElem?_eq_some_iff.1 hj
    simp at h1 h2
    rw [hc j h1, h2]
  · intro u hu; obtain ⟨y, _, rfl⟩ := List.mem_map.1 hu; rfl
  · intro v' w' hown hgrow _
    have hR' : IRow B w' v' (l ++ l2) := by
      unfold IRow
      simpa using hown
    have hlow := World.ownsRow.lt hR
    obtain ⟨ao, cap, rfl⟩ := hR'.shape
    rw [List.length_append] at hR' ⊢
    exact h ao cap w' hR' ((Below.refl _ _).grown hgrow hB (fun q hq => (hlow q hq).1))

theorem wpList_irow_none (w : World) {ops : Array Oper} {rest : List Oper} {o : Oper} {a : Act} {Q : Exit → Act → World → Prop} (hgd : o.guard = none) (s x : Operand)
    (ho : o.op = .call { callee := .builtin .append, args := #[s, x], argTypes := #[71, 71] })
    (B : Nat) (v : Value) (l : List Int) (hs : a.eval s = v) (hR : IRow B w v l) (hx : a.eval x = .slice none 0 0)
    (h : wpList Tryd.prog ops Q rest (a.put o.dst v) w) :
    wpList Tryd.prog ops Q (o :: rest) a w := by
  obtain ⟨i0, hi, hz0, hz1, hz2⟩ := info_parts infoRune
  exact wpList_append_own_none hgd s x 71 ho B 21 i0 1 Tryd.underlying71 hi v l.length _ hs hR hx h

set_option maxHeartbeats 2000000 in
set_option maxRecDepth 100000 in
theorem refPut_any (B : Nat) (v : Value) (l : List Int) (i : Nat) (x : Int) (w : World) (hR : IRow B w v l) (hl : l.length ≤ 1000000) (hi : i ≤ l.length) :
    Calls Tryd.prog 82 #[v, .int .i64 i, .int .i32 x] w fun e w' => ∃ ao cap, e = .returned (.slice ao (l.length + 1) cap) ∧ IRow w.heap.size w' (.slice ao (l.length + 1) cap) (PunyP.put l i x) ∧ Below w.heap.size w w' := by
  rcases hR.2 with ⟨rfl, h0⟩ | ⟨g, cap, cur, rfl, hg0, hg, hnc, hcm, hcs, htake⟩
  · have hl0 := List.length_eq_zero_iff.1 h0
    subst hl0
    obtain rfl : i = 0 := by simpa using hi
    have hE : IRow w.heap.size (w.alloc (.cells #[] 21)) (.slice (some ⟨w.heap.size, 0, none⟩) 0 0) [] := World.ownsRow_lit w #[] 0 (Nat.le_refl _) (by decide) (by simp)
    go_enter Tryd.func82, Tryd.ntmps82
    go_wp2_with (at_builtin; first | refine wpList_irow_none _ rfl _ _ rfl w.heap.size _ [] rfl hE rfl ?_ | refine wpList_irow_src _ rfl _ _ rfl w.heap.size _ [] [x] rfl (hE.alloc _) ⟨w.heap.size + 1, 0, none⟩ 1 rfl ?_ (by simp) (by simp; omega) ?_)
    · intro j hj
      obtain rfl : j = 0 := by simpa using hj
      simp [Addr.add]
    intro ao cap w2 hR2 hB2
    have hb : Below w.heap.size w w2 := (((Below.refl _ _).alloc (Nat.le_refl _) _).alloc (by simp) _).trans hB2
    clear hB2
    go_wp2_with (at_builtin; refine wpList_irow_none _ rfl _ _ rfl w.heap.size _ _ rfl hR2 rfl ?_)
    go_ret
    exact ⟨_, _, rfl, hR2, hb⟩
  · have hgl : g < w.heap.size := (Array.getElem?_eq_some_iff.1 hg).1
    have hcell : ∀ j (hj : j < l.length), w.cell? ⟨g, j, none⟩ = some (.int .i32 l[j]) := by
      intro j hj
      have := hR.cells (g := g) rfl j (.int .i32 l[j]) (by simp [hj])
      rwa [Addr.add_lit, Nat.zero_add] at this
    have hE : IRow w.heap.size (w.alloc (.cells #[] 21)) (.slice (some ⟨w.heap.size, 0, none⟩) 0 0) [] := World.ownsRow_lit w #[] 0 (Nat.le_refl _) (by decide) (by simp)
    have hbE : Below w.heap.size w (w.alloc (.cells #[] 21)) := (Below.refl _ _).alloc (Nat.le_refl _) _
    have htl : (l.take i).length = i := by simp; omega
    have hdl : (l.drop i).length = l.length - i := by simp
    have HC := Lib.hid hcell
    clear hR hg hcs htake hcell
    go_enter Tryd.func82, Tryd.ntmps82
    go_wp2_with (at_builtin; refine wpList_irow_src _ rfl _ _ rfl w.heap.size _ [] (l.take i) rfl hE ⟨g, 0, none⟩ cap (by rw [htl]; rfl) ?_ (by simp; omega) hbE.size ?_)
    · intro j hj
      rw [Addr.add_lit, Nat.zero_add]
      have hj' : j < l.length := by rw [htl] at hj; omega
      rw [hbE.cell (p := ⟨g, j, none⟩) hgl, HC.out j hj']
      simp
    intro ao1 cap1 w1 hR1 hB1
    try simp only [htl, List.nil_append, List.length_nil, Nat.zero_add] at hR1
    try simp only [htl, List.length_nil, Nat.zero_add]
    have hb1 := hbE.trans hB1
    clear hB1
    go_wp2_with (at_builtin; refine wpList_irow_src _ rfl _ _ rfl w.heap.size _ (l.take i) [x] rfl (hR1.alloc _) ⟨w1.heap.size, 0, none⟩ 1 rfl ?_ (by rw [htl]; simp; omega) (by have := hb1.size; simp; omega) ?_)
    · intro j hj
      obtain rfl : j = 0 := by simpa using hj
      simp [Addr.add]
    intro ao2 cap2 w2 hR2 hB2
    try simp only [htl] at hR2
    try simp only [htl]
    have hb2 : Below w.heap.size w w2 := (hb1.alloc hb1.size _).trans hB2
    clear hB2 hR1
    by_cases hci : cap = i
    · have hil : l.length = i := by omega
      have hd0 : l.drop i = [] := List.drop_of_length_le (by omega)
      have HP := Lib.hid (show PunyP.put l i x = l.take i ++ [x] by unfold PunyP.put; rw [hd0])
      subst hci
      go_wp2_with (at_builtin; refine wpList_irow_src _ rfl _ _ rfl w.heap.size _ (l.take cap ++ [x]) [] rfl hR2 ⟨g, 0, none⟩ 0 rfl (by intro j hj; simp at hj) (by simp; omega) hb2.size ?_)
      intro ao3 cap3 w3 hR3 hB3
      have hb3 := hb2.trans hB3
      have hR4 : IRow w.heap.size w3 (.slice ao3 (l.length + 1) cap3) (PunyP.put l cap x) := by
        rw [HP.out, hil]
        simpa [htl] using hR3
      have HR4 := Lib.hid hR4
      have e1 : cap + 1 = l.length + 1 := by omega
      clear hR3 hB3 hR4 hR2
      go_wp2
      go_ret
      exact ⟨ao3, cap3, by simp [hil, htl], HR4.out, hb3⟩
    · have hne : ¬ cap - i = 0 := by omega
      have HP := Lib.hid (show PunyP.put l i x = l.take i ++ [x] ++ l.drop i by unfold PunyP.put; simp)
      go_wp2_with (at_builtin; go_loud (refine wpList_irow_src _ rfl _ _ rfl w.heap.size _ (l.take i ++ [x]) (l.drop i) rfl hR2 ⟨g, i, none⟩ (cap - i) (by rw [hdl]; rfl) ?_ (by simp; omega) hb2.size ?_))
      · intro j hj
        have hj' : i + j < l.length := by rw [hdl] at hj; omega
        rw [Addr.add_lit, hb2.cell (p := ⟨g, i + j, none⟩) hgl, HC.out (i + j) hj']
        simp
      intro ao3 cap3 w3 hR3 hB3
      have hb3 := hb2.trans hB3
      have hlen : (l.take i ++ [x]).length + (l.drop i).length = l.length + 1 := by simp; omega
      have hR4 : IRow w.heap.size w3 (.slice ao3 (l.length + 1) cap3) (PunyP.put l i x) := by
        rw [HP.out, show l.length + 1 = i + 1 + (l.length - i) by omega, List.append_assoc]
        exact hR3
      have HR4 := Lib.hid hR4
      have HLen := Lib.hid hlen
      clear hR3 hB3 hR4 hR2 hlen
      go_wp2
      go_ret
      exact ⟨ao3, cap3, by rw [← HLen.out]; first | rfl | simp [htl, hdl], HR4.out, hb3⟩

end Go.Proofs.YtpoopgifikcneaaDoor
