/- gatepostlaw04's own little trial returns true; no conditions. -/
import Derived.Test.YtpoopgifikcneaaDoorPunyE
import Derived.Test.YtpoopgifikcneaaDoorPunyD
import Derived.Test.YtpoopgifikcneaaDoorErrs
import Derived.Laws.Cover4
import Derived.WideLaws
set_option linter.unusedVariables false
set_option linter.unusedSimpArgs false
namespace Go.Proofs.YtpoopgifikcneaaDoor
open Go.RowKit PunyP

theorem own_ints {k : IntKind} {B : Nat} {e : TypeId} {v : Value} {l : List Int} {w : World} (h : w.ownsRow B e 1 v l.length (l.map (Value.int k))) : Ints k w v l := by
  rcases h.2 with ⟨hv, h0⟩ | ⟨g, cap, cur, hv, _, hg, hnc, _, hcs, htake⟩
  · exact .inl ⟨List.length_eq_zero_iff.1 h0, none, 0, by rw [hv]⟩
  · rcases Nat.eq_zero_or_pos l.length with h0 | h0
    · exact .inl ⟨List.length_eq_zero_iff.1 h0, some ⟨g, 0, none⟩, cap, by rw [hv, h0]⟩
    · refine .inr ⟨h0, g, 0, cap, hv, hnc, fun i hi => ?_⟩
      have := h.cells (g := g) (by rw [hv]; rfl) i (.int k (l.getD i 0)) (by simp [List.getD, hi])
      rwa [Addr.add_lit] at this

theorem conv_runes {w : World} {v : Value} {l : List Int} (h : Ints .i32 w v l) : (convert 71 9 v).run Tryd.prog w = .ok (.string (runesBytes l)) w := by
  rcases h with ⟨rfl, A, c, rfl⟩ | ⟨h0, b, off, c, rfl, hc, hcell⟩
  · cases A with
    | none => exact run_convert_runes_nil w 71 9 21 0 c Tryd.underlying71 Tryd.underlying21 Tryd.underlying9
    | some a => exact run_convert_runes w 71 9 21 a 0 c [] (by simp) Tryd.underlying71 Tryd.underlying21 Tryd.underlying9 (fun j hj => by simp at hj)
  · have := run_convert_runes w 71 9 21 ⟨b, off, none⟩ l.length c l (Nat.le_refl _) Tryd.underlying71 Tryd.underlying21 Tryd.underlying9 (fun j hj => by rw [Addr.add_lit]; exact hcell j hj)
    rwa [List.take_length] at this

theorem enc_awake : encode [98, 252, 99, 104, 101, 114] = [98, 99, 104, 101, 114, 45, 107, 118, 97] := by decide +kernel
theorem dec_awake : decP [109, 110, 99, 104, 101, 110, 45, 51, 121, 97] = some [109, 252, 110, 99, 104, 101, 110] := by decide +kernel
theorem dec_awake2 : decP [97, 45, 33] = none := by decide +kernel
theorem str_awake : runesBytes [109, 252, 110, 99, 104, 101, 110] = ⟨#[109, 195, 188, 110, 99, 104, 101, 110]⟩ := by decide +kernel

set_option maxHeartbeats 4000000 in
set_option maxRecDepth 100000 in
theorem awake_any (w : World) :
    Calls Tryd.prog 31 #[] w fun e w' => e = .returned (.bool true) ∧ Below w.heap.size w w' := by
  go_enter Tryd.func31, Tryd.ntmps31
  go_wp2_with fail
  have hI : Ints .i32 (w.alloc (.cells #[.int .i32 98, .int .i32 252, .int .i32 99, .int .i32 104, .int .i32 101, .int .i32 114] 21)) (.slice (some ⟨w.heap.size, 0, none⟩) 6 6) [98, 252, 99, 104, 101, 114] := by
    refine .inr ⟨by decide, w.heap.size, 0, 6, rfl, by decide, fun i hi => ?_⟩
    rw [Lib.cell_of_heap (heap_alloc_new w _)]
    match i, hi with
    | 0, _ => rfl
    | 1, _ => rfl
    | 2, _ => rfl
    | 3, _ => rfl
    | 4, _ => rfl
    | 5, _ => rfl
  have HI := Lib.hid hI
  clear hI
  refine (encode_good _ [98, 252, 99, 104, 101, 114] _ (by decide) HI.out (by decide)).mono ?_
  rintro e w1 ⟨rfl, hb1⟩
  rw [enc_awake]
  have hB1 := ((Below.refl w.heap.size w).alloc (Nat.le_refl _) _).trans (hb1.mono (by simp))
  clear hb1
  go_wp2_with fail
  refine (decode_any _ _ (by decide)).mono ?_
  rintro e w2 hp
  unfold DecPost at hp
  rw [dec_awake] at hp
  obtain ⟨v2, rfl, hown2, hb2⟩ := hp
  have HI2 := Lib.hid (own_ints hown2)
  have hB2 := hB1.trans (hb2.mono hB1.size)
  clear hb2 hown2
  go_wp2_with fail
  refine (decode_any _ _ (by decide)).mono ?_
  rintro e w3 hp
  unfold DecPost at hp
  rw [dec_awake2] at hp
  obtain ⟨v3, rfl, hf3, hb3⟩ := hp
  have HI3 := Lib.hid (HI2.out.below hb3)
  have hcv := conv_runes HI3.out
  rw [str_awake] at hcv
  have hB3 := hB2.trans (hb3.mono hB2.size)
  obtain ⟨g, cc, rfl, hg⟩ := hf3
  have HF := Lib.hid (IsErr.of_fail (⟨g, cc, rfl, hg⟩ : IsFail 2 _ w3))
  clear hb3 hg
  go_wp2_with fail
  refine (errorsIs_any 1 2 2 _ _ HF.out).mono ?_
  rintro e w4 ⟨rfl, rfl⟩
  go_wp2
  go_ret
  exact ⟨rfl, hB3⟩

end Go.Proofs.YtpoopgifikcneaaDoor
