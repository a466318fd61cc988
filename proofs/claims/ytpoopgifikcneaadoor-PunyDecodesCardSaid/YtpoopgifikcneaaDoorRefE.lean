/- What the reference's Encode of package puny's layer returns; the list has at most 60000 code points. -/
import Derived.Test.YtpoopgifikcneaaDoorPunyE
import Derived.Test.YtpoopgifikcneaaDoorPunyS
import Derived.Test.YtpoopgifikcneaaDoorRow
set_option linter.unusedVariables false
set_option linter.unusedSimpArgs false
namespace Go.Proofs.YtpoopgifikcneaaDoor
open Go.RowKit PunyP

set_option maxHeartbeats 1000000 in
set_option maxRecDepth 100000 in
theorem refThreshold_any (k bias : Nat) (w : World) (hk : k ≤ 100000000000000000) (hb : bias ≤ 100000000000000000) :
    Calls Tryd.prog 109 #[.int .i64 k, .int .i64 bias] w fun e w' => e = .returned (.int .i64 (thr k bias)) ∧ w = w' := by
  by_cases h1 : k ≤ bias
  · have HT := Lib.hid (show thr k bias = 1 by unfold thr; omega)
    go_enter Tryd.func109, Tryd.ntmps109
    go_wp2
    go_ret
    exact ⟨by rw [HT.out]; rfl, rfl⟩
  · by_cases h2 : bias + 26 ≤ k
    · have HT := Lib.hid (show thr k bias = 26 by unfold thr; omega)
      go_enter Tryd.func109, Tryd.ntmps109
      go_wp2
      go_ret
      exact ⟨by rw [HT.out]; rfl, rfl⟩
    · have HT := Lib.hid (show ((thr k bias : Nat) : Int) = (k : Int) - bias by unfold thr; omega)
      go_enter Tryd.func109, Tryd.ntmps109
      go_wp2
      go_ret
      exact ⟨by rw [HT.out]; rfl, rfl⟩

set_option maxHeartbeats 1000000 in
set_option maxRecDepth 100000 in
theorem refAdapt_any (delta many : Nat) (once : Bool) (w : World) (hd : delta ≤ 1000000000000000) (hm : 1 ≤ many) (hm2 : many ≤ 1000000000) :
    Calls Tryd.prog 74 #[.int .i64 delta, .int .i64 many, .bool once] w fun e w' => e = .returned (.int .i64 (adapt delta many once)) ∧ w = w' := by
  have key : ∀ d0 : Nat, d0 ≤ 1000000000000000 → (0 : Int) ≤ (d0 : Int) / many ∧ (d0 : Int) / many ≤ 1000000000000000 := fun d0 h => by
    have h1 := Nat.div_le_self d0 many
    have h2 := natdiv d0 many
    generalize d0 / many = q at h1 h2
    rw [← h2]
    omega
  cases once with
  | true =>
    obtain ⟨k1, k2⟩ := key (delta / 700) (by omega)
    rw [show ((delta / 700 : Nat) : Int) = (delta : Int) / 700 from by omega] at k1 k2
    have HA := Lib.hid (show adapt delta many true = (adL (delta / 700 + delta / 700 / many) 0).2 + 36 * (adL (delta / 700 + delta / 700 / many) 0).1 / ((adL (delta / 700 + delta / 700 / many) 0).1 + 38) from rfl)
    have HB := Lib.hid (show ((delta / 700 + delta / 700 / many : Nat) : Int) = (delta : Int) / 700 + (delta : Int) / 700 / many from by rw [Int.natCast_add, natdiv, natdiv]; rfl)
    clear key
    go_enter Tryd.func74, Tryd.ntmps74
    go_wp2
    go_loop [7, 8] (fun d k => ∃ a b : Nat, d = .int .i64 a ∧ k = .int .i64 b ∧ b + a ≤ 2000000000000000 ∧ Hid (adL a b = adL (delta / 700 + delta / 700 / many) 0)) (fun d _ => (intOf d).toNat)
    case atStart => exact ⟨delta / 700 + delta / 700 / many, 0, by rw [HB.out], rfl, by have := HB.out; omega, rfl⟩
    case round =>
      obtain ⟨a, b, rfl, rfl, hab, hL⟩ := hrel
      by_cases hlt : 455 < a
      · go_wp2
        go_round
        case rel => exact ⟨a / 35, b + 36, by go_num, by go_num, by omega, by have := hL.out; rw [adL_step, if_pos hlt] at this; exact this⟩
        case measure => simp [intOf]; omega
      · have e := hL.out
        rw [adL_step, if_neg hlt] at e
        have HE := Lib.hid e
        have ha : a ≤ 455 := by omega
        clear e
        have q0 : (0 : Int) ≤ 36 * (a : Int) / ((a : Int) + 38) := Int.ediv_nonneg (by omega) (by omega)
        have q1 : 36 * (a : Int) / ((a : Int) + 38) ≤ 36 * (a : Int) := Int.ediv_le_self _ (by omega)
        go_wp2
        go_ret
        refine ⟨ret_int ?_, rfl⟩
        rw [HA.out, ← HE.out]
        simp
  | false =>
    obtain ⟨k1, k2⟩ := key (delta / 2) (by omega)
    rw [show ((delta / 2 : Nat) : Int) = (delta : Int) / 2 from by omega] at k1 k2
    have HA := Lib.hid (show adapt delta many false = (adL (delta / 2 + delta / 2 / many) 0).2 + 36 * (adL (delta / 2 + delta / 2 / many) 0).1 / ((adL (delta / 2 + delta / 2 / many) 0).1 + 38) from rfl)
    have HB := Lib.hid (show ((delta / 2 + delta / 2 / many : Nat) : Int) = (delta : Int) / 2 + (delta : Int) / 2 / many from by rw [Int.natCast_add, natdiv, natdiv]; rfl)
    clear key
    go_enter Tryd.func74, Tryd.ntmps74
    go_wp2
    go_loop [7, 8] (fun d k => ∃ a b : Nat, d = .int .i64 a ∧ k = .int .i64 b ∧ b + a ≤ 2000000000000000 ∧ Hid (adL a b = adL (delta / 2 + delta / 2 / many) 0)) (fun d _ => (intOf d).toNat)
    case atStart => exact ⟨delta / 2 + delta / 2 / many, 0, by rw [HB.out], rfl, by have := HB.out; omega, rfl⟩
    case round =>
      obtain ⟨a, b, rfl, rfl, hab, hL⟩ := hrel
      by_cases hlt : 455 < a
      · go_wp2
        go_round
        case rel => exact ⟨a / 35, b + 36, by go_num, by go_num, by omega, by have := hL.out; rw [adL_step, if_pos hlt] at this; exact this⟩
        case measure => simp [intOf]; omega
      · have e := hL.out
        rw [adL_step, if_neg hlt] at e
        have HE := Lib.hid e
        have ha : a ≤ 455 := by omega
        clear e
        have q0 : (0 : Int) ≤ 36 * (a : Int) / ((a : Int) + 38) := Int.ediv_nonneg (by omega) (by omega)
        have q1 : 36 * (a : Int) / ((a : Int) + 38) ≤ 36 * (a : Int) := Int.ediv_le_self _ (by omega)
        go_wp2
        go_ret
        refine ⟨ret_int ?_, rfl⟩
        rw [HA.out, ← HE.out]
        simp

set_option maxHeartbeats 1000000 in
set_option maxRecDepth 100000 in
theorem refDigit_any (q : Nat) (w : World) (hq : q < 36) :
    Calls Tryd.prog 110 #[.int .i64 q] w fun e w' => e = .returned (.int .u8 ((dig q).toNat : Int)) ∧ w = w' := by
  by_cases h : q < 26
  · have HD := Lib.hid (show ((dig q).toNat : Int) = 97 + (q : Int) by unfold dig; rw [if_pos h, UInt8.toNat_ofNat']; omega)
    go_enter Tryd.func110, Tryd.ntmps110
    go_wp2
    go_ret
    exact ⟨by rw [HD.out]; rfl, rfl⟩
  · have HD := Lib.hid (show ((dig q).toNat : Int) = 48 + (q : Int) - 26 by unfold dig; rw [if_neg h, UInt8.toNat_ofNat']; omega)
    go_enter Tryd.func110, Tryd.ntmps110
    go_wp2
    go_ret
    exact ⟨by rw [HD.out]; rfl, rfl⟩

set_option maxHeartbeats 1000000 in
set_option maxRecDepth 100000 in
theorem refTell_any (q bias : Nat) (w : World) (hq : q ≤ 100000000000000) (hbias : bias ≤ 10000000000000000) :
    Calls Tryd.prog 73 #[.int .i64 q, .int .i64 bias] w fun e w' => ∃ ao cap, e = .returned (.slice ao (tell q 36 bias).length cap) ∧ Row w.heap.size w' (.slice ao (tell q 36 bias).length cap) (tell q 36 bias) ∧ Below w.heap.size w w' := by
  have htl := tell_len 15 q 36 bias (by omega)
  go_enter Tryd.func73, Tryd.ntmps73
  go_wp2
  go_loopw [0, 5, 6] (fun x v y wr => ∃ a k : Nat, ∃ acc : List UInt8, ∃ ao cap, x = .int .i64 a ∧ y = .int .i64 k ∧ v = .slice ao acc.length cap ∧ a ≤ q ∧ k + 36 * a ≤ 36 + 36 * q ∧ acc.length + (tell a k bias).length ≤ 16 ∧ Row w.heap.size wr (.slice ao acc.length cap) acc ∧ Below w.heap.size w wr ∧ Hid (acc ++ tell a k bias = tell q 36 bias)) (fun x _ _ _ => (intOf x).toNat)
  case atStart => exact ⟨q, 36, [], none, 0, rfl, rfl, rfl, by omega, by omega, by simpa using htl, Row.nil _ _, Below.refl _ _, rfl⟩
  case round =>
    obtain ⟨a, k, acc, ao, cap, rfl, rfl, rfl, h1, h2, h3, hR, hB, hL⟩ := hrel
    have ht1 := thr_lo k bias
    have ht2 := thr_hi k bias
    go_wp2_with fail
    refine (refThreshold_any k bias _ (by omega) (by omega)).mono ?_
    rintro e w' ⟨rfl, rfl⟩
    by_cases hlt : a < thr k bias
    · have hd : a < 36 := by omega
      have HT := Lib.hid (show tell a k bias = [dig a] by rw [tell_step, if_pos hlt])
      have hu := (dig a).toNat_lt
      go_wp2_with fail
      refine (refDigit_any a _ hd).mono ?_
      rintro e w1 ⟨rfl, rfl⟩
      go_wp2_with (at_builtin; refine wpList_row_one _ rfl _ _ rfl w.heap.size _ acc (dig a) _ rfl (hR.alloc _) ⟨wr.heap.size, 0, none⟩ rfl (by simp; try rfl) rfl (by omega) (by have := hB.size; simp; omega) ?_)
      intro ao' cap' w2 hR2 hB2
      have hl2 : acc.length + 1 = (tell q 36 bias).length := by rw [← hL.out, HT.out]; simp
      have hacc : acc ++ [dig a] = tell q 36 bias := by rw [← hL.out, HT.out]
      rw [hacc] at hR2
      rw [hl2] at hR2 ⊢
      have HR2 := Lib.hid hR2
      have hB3 := (hB.alloc hB.size _).trans hB2
      clear hl2 hacc hR2 hB2 hR
      go_wp2
      go_ret
      exact ⟨_, _, rfl, HR2.out, hB3⟩
    · have m0 : (0 : Int) ≤ ((a : Int) - thr k bias) % (36 - thr k bias) := Int.emod_nonneg _ (by omega)
      have m1 : ((a : Int) - thr k bias) % (36 - thr k bias) < 36 - thr k bias := Int.emod_lt_of_pos _ (by omega)
      have d0 : (0 : Int) ≤ ((a : Int) - thr k bias) / (36 - thr k bias) := Int.ediv_nonneg (by omega) (by omega)
      have d1 : ((a : Int) - thr k bias) / (36 - thr k bias) ≤ (a : Int) - thr k bias := Int.ediv_le_self _ (by omega)
      have hm : (a - thr k bias) % (36 - thr k bias) < 36 - thr k bias := Nat.mod_lt _ (by omega)
      have HT := Lib.hid (show tell a k bias = dig (thr k bias + (a - thr k bias) % (36 - thr k bias)) :: tell ((a - thr k bias) / (36 - thr k bias)) (k + 36) bias by rw [tell_step, if_neg hlt])
      have HN := Lib.hid (tell_next a k bias hlt)
      have HQ := Lib.hid (show (((a - thr k bias) / (36 - thr k bias) : Nat) : Int) = ((a : Int) - thr k bias) / (36 - thr k bias) by rw [natdiv, Int.ofNat_sub (by omega), Int.ofNat_sub (by omega)]; rfl)
      have HM := Lib.hid (show ((thr k bias + (a - thr k bias) % (36 - thr k bias) : Nat) : Int) = (thr k bias : Int) + ((a : Int) - thr k bias) % (36 - thr k bias) by rw [Int.natCast_add, Int.natCast_emod, Int.ofNat_sub (by omega), Int.ofNat_sub (by omega)]; rfl)
      obtain ⟨D, hD⟩ : ∃ D, D = thr k bias + (a - thr k bias) % (36 - thr k bias) := ⟨_, rfl⟩
      have hD2 : D < 36 := by omega
      rw [← hD] at HM HT
      clear hD
      have hu := (dig D).toNat_lt
      go_wp2_with fail
      refine (refThreshold_any k bias _ (by omega) (by omega)).mono ?_
      rintro e w' ⟨rfl, rfl⟩
      go_wp2_with fail
      rw [← HM.out]
      refine (refDigit_any D _ hD2).mono ?_
      rintro e w1 ⟨rfl, rfl⟩
      go_wp2_with (at_builtin; refine wpList_row_one _ rfl _ _ rfl w.heap.size _ acc (dig D) _ rfl (hR.alloc _) ⟨wr.heap.size, 0, none⟩ rfl (by simp; try rfl) rfl (by omega) (by have := hB.size; simp; omega) ?_)
      intro ao' cap' w2 hR2 hB2
      have hl2 : acc.length + 1 = (acc ++ [dig D]).length := by simp
      rw [hl2] at hR2 ⊢
      have HR2 := Lib.hid hR2
      have hB3 := (hB.alloc hB.size _).trans hB2
      have HL2 := Lib.hid hl2
      clear hR2 hB2 hR hl2
      go_wp2
      go_roundw
      case rel =>
        refine ⟨(a - thr k bias) / (36 - thr k bias), k + 36, acc ++ [dig D], ao', cap', by rw [HQ.out], by go_num, rfl, ?_, ?_, ?_, HR2.out, hB3, ?_⟩
        · have := HN.out; omega
        · have := HN.out; omega
        · have := HT.out
          rw [this] at h3
          simp at h3 ⊢
          omega
        · show _ = _
          rw [← hL.out, HT.out]
          simp
      case measure =>
        have h1 := HN.out
        have h2 := HQ.out
        simp only [intOf]
        rw [← h2]
        simp
        exact h1

end Go.Proofs.YtpoopgifikcneaaDoor
