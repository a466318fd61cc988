/- What puny.read returns; the text has at most 60000 bytes. -/
import Derived.Test.YtpoopgifikcneaaDoorPunyW
import Derived.Test.YtpoopgifikcneaaDoorPunyQ
set_option linter.unusedVariables false
set_option linter.unusedSimpArgs false
namespace Go.Proofs.YtpoopgifikcneaaDoor
open Go.RowKit PunyP

def DG : List UInt8 := [97, 98, 99, 100, 101, 102, 103, 104, 105, 106, 107, 108, 109, 110, 111, 112, 113, 114, 115, 116, 117, 118, 119, 120, 121, 122, 48, 49, 50, 51, 52, 53, 54, 55, 56, 57]
theorem idx_up : ∀ n : Fin 256, 65 ≤ n.val → n.val ≤ 90 → Lib.indexByte DG (n.val + 32).toUInt8 = valZ (UInt8.ofNat n.val) := by decide +kernel
theorem idx_no : ∀ n : Fin 256, ¬ (65 ≤ n.val ∧ n.val ≤ 90) → Lib.indexByte DG n.val.toUInt8 = valZ (UInt8.ofNat n.val) := by decide +kernel
theorem idx_up' (c : UInt8) (h : 65 ≤ c.toNat) (h2 : c.toNat ≤ 90) : Lib.indexByte (⟨#[97, 98, 99, 100, 101, 102, 103, 104, 105, 106, 107, 108, 109, 110, 111, 112, 113, 114, 115, 116, 117, 118, 119, 120, 121, 122, 48, 49, 50, 51, 52, 53, 54, 55, 56, 57]⟩ : ByteArray).data.toList ((c.toNat : Int) + 32).toNat.toUInt8 = valZ c := by
  have := idx_up ⟨c.toNat, c.toNat_lt⟩ h h2
  simp only [UInt8.ofNat_toNat] at this
  rw [← this]
  rfl
theorem idx_no' (c : UInt8) (h : ¬ (65 ≤ c.toNat ∧ c.toNat ≤ 90)) : Lib.indexByte (⟨#[97, 98, 99, 100, 101, 102, 103, 104, 105, 106, 107, 108, 109, 110, 111, 112, 113, 114, 115, 116, 117, 118, 119, 120, 121, 122, 48, 49, 50, 51, 52, 53, 54, 55, 56, 57]⟩ : ByteArray).data.toList (c.toNat : Int).toNat.toUInt8 = valZ c := by
  have := idx_no ⟨c.toNat, c.toNat_lt⟩ h
  simp only [UInt8.ofNat_toNat] at this
  rw [← this, Int.toNat_natCast]
  show Lib.indexByte DG _ = _
  simp
theorem drop_here (s : ByteArray) (k : Nat) (h : k < s.size) : s.data.toList.drop k = s[k] :: s.data.toList.drop (k + 1) := by
  rw [List.drop_eq_getElem_cons (by simpa using h)]; rfl

set_option maxHeartbeats 4000000 in
set_option maxRecDepth 100000 in
theorem read_any (s : ByteArray) (bias : Nat) (w : World) (hs : s.size ≤ 60000) (hbias : bias ≤ 10000000000000000) :
    Calls Tryd.prog 78 #[.string s, .int .i64 bias] w fun e w' => e = .returned (.tuple #[.int .i64 (rd s.data.toList 0 0 1 bias).1, .int .i64 (rd s.data.toList 0 0 1 bias).2]) ∧ w = w' := by
  go_enter Tryd.func78, Tryd.ntmps78
  go_wp2
  go_step3
  go_wp2
  go_step3
  go_wp2_with fail
  go_loop [6, 7, 8] (fun x6 x7 x8 => ∃ k a b : Nat, k ≤ s.size ∧ x8 = .int .i64 k ∧ x6 = .int .i64 a ∧ x7 = .int .i64 b ∧ a ≤ 1099511627776 ∧ b ≤ 1099511627776 ∧ Hid (rd (s.data.toList.drop k) k a b bias = rd s.data.toList 0 0 1 bias)) (fun _ _ x8 => s.size - (intOf x8).toNat)
  case atStart => exact ⟨0, 0, 1, by omega, rfl, rfl, rfl, by omega, by omega, rfl⟩
  case round =>
    obtain ⟨k, a, b, hk, rfl, rfl, rfl, ha, hb, hR⟩ := hrel
    by_cases hlt : k < s.size
    · have HL := Lib.hid (drop_here s k hlt)
      have hu := s[k].toNat_lt
      rcases (show (¬ 65 ≤ s[k].toNat) ∨ (65 ≤ s[k].toNat ∧ ¬ s[k].toNat ≤ 90) ∨ (65 ≤ s[k].toNat ∧ s[k].toNat ≤ 90) by omega) with h65 | ⟨h65, h90⟩ | ⟨h65, h90⟩
      case' inl =>
        have HV := Lib.hid (idx_no' s[k] (by omega))
        go_wp2_with fail
      case' inr.inl =>
        have HV := Lib.hid (idx_no' s[k] (by omega))
        go_wp2_with fail
      case' inr.inr =>
        have HV := Lib.hid (idx_up' s[k] h65 h90)
        go_wp2_with fail
      all_goals
        refine (Tryd.strings_IndexByte _ _ _).mono ?_
        rintro e w' ⟨rfl, rfl⟩
        rw [HV.out]
        clear HV h65
        try clear h90
        rcases hval : val s[k] with _ | d
        · have HZ := Lib.hid (show valZ s[k] = -1 by simp only [valZ, hval])
          have HR := Lib.hid (rd_none s[k] (s.data.toList.drop (k + 1)) k a b bias hval)
          clear hval
          rw [HZ.out]
          go_wp2
          try rw [Exit.noGoto_ret]
          go_ret2
          refine ⟨?_, rfl⟩
          rw [← hR.out, HL.out, HR.out]
          rfl
        · have HZ := Lib.hid (show valZ s[k] = (d : Int) by simp only [valZ, hval])
          have hd36 := val_lt _ _ hval
          have HVL := Lib.hid hval
          clear hval
          rw [HZ.out]
          have p0 : (0 : Int) ≤ (d : Int) * (b : Int) := Int.mul_nonneg (by omega) (by omega)
          have p1 : (d : Int) * (b : Int) ≤ 36 * (b : Int) := Int.mul_le_mul_of_nonneg_right (by omega) (by omega)
          have HPZ := Lib.hid (show ((a + d * b : Nat) : Int) = (a : Int) + (d : Int) * (b : Int) by rw [Int.natCast_add, Int.natCast_mul])
          by_cases c1 : 1099511627776 < (a : Int) + (d : Int) * (b : Int)
          · have HR := Lib.hid (rd_many s[k] (s.data.toList.drop (k + 1)) k a b bias d HVL.out (by have := HPZ.out; unfold MOST; omega))
            go_wp2
            try rw [Exit.noGoto_ret]
            go_ret2
            refine ⟨?_, rfl⟩
            rw [← hR.out, HL.out, HR.out]
            rfl
          · have ht1 := thr_lo ((k + 1) * 36) bias
            have ht2 := thr_hi ((k + 1) * 36) bias
            go_wp2_with fail
            rw [show ((k : Int) + 1) * 36 = (((k + 1) * 36 : Nat) : Int) from by omega]
            refine (threshold_any ((k + 1) * 36) bias _ (by omega) (by omega)).mono ?_
            rintro e w1 ⟨rfl, rfl⟩
            by_cases c2 : d < thr ((k + 1) * 36) bias
            · have HR := Lib.hid (rd_end s[k] (s.data.toList.drop (k + 1)) k a b bias d HVL.out (by have := HPZ.out; unfold MOST; omega) c2)
              go_wp2
              try rw [Exit.noGoto_ret]
              go_ret2
              refine ⟨?_, rfl⟩
              rw [← hR.out, HL.out, HR.out, HPZ.out]
              rfl
            · have q0 : (0 : Int) ≤ (b : Int) * (36 - (thr ((k + 1) * 36) bias : Int)) := Int.mul_nonneg (by omega) (by omega)
              have q1 : (b : Int) * (36 - (thr ((k + 1) * 36) bias : Int)) ≤ (b : Int) * 36 := Int.mul_le_mul_of_nonneg_left (by omega) (by omega)
              have HQZ := Lib.hid (show ((b * (36 - thr ((k + 1) * 36) bias) : Nat) : Int) = (b : Int) * (36 - (thr ((k + 1) * 36) bias : Int)) by rw [Int.natCast_mul, Int.ofNat_sub (by omega)]; rfl)
              by_cases c3 : 1099511627776 < (b : Int) * (36 - (thr ((k + 1) * 36) bias : Int))
              · have HR := Lib.hid (rd_big s[k] (s.data.toList.drop (k + 1)) k a b bias d HVL.out (by have := HPZ.out; unfold MOST; omega) c2 (by have := HQZ.out; unfold MOST; omega))
                go_wp2
                try rw [Exit.noGoto_ret]
                go_ret2
                refine ⟨?_, rfl⟩
                rw [← hR.out, HL.out, HR.out]
                rfl
              · have HR := Lib.hid (rd_on s[k] (s.data.toList.drop (k + 1)) k a b bias d HVL.out (by have := HPZ.out; unfold MOST; omega) c2 (by have := HQZ.out; unfold MOST; omega))
                go_wp2
                go_round
                case rel => exact ⟨k + 1, a + d * b, b * (36 - thr ((k + 1) * 36) bias), by omega, by go_num, by rw [HPZ.out], by rw [HQZ.out], by have := HPZ.out; omega, by have := HQZ.out; omega, by show _ = _; rw [← hR.out, HL.out, HR.out]⟩
                case measure => simp [intOf]; omega
    · have HD := Lib.hid (rd_done (s.data.toList.drop k) k a b bias (List.drop_of_length_le (by simp; omega)))
      go_wp2
      try rw [Exit.noGoto_ret]
      go_ret2
      refine ⟨?_, rfl⟩
      rw [← hR.out, HD.out]
      rfl

end Go.Proofs.YtpoopgifikcneaaDoor
