/- What the reference's value and weighted of package puny's layer return; the text has at most 60000 bytes. -/
import Derived.Test.YtpoopgifikcneaaDoorRefE
import Derived.Test.YtpoopgifikcneaaDoorPunyR
set_option linter.unusedVariables false
set_option linter.unusedSimpArgs false
namespace Go.Proofs.YtpoopgifikcneaaDoor.PunyP
theorem rd_mono (l : List UInt8) : ∀ (k i w b : Nat), (rd l k i w b).2 ≠ 0 → i ≤ (rd l k i w b).1 := by
  induction l with
  | nil => intro k i w b h; simp [rd] at h
  | cons c r ih =>
    intro k i w b h
    rcases hv : val c with _ | d
    · rw [rd_none c r k i w b hv] at h; simp at h
    · by_cases h1 : MOST < i + d * w
      · rw [rd_many c r k i w b d hv h1] at h; simp at h
      · by_cases h2 : d < thr ((k + 1) * 36) b
        · rw [rd_end c r k i w b d hv h1 h2]
          show i ≤ i + d * w
          omega
        · by_cases h3 : MOST < w * (36 - thr ((k + 1) * 36) b)
          · rw [rd_big c r k i w b d hv h1 h2 h3] at h; simp at h
          · rw [rd_on c r k i w b d hv h1 h2 h3] at h ⊢
            have := ih _ _ _ _ h
            omega
theorem rd_shift (l : List UInt8) (i : Nat) : ∀ (k j w b : Nat), i ≤ MOST → rd l k (i + j) w b = if (rd l k j w b).2 = 0 ∨ MOST < i + (rd l k j w b).1 then (0, 0) else (i + (rd l k j w b).1, (rd l k j w b).2) := by
  induction l with
  | nil => intro k j w b hi; simp [rd]
  | cons c r ih =>
    intro k j w b hi
    rcases hv : val c with _ | d
    · rw [rd_none c r k _ w b hv, rd_none c r k j w b hv]; simp
    · by_cases h1 : MOST < j + d * w
      · rw [rd_many c r k _ w b d hv (by omega), rd_many c r k j w b d hv h1]; simp
      · by_cases h2 : d < thr ((k + 1) * 36) b
        · rw [rd_end c r k j w b d hv h1 h2]
          by_cases h4 : MOST < i + j + d * w
          · rw [rd_many c r k _ w b d hv h4, if_pos (.inr (by show MOST < i + (j + d * w); omega))]
          · rw [rd_end c r k _ w b d hv h4 h2, if_neg (by show ¬ (k + 1 = 0 ∨ MOST < i + (j + d * w)); omega)]
            show (i + j + d * w, k + 1) = (i + (j + d * w), k + 1)
            rw [Nat.add_assoc]
        · by_cases h3 : MOST < w * (36 - thr ((k + 1) * 36) b)
          · rw [rd_big c r k j w b d hv h1 h2 h3]
            by_cases h4 : MOST < i + j + d * w
            · rw [rd_many c r k _ w b d hv h4]; simp
            · rw [rd_big c r k _ w b d hv h4 h2 h3]; simp
          · rw [rd_on c r k j w b d hv h1 h2 h3]
            by_cases h4 : MOST < i + j + d * w
            · rw [rd_many c r k _ w b d hv h4]
              have hm := rd_mono r (k + 1) (j + d * w) (w * (36 - thr ((k + 1) * 36) b)) b
              by_cases h5 : (rd r (k + 1) (j + d * w) (w * (36 - thr ((k + 1) * 36) b)) b).2 = 0
              · rw [if_pos (.inl h5)]
              · rw [if_pos (.inr (by have := hm h5; omega))]
            · rw [rd_on c r k _ w b d hv h4 h2 h3, Nat.add_assoc, ih _ _ _ _ hi]
end Go.Proofs.YtpoopgifikcneaaDoor.PunyP

namespace Go.Proofs.YtpoopgifikcneaaDoor
open Go.RowKit PunyP

set_option maxHeartbeats 1000000 in
set_option maxRecDepth 100000 in
theorem refValue_any (c : UInt8) (w : World) :
    Calls Tryd.prog 119 #[.int .u8 (c.toNat : Int)] w fun e w' => e = .returned (.int .i64 (valZ c)) ∧ w = w' := by
  have hu := c.toNat_lt
  have cases6 : (97 ≤ c.toNat ∧ c.toNat ≤ 122) ∨ (122 < c.toNat) ∨ (65 ≤ c.toNat ∧ c.toNat ≤ 90) ∨ (90 < c.toNat ∧ c.toNat < 97) ∨ (48 ≤ c.toNat ∧ c.toNat ≤ 57) ∨ (57 < c.toNat ∧ c.toNat < 65) ∨ c.toNat < 48 := by omega
  rcases cases6 with ⟨h1, h2⟩ | h1 | ⟨h1, h2⟩ | ⟨h1, h2⟩ | ⟨h1, h2⟩ | ⟨h1, h2⟩ | h1
  case' inl => have HV := Lib.hid (show valZ c = (c.toNat : Int) - 97 by unfold valZ val; rw [if_pos ⟨h1, h2⟩]; show ((c.toNat - 97 : Nat) : Int) = _; omega)
  case' inr.inl => have HV := Lib.hid (show valZ c = -1 by unfold valZ val; rw [if_neg (by omega), if_neg (by omega), if_neg (by omega)])
  case' inr.inr.inl => have HV := Lib.hid (show valZ c = (c.toNat : Int) - 65 by unfold valZ val; rw [if_neg (by omega), if_pos ⟨h1, h2⟩]; show ((c.toNat - 65 : Nat) : Int) = _; omega)
  case' inr.inr.inr.inl => have HV := Lib.hid (show valZ c = -1 by unfold valZ val; rw [if_neg (by omega), if_neg (by omega), if_neg (by omega)])
  case' inr.inr.inr.inr.inl => have HV := Lib.hid (show valZ c = (c.toNat : Int) - 48 + 26 by unfold valZ val; rw [if_neg (by omega), if_neg (by omega), if_pos ⟨h1, h2⟩]; show ((c.toNat - 22 : Nat) : Int) = _; omega)
  case' inr.inr.inr.inr.inr.inl => have HV := Lib.hid (show valZ c = -1 by unfold valZ val; rw [if_neg (by omega), if_neg (by omega), if_neg (by omega)])
  case' inr.inr.inr.inr.inr.inr => have HV := Lib.hid (show valZ c = -1 by unfold valZ val; rw [if_neg (by omega), if_neg (by omega), if_neg (by omega)])
  all_goals
    go_enter Tryd.func119, Tryd.ntmps119
    go_wp2
    go_ret
    exact ⟨by rw [HV.out]; rfl, rfl⟩

/-- Where a number ends; 0: there is none. -/
def endOf (at_ m : Nat) : Int := if m = 0 then 0 else (at_ : Int) + m
theorem endOf_zero (at_ : Nat) : endOf at_ 0 = 0 := rfl
theorem endOf_pos (at_ m : Nat) (h : m ≠ 0) : endOf at_ m = (at_ : Int) + m := if_neg h

set_option maxHeartbeats 4000000 in
set_option maxRecDepth 100000 in
theorem refWeighted_any (s : ByteArray) (at_ i bias : Nat) (w : World) (hs : s.size ≤ 60000) (hat : at_ ≤ s.size) (hi : i ≤ 1099511627776) (hbias : bias ≤ 10000000000000000) :
    Calls Tryd.prog 81 #[.string s, .int .i64 at_, .int .i64 i, .int .i64 bias] w fun e w' => e = .returned (.tuple #[.int .i64 (rd (s.data.toList.drop at_) 0 i 1 bias).1, .int .i64 (endOf at_ (rd (s.data.toList.drop at_) 0 i 1 bias).2)]) ∧ w = w' := by
  obtain ⟨RR, hRR⟩ : ∃ RR, RR = rd (s.data.toList.drop at_) 0 i 1 bias := ⟨_, rfl⟩
  rw [← hRR]
  go_enter Tryd.func81, Tryd.ntmps81
  go_wp2
  go_loop [1, 2, 10, 11] (fun x1 x2 x10 x11 => ∃ k p a b : Nat, p ≤ s.size ∧ k ≤ 60000 ∧ Hid (p = at_ + k) ∧ x1 = .int .i64 p ∧ x2 = .int .i64 a ∧ x10 = .int .i64 b ∧ x11 = .int .i64 (((k + 1) * 36 : Nat) : Int) ∧ a ≤ 1099511627776 ∧ b ≤ 1099511627776 ∧ Hid (rd (s.data.toList.drop p) k a b bias = RR)) (fun x1 _ _ _ => s.size - (intOf x1).toNat)
  case atStart => exact ⟨0, at_, i, 1, by omega, by omega, rfl, rfl, rfl, rfl, rfl, by omega, by omega, hRR.symm⟩
  case round =>
    obtain ⟨k, p, a, b, hk, hk6, HPP, rfl, rfl, rfl, rfl, ha, hb, hR⟩ := hrel
    clear hRR
    by_cases hlt : p < s.size
    · have HL := Lib.hid (drop_here s p hlt)
      have hu := s[p].toNat_lt
      go_wp2_with fail
      refine (refValue_any _ _).mono ?_
      rintro e w' ⟨rfl, rfl⟩
      rcases hval : val s[p] with _ | d
      · have HZ := Lib.hid (show valZ s[p] = -1 by simp only [valZ, hval])
        have HR := Lib.hid (rd_none s[p] (s.data.toList.drop (p + 1)) k a b bias hval)
        clear hval
        rw [HZ.out]
        go_wp2
        go_ret2
        refine ⟨?_, rfl⟩
        rw [← hR.out, HL.out, HR.out]
        rfl
      · have HZ := Lib.hid (show valZ s[p] = (d : Int) by simp only [valZ, hval])
        have hd36 := val_lt _ _ hval
        have HVL := Lib.hid hval
        clear hval
        rw [HZ.out]
        have p0 : (0 : Int) ≤ (d : Int) * (b : Int) := Int.mul_nonneg (by omega) (by omega)
        have p1 : (d : Int) * (b : Int) ≤ 36 * (b : Int) := Int.mul_le_mul_of_nonneg_right (by omega) (by omega)
        have HPZ := Lib.hid (show ((a + d * b : Nat) : Int) = (a : Int) + (d : Int) * (b : Int) by rw [Int.natCast_add, Int.natCast_mul])
        by_cases c1 : 1099511627776 < (a : Int) + (d : Int) * (b : Int)
        · have HR := Lib.hid (rd_many s[p] (s.data.toList.drop (p + 1)) k a b bias d HVL.out (by have := HPZ.out; unfold MOST; omega))
          go_wp2
          go_ret2
          refine ⟨?_, rfl⟩
          rw [← hR.out, HL.out, HR.out]
          rfl
        · have ht1 := thr_lo ((k + 1) * 36) bias
          have ht2 := thr_hi ((k + 1) * 36) bias
          go_wp2_with fail
          refine (refThreshold_any ((k + 1) * 36) bias _ (by omega) (by omega)).mono ?_
          rintro e w1 ⟨rfl, rfl⟩
          by_cases c2 : d < thr ((k + 1) * 36) bias
          · have HR := Lib.hid (rd_end s[p] (s.data.toList.drop (p + 1)) k a b bias d HVL.out (by have := HPZ.out; unfold MOST; omega) c2)
            go_wp2
            go_ret2
            refine ⟨?_, rfl⟩
            rw [← hR.out, HL.out, HR.out]
            show _ = Ending.returned (.tuple #[.int .i64 ((a + d * b : Nat) : Int), .int .i64 (endOf at_ (k + 1))])
            rw [HPZ.out, endOf_pos _ _ (by omega), show (at_ : Int) + ((k + 1 : Nat) : Int) = (p : Int) + 1 by have := HPP.out; omega]
            rfl
          · have q0 : (0 : Int) ≤ (b : Int) * (36 - (thr ((k + 1) * 36) bias : Int)) := Int.mul_nonneg (by omega) (by omega)
            have q1 : (b : Int) * (36 - (thr ((k + 1) * 36) bias : Int)) ≤ (b : Int) * 36 := Int.mul_le_mul_of_nonneg_left (by omega) (by omega)
            have HQZ := Lib.hid (show ((b * (36 - thr ((k + 1) * 36) bias) : Nat) : Int) = (b : Int) * (36 - (thr ((k + 1) * 36) bias : Int)) by rw [Int.natCast_mul, Int.ofNat_sub (by omega)]; rfl)
            by_cases c3 : 1099511627776 < (b : Int) * (36 - (thr ((k + 1) * 36) bias : Int))
            · have HR := Lib.hid (rd_big s[p] (s.data.toList.drop (p + 1)) k a b bias d HVL.out (by have := HPZ.out; unfold MOST; omega) c2 (by have := HQZ.out; unfold MOST; omega))
              go_wp2
              go_ret2
              refine ⟨?_, rfl⟩
              rw [← hR.out, HL.out, HR.out]
              rfl
            · have HR := Lib.hid (rd_on s[p] (s.data.toList.drop (p + 1)) k a b bias d HVL.out (by have := HPZ.out; unfold MOST; omega) c2 (by have := HQZ.out; unfold MOST; omega))
              go_wp2
              go_round
              case rel =>
                have e1 : a + d * b ≤ 1099511627776 := by have := HPZ.out; omega
                have e2 : b * (36 - thr ((k + 1) * 36) bias) ≤ 1099511627776 := by have := HQZ.out; omega
                have e3 : k + 1 ≤ 60000 := by have := HPP.out; omega
                have e4 : Hid (p + 1 = at_ + (k + 1)) := by have := HPP.out; show _ = _; omega
                have e5 : ((k : Int) + 1) * 36 + 36 = (((k + 1 + 1) * 36 : Nat) : Int) := by omega
                have e6 : Hid (rd (s.data.toList.drop (p + 1)) (k + 1) (a + d * b) (b * (36 - thr ((k + 1) * 36) bias)) bias = RR) := by show _ = _; rw [← hR.out, HL.out, HR.out]
                have e7 := HPZ.out
                have e8 := HQZ.out
                clear HPZ HQZ HR HL hR HZ HVL p0 p1 q0 q1 c1 c3
                refine ⟨k + 1, p + 1, a + d * b, b * (36 - thr ((k + 1) * 36) bias), hlt, e3, e4, rfl, ?_, ?_, ?_, e1, e2, e6⟩
                · rw [e7]
                · rw [e8]
                · rw [← e5]
              case measure => simp [intOf]; omega
    · have HD := Lib.hid (rd_done (s.data.toList.drop p) k a b bias (List.drop_of_length_le (by simp; omega)))
      go_wp2
      go_ret2
      refine ⟨?_, rfl⟩
      rw [← hR.out, HD.out]
      rfl

end Go.Proofs.YtpoopgifikcneaaDoor
