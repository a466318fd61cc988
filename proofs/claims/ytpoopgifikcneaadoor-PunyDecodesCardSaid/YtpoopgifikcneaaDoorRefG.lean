/- What the reference's Decode of package puny's layer returns; the text has at most 60000 bytes. -/
import Derived.Test.YtpoopgifikcneaaDoorRefD
import Derived.Test.YtpoopgifikcneaaDoorRowI
set_option linter.unusedVariables false
set_option linter.unusedSimpArgs false
namespace Go.Proofs.YtpoopgifikcneaaDoor
open Go.RowKit PunyP

def RefDec (s : List UInt8) (w : World) (e : Ending) (w' : World) : Prop :=
  match decP s with
  | some l => ∃ v, e = .returned (.tuple #[v, .int .i64 0]) ∧ IRow w.heap.size w' v l ∧ Below w.heap.size w w'
  | none => e = .returned (.tuple #[.slice none 0 0, .int .i64 2]) ∧ Below w.heap.size w w'
theorem RefDec.good {s : List UInt8} {w w' : World} {v : Value} {l : List Int} (h : decP s = some l) (h1 : IRow w.heap.size w' v l) (h2 : Below w.heap.size w w') : RefDec s w (.returned (.tuple #[v, .int .i64 0])) w' := by
  unfold RefDec; rw [h]; exact ⟨v, rfl, h1, h2⟩
theorem RefDec.bad {s : List UInt8} {w w' : World} (h : decP s = none) (h2 : Below w.heap.size w w') : RefDec s w (.returned (.tuple #[.slice none 0 0, .int .i64 2])) w' := by
  unfold RefDec; rw [h]; exact ⟨rfl, h2⟩

theorem asInts_take (s : ByteArray) (k : Nat) (h : k < s.size) : asInts (s.data.toList.take (k + 1)) = asInts (s.data.toList.take k) ++ [(s[k].toNat : Int)] := by
  rw [take_next s.data.toList k (by simpa using h)]
  simp [asInts]
  rfl
theorem asInts_len (s : List UInt8) : (asInts s).length = s.length := by simp [asInts]

set_option maxHeartbeats 8000000 in
set_option maxRecDepth 100000 in
theorem refDecode_any (s : ByteArray) (w : World) (hs : s.size ≤ 60000) :
    Calls Tryd.prog 36 #[.string s] w (RefDec s.data.toList w) := by
  go_enter Tryd.func36, Tryd.ntmps36
  go_wp2_with fail
  go_loop [4] (fun x => ∃ k : Nat, k ≤ s.size ∧ x = .int .i64 k ∧ Hid (∀ j (h : j < s.data.toList.length), j < k → s.data.toList[j].toNat < 128)) (fun x => s.size - (intOf x).toNat)
  case atStart => exact ⟨0, by omega, rfl, by intro j h h2; omega⟩
  case round =>
    obtain ⟨k, hk, rfl, hall⟩ := hrel
    by_cases hlt : k < s.size
    · have hu := s[k].toNat_lt
      by_cases h128 : 128 ≤ s[k].toNat
      · have e128 : s.data.toList[k]'(by simpa using hlt) = s[k] := by simp; rfl
        have HD := Lib.hid (decode_high s.data.toList k (by simpa using hlt) (by rw [e128]; exact h128))
        clear e128
        go_wp2
        go_ret2
        exact RefDec.bad HD.out (Below.refl _ _)
      · go_wp2
        go_round
        case rel =>
          refine ⟨k + 1, by omega, by go_num, ?_⟩
          intro j h h2
          by_cases hjk : j = k
          · subst hjk
            have : s.data.toList[j] = s[j] := by simp; rfl
            rw [this]; omega
          · exact hall.out j h (by omega)
        case measure => simp [intOf]; omega
    · have hlow : ∀ c ∈ s.data.toList, c.toNat < 128 := by
        intro c hc
        obtain ⟨j, hj, rfl⟩ := List.mem_iff_getElem.1 hc
        exact hall.out j hj (by simp at hj; omega)
      have HLOW := Lib.hid hlow
      clear hlow hall
      have hH := lastH_lt s.data.toList s.data.toList.length
      have hHl : s.data.toList.length = s.size := by simp
      rw [hHl] at hH
      have HDP := Lib.hid (show decP s.data.toList = if 0 < hyphen s.data.toList then decG (s.data.toList.length + 1) (s.data.toList.drop ((hyphen s.data.toList).toNat + 1)) 128 0 72 (asInts (s.data.toList.take (hyphen s.data.toList).toNat)) else decG (s.data.toList.length + 1) s.data.toList 128 0 72 [] by
        unfold decP
        rw [if_neg]
        intro h
        obtain ⟨c, hc, h2⟩ := List.any_eq_true.1 h
        have := HLOW.out c hc
        simp at h2
        omega)
      have hHe : lastH s.data.toList s.size = hyphen s.data.toList := by unfold hyphen; rw [hHl]
      rw [hHe] at hH
      clear hHl hHe
      go_wp2_with fail
      refine (hyphen_any s _ (by omega)).mono ?_
      rintro e w' ⟨rfl, rfl⟩
      by_cases h0 : 0 < hyphen s.data.toList
      case' pos =>
        obtain ⟨H, hHH⟩ : ∃ H : Nat, hyphen s.data.toList = (H : Int) := ⟨(hyphen s.data.toList).toNat, by omega⟩
        rw [hHH] at hH h0
        rw [hHH]
        have HHH := Lib.hid hHH
        clear hHH
        have hd0 : decide (0 < H) = true := decide_eq_true (by omega)
        go_wp2_with fail
        go_loopw [5, 7] (fun x5 x7 wr => ∃ (k : Nat) (ao : Option Addr) (cap : Nat), k ≤ H ∧ x7 = .int .i64 k ∧ x5 = .slice ao k cap ∧ IRow w.heap.size wr (.slice ao k cap) (asInts (s.data.toList.take k)) ∧ Below w.heap.size w wr) (fun _ x7 _ => H - (intOf x7).toNat)
        case atStart => exact ⟨0, none, 0, by omega, rfl, rfl, IRow.nil _ _, Below.refl _ _⟩
        case round =>
          obtain ⟨k, ao, cap, hk, rfl, rfl, hR, hB⟩ := hrel
          go_wp2_with fail
          refine (hyphen_any s _ (by omega)).mono ?_
          rintro e w' ⟨rfl, rfl⟩
          rw [HHH.out]
          by_cases hlt : k < H
          · have hks : k < s.size := by omega
            have HT := Lib.hid (asInts_take s k hks)
            have hu := s[k].toNat_lt
            have hal : (asInts (s.data.toList.take k)).length = k := by simp [asInts]; omega
            go_wp2_with (at_builtin; refine wpList_irow_src _ rfl _ _ rfl w.heap.size _ (asInts (s.data.toList.take k)) [(s[k].toNat : Int)] rfl (hR.alloc _) ⟨_, 0, none⟩ 1 rfl ?_ (by rw [hal]; simp; omega) (by have := hB.size; simp; omega) ?_)
            · intro j hj
              obtain rfl : j = 0 := by simpa using hj
              simp [Addr.add]
            intro ao' cap' w2 hR2 hB2
            rw [← HT.out] at hR2
            try rw [hal] at hR2
            try rw [hal]
            have HR2 := Lib.hid hR2
            have hB3 := (hB.alloc hB.size _).trans hB2
            clear hal hR2 hB2 hR
            go_wp2
            go_roundw
            case rel => exact ⟨k + 1, ao', cap', by omega, by go_num, rfl, HR2.out, hB3⟩
            case measure => simp [intOf]; omega
          · obtain rfl : k = H := by omega
            have HST := Lib.hid (show decG (s.data.toList.length + 1) (s.data.toList.drop (k + 1)) 128 0 72 (asInts (s.data.toList.take k)) = decP s.data.toList by
              have e := HDP.out
              have e2 := HHH.out
              rw [if_pos (by omega), e2] at e
              rw [e]
              simp)
            have hal : (asInts (s.data.toList.take k)).length = k := by simp [asInts]; omega
            obtain ⟨L0, hL0⟩ : ∃ L0, L0 = asInts (s.data.toList.take k) := ⟨_, rfl⟩
            rw [← hL0] at HST hR hal
            have HR := Lib.hid hR
            have HA := Lib.hid hal
            have hBx := hB
            clear hL0 hR hal hlt hd0
            go_wp2_with fail
            refine (hyphen_any s _ (by omega)).mono ?_
            rintro e w' ⟨rfl, rfl⟩
            rw [HHH.out]
            go_wp2_with fail
            go_loopw [5, 6, 8, 9, 10] (fun x5 x6 x8 x9 x10 wr => ∃ (f n i b k : Nat) (l : List Int) (ao : Option Addr) (cap : Nat), x5 = .slice ao l.length cap ∧ x6 = .int .i64 k ∧ x8 = .int .i64 n ∧ x9 = .int .i64 i ∧ x10 = .int .i64 b ∧ n ≤ 1114111 ∧ i ≤ l.length ∧ b ≤ 3000000000000 ∧ k ≤ s.size ∧ l.length ≤ k ∧ s.size - k < f ∧ IRow w.heap.size wr (.slice ao l.length cap) l ∧ Below w.heap.size w wr ∧ Hid (decG f (s.data.toList.drop k) n i b l = decP s.data.toList)) (fun _ x6 _ _ _ _ => s.size - (intOf x6).toNat)
            case atStart => exact ⟨s.data.toList.length + 1, 128, 0, 72, k + 1, L0, ao, cap, by rw [HA.out], by go_num, rfl, rfl, rfl, by omega, Nat.zero_le _, by omega, by omega, by have := HA.out; omega, by simp; omega, by rw [HA.out]; exact HR.out, hBx, HST.out⟩
            case round =>
              obtain ⟨f, n, i, b, k, l, ao, cap, rfl, rfl, rfl, rfl, rfl, hn, hi, hb, hk, hlk, hf, hR, hB, hG⟩ := hrel
              by_cases hr0 : k < s.size
              · obtain ⟨f, rfl⟩ : ∃ g, f = g + 1 := ⟨f - 1, by omega⟩
                obtain ⟨q, m, hqm⟩ : ∃ q m, rd (s.data.toList.drop k) 0 0 1 b = (q, m) := ⟨_, _, rfl⟩
                obtain ⟨hq1, hm1, hm2⟩ := rd_bounds (s.data.toList.drop k) 0 0 1 b
                have hsh := rd_shift (s.data.toList.drop k) i 0 0 1 b (by unfold MOST; omega)
                rw [hqm] at hq1 hm1 hm2 hsh
                rw [Nat.add_zero] at hsh
                have hm1' : m ≤ s.size - k := by simpa using hm1
                have hq1' : q ≤ 1099511627776 := hq1
                have HQ := Lib.hid hqm
                have HSH := Lib.hid hsh
                have hrn : s.data.toList.drop k ≠ [] := by
                  intro e
                  have := congrArg List.length e
                  simp at this
                  omega
                have HNE := Lib.hid hrn
                clear hqm hq1 hm1 hrn hsh
                go_wp2_with fail
                refine (refWeighted_any s k i b _ (by omega) (by omega) (by omega) (by omega)).mono ?_
                rintro e wq ⟨rfl, rfl⟩
                rw [HSH.out]
                by_cases c1 : m = 0 ∨ MOST < i + q
                · have HD := Lib.hid (show decP s.data.toList = none by rw [← hG.out]; exact decG_stop f _ n i b q m l HNE.out HQ.out c1)
                  rw [if_pos c1, endOf_zero]
                  clear c1
                  go_wp2
                  go_ret2
                  exact RefDec.bad HD.out hB
                · rw [if_neg c1]
                  have HC := Lib.hid c1
                  have c1m : m ≠ 0 := fun e => c1 (.inl e)
                  have c1q : i + q ≤ 1099511627776 := by have : ¬ MOST < i + q := fun e => c1 (.inr e); unfold MOST at this; omega
                  clear c1
                  rw [endOf_pos _ _ c1m]
                  have cm : ((k : Int) + (m : Int) == 0) = false := beq_eq_false_iff_ne.2 (by omega)
                  obtain ⟨D, hD⟩ : ∃ D, D = (i + q) / (l.length + 1) := ⟨_, rfl⟩
                  obtain ⟨R, hR0⟩ : ∃ R, R = (i + q) % (l.length + 1) := ⟨_, rfl⟩
                  have hDZ : ((i : Int) + (q : Int)) / ((l.length : Int) + 1) = (D : Int) := by rw [hD, natdiv]; rfl
                  have hRZ : ((i : Int) + (q : Int)) % ((l.length : Int) + 1) = (R : Int) := by rw [hR0, Int.natCast_emod]; rfl
                  have hDb : D ≤ i + q := by rw [hD]; exact Nat.div_le_self _ _
                  have hRb : R < l.length + 1 := by rw [hR0]; exact Nat.mod_lt _ (by omega)
                  have hiq : ((i + q : Nat) : Int) = (i : Int) + (q : Int) := rfl
                  rw [hiq]
                  have HDD := Lib.hid hD
                  have HRR := Lib.hid hR0
                  clear hD hR0 hiq
                  go_wp2_with fail
                  rw [show ((i : Int) + (q : Int) - (i : Int)) = (q : Int) by omega, show ((l.length : Int) + 1) = ((l.length + 1 : Nat) : Int) from rfl]
                  refine (refAdapt_any q (l.length + 1) _ _ (by omega) (by omega) (by omega)).mono ?_
                  rintro e wa ⟨rfl, rfl⟩
                  rcases (show 1114111 < n + D ∨ ¬ 1114111 < n + D by omega) with c3 | c3
                  · have HD := Lib.hid (show decP s.data.toList = none by rw [← hG.out]; exact decG_high f _ n i b q m l HNE.out HQ.out HC.out (.inl (by rw [← HDD.out]; exact c3)))
                    go_wp2
                    go_ret2
                    exact RefDec.bad HD.out hB
                  · go_wp2_with fail
                    refine (scalar_any _ _).mono ?_
                    rintro e wv ⟨rfl, rfl⟩
                    rw [show scalar ((n : Int) + (D : Int)) = scalar (n + D : Nat) from rfl]
                    rcases hsc : scalar (n + D : Nat) with _ | _
                    · have HD := Lib.hid (show decP s.data.toList = none by rw [← hG.out]; exact decG_high f _ n i b q m l HNE.out HQ.out HC.out (.inr (by rw [← HDD.out]; exact hsc)))
                      clear hsc
                      go_wp2
                      go_ret2
                      exact RefDec.bad HD.out hB
                    · have HD := Lib.hid (decG_on f (s.data.toList.drop k) n i b q m l HNE.out HQ.out HC.out (by rw [← HDD.out]; intro h; rcases h with h | h; exact c3 h; rw [hsc] at h; cases h))
                      rw [← HDD.out, ← HRR.out] at HD
                      clear hsc
                      go_wp2_with fail
                      refine (refPut_any w.heap.size _ l R ((n : Int) + (D : Int)) _ hR (by omega) (by omega)).mono ?_
                      rintro e w5 ⟨ao5, cap5, rfl, hR5, hb5⟩
                      have HR5 := Lib.hid (hR5.mono hB.size)
                      have hB5 := hB.trans (hb5.mono hB.size)
                      have hpl := put_length l R ((n : Int) + (D : Int)) (by omega)
                      have had := adapt_le q (l.length + 1) (i == 0)
                      have HPL := Lib.hid hpl
                      have HAD := Lib.hid had
                      have HX := Lib.hid (show (s.data.toList.drop k).drop m = s.data.toList.drop (k + m) by rw [List.drop_drop])
                      have HZ := Lib.hid (show ((i : Int) == 0) = (i == 0) from natbeq i 0)
                      clear hpl had hR5 hb5
                      go_wp2
                      go_roundw
                      case rel => exact ⟨f, n + D, R + 1, adapt q (l.length + 1) (i == 0), k + m, PunyP.put l R ((n : Int) + (D : Int)), ao5, cap5, by rw [HPL.out], by go_num, by go_num, by go_num, by rw [HZ.out], by omega, by rw [HPL.out]; omega, by have := HAD.out; omega, by omega, by rw [HPL.out]; omega, by omega, by rw [HPL.out]; exact HR5.out, hB5, by show _ = _; rw [← HX.out, ← hG.out, HD.out]; rfl⟩
                      case measure => simp [intOf]; omega
              · obtain ⟨f, rfl⟩ : ∃ g, f = g + 1 := ⟨f - 1, by omega⟩
                have HD := Lib.hid (show decP s.data.toList = some l by
                  have e : s.data.toList.drop k = [] := List.drop_of_length_le (by simp; omega)
                  rw [← hG.out, e, decG_done])
                go_wp2
                go_ret2
                exact RefDec.good HD.out hR hB
      case' neg =>
        have hd0 : decide (0 < hyphen s.data.toList) = false := decide_eq_false (by omega)
        have HST := Lib.hid (show decG (s.data.toList.length + 1) s.data.toList 128 0 72 [] = decP s.data.toList by
          have e := HDP.out
          rw [if_neg (by omega)] at e
          rw [e])
        go_wp2_with fail
        go_loopw [5, 6, 8, 9, 10] (fun x5 x6 x8 x9 x10 wr => ∃ (f n i b k : Nat) (l : List Int) (ao : Option Addr) (cap : Nat), x5 = .slice ao l.length cap ∧ x6 = .int .i64 k ∧ x8 = .int .i64 n ∧ x9 = .int .i64 i ∧ x10 = .int .i64 b ∧ n ≤ 1114111 ∧ i ≤ l.length ∧ b ≤ 3000000000000 ∧ k ≤ s.size ∧ l.length ≤ k ∧ s.size - k < f ∧ IRow w.heap.size wr (.slice ao l.length cap) l ∧ Below w.heap.size w wr ∧ Hid (decG f (s.data.toList.drop k) n i b l = decP s.data.toList)) (fun _ x6 _ _ _ _ => s.size - (intOf x6).toNat)
        case atStart => exact ⟨s.data.toList.length + 1, 128, 0, 72, 0, [], none, 0, rfl, rfl, rfl, rfl, rfl, by omega, by simp, by omega, by omega, by simp, by simp, IRow.nil _ _, Below.refl _ _, by show _ = _; rw [List.drop_zero]; exact HST.out⟩
        case round =>
          obtain ⟨f, n, i, b, k, l, ao, cap, rfl, rfl, rfl, rfl, rfl, hn, hi, hb, hk, hlk, hf, hR, hB, hG⟩ := hrel
          by_cases hr0 : k < s.size
          · obtain ⟨f, rfl⟩ : ∃ g, f = g + 1 := ⟨f - 1, by omega⟩
            obtain ⟨q, m, hqm⟩ : ∃ q m, rd (s.data.toList.drop k) 0 0 1 b = (q, m) := ⟨_, _, rfl⟩
            obtain ⟨hq1, hm1, hm2⟩ := rd_bounds (s.data.toList.drop k) 0 0 1 b
            have hsh := rd_shift (s.data.toList.drop k) i 0 0 1 b (by unfold MOST; omega)
            rw [hqm] at hq1 hm1 hm2 hsh
            rw [Nat.add_zero] at hsh
            have hm1' : m ≤ s.size - k := by simpa using hm1
            have hq1' : q ≤ 1099511627776 := hq1
            have HQ := Lib.hid hqm
            have HSH := Lib.hid hsh
            have hrn : s.data.toList.drop k ≠ [] := by
              intro e
              have := congrArg List.length e
              simp at this
              omega
            have HNE := Lib.hid hrn
            clear hqm hq1 hm1 hrn hsh
            go_wp2_with fail
            refine (refWeighted_any s k i b _ (by omega) (by omega) (by omega) (by omega)).mono ?_
            rintro e wq ⟨rfl, rfl⟩
            rw [HSH.out]
            by_cases c1 : m = 0 ∨ MOST < i + q
            · have HD := Lib.hid (show decP s.data.toList = none by rw [← hG.out]; exact decG_stop f _ n i b q m l HNE.out HQ.out c1)
              rw [if_pos c1, endOf_zero]
              clear c1
              go_wp2
              go_ret2
              exact RefDec.bad HD.out hB
            · rw [if_neg c1]
              have HC := Lib.hid c1
              have c1m : m ≠ 0 := fun e => c1 (.inl e)
              have c1q : i + q ≤ 1099511627776 := by have : ¬ MOST < i + q := fun e => c1 (.inr e); unfold MOST at this; omega
              clear c1
              rw [endOf_pos _ _ c1m]
              have cm : ((k : Int) + (m : Int) == 0) = false := beq_eq_false_iff_ne.2 (by omega)
              obtain ⟨D, hD⟩ : ∃ D, D = (i + q) / (l.length + 1) := ⟨_, rfl⟩
              obtain ⟨R, hR0⟩ : ∃ R, R = (i + q) % (l.length + 1) := ⟨_, rfl⟩
              have hDZ : ((i : Int) + (q : Int)) / ((l.length : Int) + 1) = (D : Int) := by rw [hD, natdiv]; rfl
              have hRZ : ((i : Int) + (q : Int)) % ((l.length : Int) + 1) = (R : Int) := by rw [hR0, Int.natCast_emod]; rfl
              have hDb : D ≤ i + q := by rw [hD]; exact Nat.div_le_self _ _
              have hRb : R < l.length + 1 := by rw [hR0]; exact Nat.mod_lt _ (by omega)
              have hiq : ((i + q : Nat) : Int) = (i : Int) + (q : Int) := rfl
              rw [hiq]
              have HDD := Lib.hid hD
              have HRR := Lib.hid hR0
              clear hD hR0 hiq
              go_wp2_with fail
              rw [show ((i : Int) + (q : Int) - (i : Int)) = (q : Int) by omega, show ((l.length : Int) + 1) = ((l.length + 1 : Nat) : Int) from rfl]
              refine (refAdapt_any q (l.length + 1) _ _ (by omega) (by omega) (by omega)).mono ?_
              rintro e wa ⟨rfl, rfl⟩
              rcases (show 1114111 < n + D ∨ ¬ 1114111 < n + D by omega) with c3 | c3
              · have HD := Lib.hid (show decP s.data.toList = none by rw [← hG.out]; exact decG_high f _ n i b q m l HNE.out HQ.out HC.out (.inl (by rw [← HDD.out]; exact c3)))
                go_wp2
                go_ret2
                exact RefDec.bad HD.out hB
              · go_wp2_with fail
                refine (scalar_any _ _).mono ?_
                rintro e wv ⟨rfl, rfl⟩
                rw [show scalar ((n : Int) + (D : Int)) = scalar (n + D : Nat) from rfl]
                rcases hsc : scalar (n + D : Nat) with _ | _
                · have HD := Lib.hid (show decP s.data.toList = none by rw [← hG.out]; exact decG_high f _ n i b q m l HNE.out HQ.out HC.out (.inr (by rw [← HDD.out]; exact hsc)))
                  clear hsc
                  go_wp2
                  go_ret2
                  exact RefDec.bad HD.out hB
                · have HD := Lib.hid (decG_on f (s.data.toList.drop k) n i b q m l HNE.out HQ.out HC.out (by rw [← HDD.out]; intro h; rcases h with h | h; exact c3 h; rw [hsc] at h; cases h))
                  rw [← HDD.out, ← HRR.out] at HD
                  clear hsc
                  go_wp2_with fail
                  refine (refPut_any w.heap.size _ l R ((n : Int) + (D : Int)) _ hR (by omega) (by omega)).mono ?_
                  rintro e w5 ⟨ao5, cap5, rfl, hR5, hb5⟩
                  have HR5 := Lib.hid (hR5.mono hB.size)
                  have hB5 := hB.trans (hb5.mono hB.size)
                  have hpl := put_length l R ((n : Int) + (D : Int)) (by omega)
                  have had := adapt_le q (l.length + 1) (i == 0)
                  have HPL := Lib.hid hpl
                  have HAD := Lib.hid had
                  have HX := Lib.hid (show (s.data.toList.drop k).drop m = s.data.toList.drop (k + m) by rw [List.drop_drop])
                  have HZ := Lib.hid (show ((i : Int) == 0) = (i == 0) from natbeq i 0)
                  clear hpl had hR5 hb5
                  go_wp2
                  go_roundw
                  case rel => exact ⟨f, n + D, R + 1, adapt q (l.length + 1) (i == 0), k + m, PunyP.put l R ((n : Int) + (D : Int)), ao5, cap5, by rw [HPL.out], by go_num, by go_num, by go_num, by rw [HZ.out], by omega, by rw [HPL.out]; omega, by have := HAD.out; omega, by omega, by rw [HPL.out]; omega, by omega, by rw [HPL.out]; exact HR5.out, hB5, by show _ = _; rw [← HX.out, ← hG.out, HD.out]; rfl⟩
                  case measure => simp [intOf]; omega
          · obtain ⟨f, rfl⟩ : ∃ g, f = g + 1 := ⟨f - 1, by omega⟩
            have HD := Lib.hid (show decP s.data.toList = some l by
              have e : s.data.toList.drop k = [] := List.drop_of_length_le (by simp; omega)
              rw [← hG.out, e, decG_done])
            go_wp2
            go_ret2
            exact RefDec.good HD.out hR hB

end Go.Proofs.YtpoopgifikcneaaDoor
