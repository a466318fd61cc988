/- What the reference's least and Encode of package puny's layer return; the list has at most 60 code points. -/
import Derived.Test.YtpoopgifikcneaaDoorRefE
set_option linter.unusedVariables false
set_option linter.unusedSimpArgs false
namespace Go.Proofs.YtpoopgifikcneaaDoor
open Go.RowKit PunyP

def leastR (n : Nat) (l : List Int) : Int := l.foldl (stepL n) 1114112
theorem leastR_take (n : Nat) (l : List Int) (k : Nat) (h : k < l.length) : leastR n (l.take (k + 1)) = stepL n (leastR n (l.take k)) l[k] := by
  unfold leastR; rw [take_next l k h, List.foldl_append]; rfl
theorem leastR_eq (n : Nat) (l : List Int) (hv : ∀ c ∈ l, c ≤ 1114111) (h : below n l < l.length) : leastR n l = leastE n l := by
  obtain ⟨h1, h2, h3⟩ := leastE_mem n l hv h
  obtain ⟨g1, g2, g3⟩ := least_fold n l 1114112
  have e1 := g2 _ h1 h2
  have e2 := hv _ h1
  rcases g3 with g | ⟨g, g'⟩
  · exfalso
    rw [g] at e1
    omega
  · have := h3 _ g g'
    unfold leastR
    omega

set_option maxHeartbeats 1000000 in
set_option maxRecDepth 100000 in
theorem refLeast_any (v : Value) (l : List Int) (n : Nat) (w : World) (hI : Ints .i32 w v l) (hl : l.length ≤ 1000000000) (hr : ∀ c ∈ l, 0 ≤ c ∧ c ≤ 1114111) :
    Calls Tryd.prog 72 #[v, .int .i64 n] w fun e w' => e = .returned (.int .i64 (leastR n l)) ∧ w = w' := by
  obtain ⟨A, c, rfl⟩ := ints_slice hI
  have HR := Lib.hid hr
  have HC := Lib.hid (show ∀ i, i < l.length → ∃ b off, A = some ⟨b, off, none⟩ ∧ w.cell? ⟨b, off + i, none⟩ = some (.int .i32 (l.getD i 0)) by
    intro i hi
    rcases hI with ⟨rfl, _⟩ | ⟨h0, b, off, c', e, hc, hcell⟩
    · simp at hi
    · injection e with e1
      exact ⟨b, off, e1, hcell i hi⟩)
  clear hI hr
  go_enter Tryd.func72, Tryd.ntmps72
  go_wp2
  go_loop [5, 6] (fun x5 x6 => ∃ k : Nat, k ≤ l.length ∧ x6 = .int .i64 k ∧ x5 = .int .i64 (leastR n (l.take k))) (fun _ x6 => l.length - (intOf x6).toNat)
  case atStart => exact ⟨0, by omega, rfl, by simp [leastR]⟩
  case round =>
    obtain ⟨k, hk, rfl, rfl⟩ := hrel
    by_cases hlk : k < l.length
    · obtain ⟨b, off, rfl, hcell⟩ := HC.out k hlk
      have ga : l.getD k 0 = l[k] := by simp [List.getD, hlk]
      rw [ga] at hcell
      have HT := Lib.hid (leastR_take n l k hlk)
      obtain ⟨hr0, hr1⟩ := HR.out l[k] (List.getElem_mem hlk)
      clear ga
      by_cases hcn : (n : Int) ≤ l[k]
      · by_cases hcm : l[k] < leastR n (l.take k)
        · go_wp2
          go_round
          case rel => exact ⟨k + 1, by omega, by go_num, by rw [HT.out, stepL, if_pos hcn, Int.min_eq_right (by omega)]⟩
          case measure => simp [intOf]; omega
        · go_wp2
          go_round
          case rel => exact ⟨k + 1, by omega, by go_num, by rw [HT.out, stepL, if_pos hcn, Int.min_eq_left (by omega)]⟩
          case measure => simp [intOf]; omega
      · go_wp2
        go_round
        case rel => exact ⟨k + 1, by omega, by go_num, by rw [HT.out, stepL, if_neg hcn]⟩
        case measure => simp [intOf]; omega
    · obtain rfl : k = l.length := by omega
      rw [List.take_length]
      go_wp2
      go_ret
      exact ⟨rfl, rfl⟩

theorem byteOf_small (c : Int) (h0 : 0 ≤ c) (h : c < 128) : c = ((UInt8.ofNat c.toNat).toNat : Int) := by
  rw [UInt8.toNat_ofNat']; omega

set_option maxHeartbeats 4000000 in
set_option maxRecDepth 100000 in
theorem refEncode_bad (v : Value) (l : List Int) (w : World) (hl : l.length ≤ 60000) (hI : Ints .i32 w v l) (hbad : (l.any fun c => !Lib.validRune c) = true) :
    Calls Tryd.prog 33 #[v] w fun e w' => e = .returned (.tuple #[.string ⟨#[]⟩, .int .i64 2]) ∧ Below w.heap.size w w' := by
  obtain ⟨n, hn, hns⟩ : ∃ n, n < l.length ∧ scalar (l.getD n 0) = false := by
    obtain ⟨x, hx, hx2⟩ := List.any_eq_true.1 hbad
    obtain ⟨n, hn, rfl⟩ := List.mem_iff_getElem.1 hx
    refine ⟨n, hn, ?_⟩
    have : Lib.validRune l[n] = false := by simpa using hx2
    have ga : l.getD n 0 = l[n] := by simp [List.getD, hn]
    rw [ga]
    exact this
  obtain ⟨A, c, rfl⟩ := ints_slice hI
  have HNS := Lib.hid hns
  have HC := Lib.hid (show ∀ i, i < l.length → ∃ b off, A = some ⟨b, off, none⟩ ∧ w.cell? ⟨b, off + i, none⟩ = some (.int .i32 (l.getD i 0)) by
    intro i hi
    rcases hI with ⟨rfl, _⟩ | ⟨h0, b, off, c', e, hc, hcell⟩
    · simp at hi
    · injection e with e1
      exact ⟨b, off, e1, hcell i hi⟩)
  clear hI hbad hns
  go_enter Tryd.func33, Tryd.ntmps33
  go_wp2_with fail
  go_loopw [4, 5] (fun x4 x5 wr => ∃ (k : Nat) (ao : Option Addr) (cap : Nat), k ≤ n ∧ x5 = .int .i64 k ∧ x4 = .slice ao (basics (l.take k)).length cap ∧ Row w.heap.size wr (.slice ao (basics (l.take k)).length cap) (basics (l.take k)) ∧ Below w.heap.size w wr) (fun _ x5 _ => l.length - (intOf x5).toNat)
  case atStart => exact ⟨0, none, 0, by omega, rfl, rfl, Row.nil _ _, Below.refl _ _⟩
  case round =>
    obtain ⟨k, ao, cap, hk, rfl, rfl, hR, hB⟩ := hrel
    have hlt : k < l.length := by omega
    obtain ⟨b, off, rfl, hcell⟩ := HC.out k hlt
    have hcell2 := cell_later hcell hB
    have ga : l.getD k 0 = l[k] := by simp [List.getD, hlt]
    by_cases hsc : scalar (l.getD k 0) = true
    · have hkn : k ≠ n := by
        rintro rfl
        rw [HNS.out] at hsc
        cases hsc
      rw [ga] at hsc
      have hrange : 0 ≤ l[k] ∧ l[k] ≤ 1114111 := by
        unfold scalar at hsc
        simp at hsc
        omega
      have HS := Lib.hid hsc
      have hbl := basics_len (l.take k)
      have hbl2 : (l.take k).length ≤ k := List.length_take_le _ _
      clear hsc ga hcell
      obtain ⟨hr0, hr1⟩ := hrange
      by_cases hsm : l[k] < 128
      · have HN := Lib.hid (basics_take_small l k hlt hsm)
        go_wp2_with fail
        refine (scalar_any _ _).mono ?_
        rintro e w' ⟨rfl, rfl⟩
        rw [HS.out]
        go_wp2_with (at_builtin; refine wpList_row_one _ rfl _ _ rfl w.heap.size _ (basics (l.take k)) (UInt8.ofNat l[k].toNat) l[k] rfl (hR.alloc _) ⟨wr.heap.size, 0, none⟩ rfl (by simp; try rfl) (byteOf_small _ hr0 hsm) (by omega) (by have := hB.size; simp; omega) ?_)
        intro ao' cap' w2 hR2 hB2
        have hl2 : (basics (l.take k)).length + 1 = (basics (l.take (k + 1))).length := by rw [HN.out]; simp
        rw [← HN.out] at hR2
        rw [hl2] at hR2 ⊢
        have HR2 := Lib.hid hR2
        have hB3 := (hB.alloc hB.size _).trans hB2
        clear hl2 hR2 hB2 hR
        go_wp2
        go_roundw
        case rel => exact ⟨k + 1, ao', cap', by omega, by go_num, rfl, HR2.out, hB3⟩
        case measure => simp [intOf]; omega
      · have HN := Lib.hid (basics_take_big l k hlt hsm)
        go_wp2_with fail
        refine (scalar_any _ _).mono ?_
        rintro e w' ⟨rfl, rfl⟩
        rw [HS.out]
        go_wp2
        go_roundw
        case rel => exact ⟨k + 1, ao, cap, by omega, by go_num, by rw [HN.out], by rw [HN.out]; exact hR, hB⟩
        case measure => simp [intOf]; omega
    · have HS := Lib.hid (show scalar l[k] = false by rw [← ga]; simpa using hsc)
      clear hsc ga hcell
      go_wp2_with fail
      refine (scalar_any _ _).mono ?_
      rintro e w' ⟨rfl, rfl⟩
      rw [HS.out]
      go_wp2
      go_ret2
      exact ⟨rfl, hB⟩

set_option maxHeartbeats 8000000 in
set_option maxRecDepth 100000 in
theorem refEncode_good (v : Value) (l : List Int) (w : World) (hl : l.length ≤ 60000) (hI : Ints .i32 w v l) (hgood : (l.any fun c => !Lib.validRune c) = false) :
    Calls Tryd.prog 33 #[v] w fun e w' => e = .returned (.tuple #[.string ⟨(encode l).toArray⟩, .int .i64 0]) ∧ Below w.heap.size w w' := by
  have hvs : ∀ c ∈ l, scalar c = true := by
    intro x hx
    have h1 := List.any_eq_false.1 hgood x hx
    have h2 : Lib.validRune x = true := by simpa using h1
    exact h2
  have hr : ∀ c ∈ l, 0 ≤ c ∧ c ≤ 1114111 := by
    intro c hc
    have := hvs c hc
    unfold scalar at this
    simp at this
    omega
  have HR := Lib.hid hr
  have HV := Lib.hid hvs
  have HI := Lib.hid hI
  obtain ⟨A, c, rfl⟩ := ints_slice hI
  have HC := Lib.hid (show ∀ i, i < l.length → ∃ b off, A = some ⟨b, off, none⟩ ∧ w.cell? ⟨b, off + i, none⟩ = some (.int .i32 (l.getD i 0)) by
    intro i hi
    rcases hI with ⟨rfl, _⟩ | ⟨h0, b, off, c', e, hc, hcell⟩
    · simp at hi
    · injection e with e1
      exact ⟨b, off, e1, hcell i hi⟩)
  clear hI hgood hr hvs
  go_enter Tryd.func33, Tryd.ntmps33
  go_wp2_with fail
  go_loopw [4, 5] (fun x4 x5 wr => ∃ (k : Nat) (ao : Option Addr) (cap : Nat), k ≤ l.length ∧ x5 = .int .i64 k ∧ x4 = .slice ao (basics (l.take k)).length cap ∧ Row w.heap.size wr (.slice ao (basics (l.take k)).length cap) (basics (l.take k)) ∧ Below w.heap.size w wr) (fun _ x5 _ => l.length - (intOf x5).toNat)
  case atStart => exact ⟨0, none, 0, by omega, rfl, rfl, Row.nil _ _, Below.refl _ _⟩
  case round =>
    obtain ⟨k, ao, cap, hk, rfl, rfl, hR, hB⟩ := hrel
    by_cases hlt : k < l.length
    · obtain ⟨b, off, rfl, hcell⟩ := HC.out k hlt
      have hcell2 := cell_later hcell hB
      have HS := Lib.hid (HV.out l[k] (List.getElem_mem hlt))
      obtain ⟨hr0, hr1⟩ := HR.out l[k] (List.getElem_mem hlt)
      have hbl := basics_len (l.take k)
      have hbl2 : (l.take k).length ≤ k := List.length_take_le _ _
      clear hcell
      by_cases hsm : l[k] < 128
      · have HN := Lib.hid (basics_take_small l k hlt hsm)
        go_wp2_with fail
        refine (scalar_any _ _).mono ?_
        rintro e w' ⟨rfl, rfl⟩
        rw [HS.out]
        go_wp2_with (at_builtin; refine wpList_row_one _ rfl _ _ rfl w.heap.size _ (basics (l.take k)) (UInt8.ofNat l[k].toNat) l[k] rfl (hR.alloc _) ⟨wr.heap.size, 0, none⟩ rfl (by simp; try rfl) (byteOf_small _ hr0 hsm) (by omega) (by have := hB.size; simp; omega) ?_)
        intro ao' cap' w2 hR2 hB2
        have hl2 : (basics (l.take k)).length + 1 = (basics (l.take (k + 1))).length := by rw [HN.out]; simp
        rw [← HN.out] at hR2
        rw [hl2] at hR2 ⊢
        have HR2 := Lib.hid hR2
        have hB3 := (hB.alloc hB.size _).trans hB2
        clear hl2 hR2 hB2 hR
        go_wp2
        go_roundw
        case rel => exact ⟨k + 1, ao', cap', by omega, by go_num, rfl, HR2.out, hB3⟩
        case measure => simp [intOf]; omega
      · have HN := Lib.hid (basics_take_big l k hlt hsm)
        go_wp2_with fail
        refine (scalar_any _ _).mono ?_
        rintro e w' ⟨rfl, rfl⟩
        rw [HS.out]
        go_wp2
        go_roundw
        case rel => exact ⟨k + 1, ao, cap, by omega, by go_num, by rw [HN.out], by rw [HN.out]; exact hR, hB⟩
        case measure => simp [intOf]; omega
    · obtain rfl : k = l.length := by omega
      have hbl := basics_len l
      rw [List.take_length] at hR ⊢
      obtain ⟨bl, hbl0⟩ : ∃ bl, bl = (basics l).length := ⟨_, rfl⟩
      rw [← hbl0] at hR hbl ⊢
      have HBL := Lib.hid hbl0
      clear hbl0
      by_cases hb0 : bl < 1
      case' pos =>
        have hRx : Row w.heap.size wr (.slice ao (head l).length cap) (head l) := by
          have e : basics l = [] := List.eq_nil_of_length_eq_zero (by have := HBL.out; omega)
          have e2 : bl = 0 := by omega
          rw [head, if_pos e]
          rw [e, e2] at hR
          exact hR
        have hRl : bl = (head l).length := by
          have e : basics l = [] := List.eq_nil_of_length_eq_zero (by have := HBL.out; omega)
          rw [head, if_pos e]; simp; omega
        have hBx := hB
        have hbd : decide (0 < bl) = false := decide_eq_false (by omega)
        have HRl := Lib.hid hRl
        clear hB hR hRl
        have hRx' : Row w.heap.size wr (.slice ao bl cap) (head l) := by rw [HRl.out]; exact hRx
        have hxx := HRl.out.symm
        clear hRx
        have hRx := hRx'
        clear hRx'
        go_wp2_with fail
      case' neg =>
        have hp : 0 < bl := by omega
        go_wp2_with (at_builtin; refine wpList_row_one _ rfl _ _ rfl w.heap.size _ (basics l) 45 45 rfl (hR.alloc _) ⟨wr.heap.size, 0, none⟩ rfl (by simp; try rfl) rfl (by have := HBL.out; omega) (by have := hB.size; simp; omega) ?_)
        intro ao cap wr hR2 hB2
        have hRx : Row w.heap.size wr (.slice ao (head l).length cap) (head l) := by
          have e : ¬ basics l = [] := fun e => by have := HBL.out; rw [e] at this; simp at this; omega
          rw [head, if_neg e]
          simpa using hR2
        have hRl : (basics l).length + 1 = (head l).length := by
          have e : ¬ basics l = [] := fun e => by have := HBL.out; rw [e] at this; simp at this; omega
          rw [head, if_neg e]; simp
        have hBx := (hB.alloc hB.size _).trans hB2
        rw [hRl]
        clear hB2 hR2 hR hB hRl
        generalize hxx : (head l).length = hlen at hRx ⊢
        go_wp2_with fail
      all_goals
        have hhl := head_len l
        rw [hxx] at hhl
        clear hb0
        have HXX := Lib.hid hxx
        clear hxx
        go_loopw [4, 7, 8, 9, 10] (fun x4 x7 x8 x9 x10 wr => ∃ (f n : Nat) (s : St) (ao : Option Addr) (cap : Nat), x4 = .slice ao s.out.length cap ∧ x7 = .int .i64 n ∧ x8 = .int .i64 s.d ∧ x9 = .int .i64 s.bias ∧ x10 = .int .i64 s.h ∧ n ≤ 1114112 ∧ s.d ≤ n * 60001 ∧ s.bias ≤ 200000000000 ∧ s.out.length ≤ l.length + 1 + 20 * s.h ∧ s.h ≤ l.length ∧ l.length ≤ s.h + f ∧ Row w.heap.size wr (.slice ao s.out.length cap) s.out ∧ Below w.heap.size w wr ∧ Hid (s.h = below n l) ∧ Hid (encE f l bl n s = encode l)) (fun _ _ _ _ x10 _ => l.length - (intOf x10).toNat)
        case atStart =>
          have hb1 := basics_below l
          have hb2 := below_len 128 l
          have hb3 := HBL.out
          have hb4 := HXX.out
          exact ⟨l.length, 128, ⟨0, 72, bl, head l⟩, ao, cap, by show _ = Value.slice _ (head l).length _; rw [hb4], rfl, rfl, rfl, rfl, by omega, Nat.zero_le _, by simp, by simp; omega, by simp; omega, by simp, by show Row _ _ (.slice _ (head l).length _) (head l); rw [hb4]; exact hRx, hBx, by show bl = _; omega, by show _ = encode l; unfold encode; rw [hb3]⟩
        case round =>
          clear hRx hBx
          obtain ⟨f, n, s, ao, cap, rfl, rfl, rfl, rfl, rfl, hn, hd, hbi, hol, hsh, hf, hR, hB, hBE, hEN⟩ := hrel
          by_cases hlt : s.h < l.length
          · have hlb : below n l < l.length := by rw [← hBE.out]; exact hlt
            obtain ⟨hm1, hm2, hm3⟩ := leastE_mem n l (fun c hc => (HR.out c hc).2) hlb
            obtain ⟨hn1, hn2⟩ := below_next n l (fun c hc => (HR.out c hc).2) hlb
            have hm4 := leastE_le n l
            have HLR := Lib.hid (leastR_eq n l (fun c hc => (HR.out c hc).2) hlb)
            have HN1 := Lib.hid hn1
            have HN2 := Lib.hid hn2
            clear hm1 hm3 hn1 hn2 hlb
            obtain ⟨f, rfl⟩ : ∃ g, f = g + 1 := ⟨f - 1, by omega⟩
            have HS := Lib.hid (fun D t => encE_next f l bl n D s t hlt)
            obtain ⟨M, hM⟩ : ∃ M : Nat, M = (leastE n l).toNat := ⟨_, rfl⟩
            have HMZ := Lib.hid (show leastR n l = (M : Int) by rw [HLR.out]; omega)
            rw [← hM] at HN1 HN2
            have hM1 : n ≤ M := by omega
            have hM2 : M ≤ 1114111 := by omega
            have HM := Lib.hid hM
            have HI2 := Lib.hid (HI.out.below hB)
            have p0 : (0 : Int) ≤ ((M : Int) - n) * ((s.h : Int) + 1) := Int.mul_nonneg (by omega) (by omega)
            have p1 : ((M : Int) - n) * ((s.h : Int) + 1) ≤ ((M : Int) - n) * 60001 := Int.mul_le_mul_of_nonneg_left (by omega) (by omega)
            obtain ⟨D, hD⟩ : ∃ D : Nat, D = s.d + (M - n) * (s.h + 1) := ⟨_, rfl⟩
            have hDZ : (s.d : Int) + ((M : Int) - n) * ((s.h : Int) + 1) = (D : Int) := by
              rw [hD, Int.natCast_add, Int.natCast_mul, Int.ofNat_sub hM1]; rfl
            have hDb : D ≤ M * 60001 := by omega
            have HD := Lib.hid hD
            clear hD hM hm2 hm4
            go_wp2_with fail
            refine (refLeast_any _ l n _ HI2.out (by omega) HR.out).mono ?_
            rintro e w' ⟨rfl, rfl⟩
            rw [HMZ.out]
            go_wp2_with fail
            clear p0 p1 hDZ
            go_loopw [4, 8, 9, 10, 12] (fun x4 x8 x9 x10 x12 wr => ∃ (k : Nat) (t : St) (ao : Option Addr) (cap : Nat), k ≤ l.length ∧ x12 = .int .i64 k ∧ x4 = .slice ao t.out.length cap ∧ x8 = .int .i64 t.d ∧ x9 = .int .i64 t.bias ∧ x10 = .int .i64 t.h ∧ t.d ≤ M * 60001 + k ∧ t.bias ≤ 200000000000 ∧ t.h ≤ s.h + k ∧ t.out.length ≤ l.length + 1 + 20 * t.h ∧ Row w.heap.size wr (.slice ao t.out.length cap) t.out ∧ Below w.heap.size w wr ∧ Hid (t = passE bl M (l.take k) { s with d := D })) (fun _ _ _ _ x12 _ => l.length - (intOf x12).toNat)
            case atStart => exact ⟨0, { s with d := D }, ao, cap, by omega, rfl, rfl, rfl, rfl, rfl, by simp; omega, hbi, by simp, hol, hR, hB, by simp [Hid, passE]⟩
            case round =>
              clear hR hB HI2
              obtain ⟨k, t, ao, cap, hk, rfl, rfl, rfl, rfl, rfl, htd, htb, hth, hto, hR, hB, hT⟩ := hrel
              by_cases hlk : k < l.length
              · obtain ⟨b, off, rfl, hcell⟩ := HC.out k hlk
                have hcell2 := cell_later hcell hB
                clear hcell
                have HT := Lib.hid (passE_take bl M l { s with d := D } k hlk)
                obtain ⟨hr0, hr1⟩ := HR.out l[k] (List.getElem_mem hlk)
                by_cases hc1 : l[k] < (M : Int)
                · have HX := Lib.hid (show stepE bl M t l[k] = { t with d := t.d + 1 } by unfold stepE; rw [if_neg (by omega), if_pos hc1])
                  have hc2 : (l[k] == (M : Int)) = false := beq_eq_false_iff_ne.2 (by omega)
                  go_wp2
                  go_roundw
                  case rel => exact ⟨k + 1, { t with d := t.d + 1 }, ao, cap, by omega, by go_num, rfl, by go_num, rfl, rfl, by simp; omega, htb, by simp; omega, hto, hR, hB, by show _ = _; rw [HT.out, ← hT.out, HX.out]⟩
                  case measure => simp [intOf]; omega
                · by_cases hc3 : l[k] = (M : Int)
                  · have HX := Lib.hid (show stepE bl M t l[k] = ⟨0, adapt t.d (t.h + 1) (t.h == bl), t.h + 1, t.out ++ tell t.d 36 t.bias⟩ by unfold stepE; rw [if_pos hc3])
                    have hc2 : (l[k] == (M : Int)) = true := beq_iff_eq.2 hc3
                    clear hc3
                    have htl := tell_len 15 t.d 36 t.bias (by omega)
                    have hne : tell t.d 36 t.bias ≠ [] := by
                      rw [tell_step]; split <;> simp
                    have HNe := Lib.hid hne
                    have had := adapt_le t.d (t.h + 1) (t.h == bl)
                    clear hne
                    go_wp2_with fail
                    refine (refTell_any t.d t.bias _ (by omega) (by omega)).mono ?_
                    rintro e w3 ⟨ao3, cap3, rfl, hR3, hB3⟩
                    have hR2 := hR.below hB3
                    have hB3' := hB.trans (hB3.mono hB.size)
                    go_wp2_with (at_builtin; refine wpList_row_all _ rfl _ _ rfl w.heap.size _ _ _ t.out _ rfl hR2 rfl hR3 HNe.out (by omega) hB3'.size ?_)
                    intro ao4 cap4 w4 hR4 hB4
                    have hl4 : t.out.length + (tell t.d 36 t.bias).length = (t.out ++ tell t.d 36 t.bias).length := by simp
                    rw [hl4] at hR4 ⊢
                    have HR4 := Lib.hid hR4
                    have hB4' := hB3'.trans hB4
                    have HL4 := Lib.hid hl4
                    clear hR4 hB4 hR3 hB3 hR hR2 hB3' hl4
                    go_wp2_with fail
                    rw [show ((t.h : Int) + 1) = ((t.h + 1 : Nat) : Int) from rfl]
                    refine (refAdapt_any t.d (t.h + 1) _ _ (by omega) (by omega) (by omega)).mono ?_
                    rintro e w5 ⟨rfl, rfl⟩
                    go_wp2
                    go_roundw
                    case rel => exact ⟨k + 1, ⟨0, adapt t.d (t.h + 1) (t.h == bl), t.h + 1, t.out ++ tell t.d 36 t.bias⟩, ao4, cap4, by omega, by go_num, by rw [HL4.out], rfl, by rw [natbeq], by go_num, Nat.zero_le _, by show adapt _ _ _ ≤ _; omega, by show t.h + 1 ≤ _; omega, by show (t.out ++ _).length ≤ _ + 20 * (t.h + 1); rw [← HL4.out]; omega, HR4.out, hB4', by show _ = _; rw [HT.out, ← hT.out, HX.out]⟩
                    case measure => simp [intOf]; omega
                  · have HX := Lib.hid (show stepE bl M t l[k] = t by unfold stepE; rw [if_neg hc3, if_neg hc1])
                    have hc2 : (l[k] == (M : Int)) = false := beq_eq_false_iff_ne.2 hc3
                    clear hc3
                    go_wp2
                    go_roundw
                    case rel => exact ⟨k + 1, t, ao, cap, by omega, by go_num, rfl, rfl, rfl, rfl, by omega, htb, by omega, hto, hR, hB, by show _ = _; rw [HT.out, ← hT.out, HX.out]⟩
                    case measure => simp [intOf]; omega
              · obtain rfl : k = l.length := by omega
                rw [List.take_length] at hT
                have HH := Lib.hid (show t.h = s.h + alike M l by rw [hT.out, passE_h])
                have HB1 := Lib.hid (show t.h = below (M + 1) l by rw [HH.out, HN1.out, hBE.out])
                have htl := below_len (M + 1) l
                have HE := Lib.hid (HS.out D t (by rw [← HM.out]; exact HD.out) (by rw [← HM.out]; exact hT.out))
                go_wp2
                go_roundw
                case rel => exact ⟨f, M + 1, { t with d := t.d + 1 }, ao, cap, rfl, by go_num, by go_num, rfl, rfl, by omega, by show t.d + 1 ≤ _; omega, htb, hto, by have := HB1.out; show t.h ≤ _; omega, by have := HH.out; have := HN2.out; show _ ≤ t.h + f; omega, hR, hB, HB1.out, by show _ = _; rw [← hEN.out, HE.out, ← HM.out]⟩
                case measure => have := HH.out; have := HN2.out; have := HB1.out; simp [intOf]; omega
          · have HD := Lib.hid (encE_done f l bl n s hlt)
            have hcv := hR.text
            go_wp2
            go_ret2
            exact ⟨by rw [← hEN.out, HD.out]; rfl, hB⟩

end Go.Proofs.YtpoopgifikcneaaDoor
