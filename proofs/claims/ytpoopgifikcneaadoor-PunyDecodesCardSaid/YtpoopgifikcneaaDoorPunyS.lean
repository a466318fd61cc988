/- The reference's small functions that the puny laws use: Scalar, Same, hyphen, Small. -/
import Derived.Test.YtpoopgifikcneaaDoorPunyA
import Derived.Test.YtpoopgifikcneaaDoorPunyM
import Derived.Laws.IdiomStrings
import Derived.BigQuiet
import Derived.Deep.QuietTactic
set_option linter.unusedVariables false
set_option linter.unusedSimpArgs false
namespace Go.Proofs.YtpoopgifikcneaaDoor
open Go.RowKit PunyP

theorem Below.drewN {B : Nat} {a w : World} (h : Below B a w) : ∀ n, Below B a (w.drewN n)
  | 0 => h
  | n + 1 => (Below.drewN h n).drew

set_option maxHeartbeats 1000000 in
set_option maxRecDepth 100000 in
theorem scalar_any (c : Int) (w : World) :
    Calls Tryd.prog 71 #[.int .i32 c] w fun e w' => e = .returned (.bool (scalar c)) ∧ w = w' := by
  have hs : scalar c = (decide (0 ≤ c) && decide (c ≤ 1114111) && (decide (c < 55296) || decide (57343 < c))) := by
    unfold scalar
    rw [Bool.eq_iff_iff]
    simp
    omega
  rw [hs]
  by_cases h1 : 0 ≤ c
  · by_cases h2 : c ≤ 1114111
    · by_cases h3 : c < 55296
      · have e1 : decide (0 ≤ c) = true := decide_eq_true h1
        have e2 : decide (c ≤ 1114111) = true := decide_eq_true h2
        have e3 : decide (c < 55296) = true := decide_eq_true h3
        go_enter Tryd.func71, Tryd.ntmps71
        go_wp2
        go_ret
        exact ⟨by simp only [e1, Bool.false_and, Bool.true_and, Bool.and_true, Bool.and_false]; first | rfl | (simp only [e2, Bool.false_and, Bool.true_and, Bool.and_true, Bool.and_false]; first | rfl | (simp only [e3, Bool.true_or, Bool.false_or]; rfl)), rfl⟩
      · have e1 : decide (0 ≤ c) = true := decide_eq_true h1
        have e2 : decide (c ≤ 1114111) = true := decide_eq_true h2
        have e3 : decide (c < 55296) = false := decide_eq_false h3
        go_enter Tryd.func71, Tryd.ntmps71
        go_wp2
        go_ret
        exact ⟨by simp only [e1, Bool.false_and, Bool.true_and, Bool.and_true, Bool.and_false]; first | rfl | (simp only [e2, Bool.false_and, Bool.true_and, Bool.and_true, Bool.and_false]; first | rfl | (simp only [e3, Bool.true_or, Bool.false_or]; rfl)), rfl⟩
    · have e1 : decide (0 ≤ c) = true := decide_eq_true h1
      have e2 : decide (c ≤ 1114111) = false := decide_eq_false h2
      go_enter Tryd.func71, Tryd.ntmps71
      go_wp2
      go_ret
      exact ⟨by simp only [e1, Bool.false_and, Bool.true_and, Bool.and_true, Bool.and_false]; first | rfl | (simp only [e2, Bool.false_and, Bool.true_and, Bool.and_true, Bool.and_false]; first | rfl | (simp only [e3, Bool.true_or, Bool.false_or]; rfl)), rfl⟩
  · have e1 : decide (0 ≤ c) = false := decide_eq_false h1
    go_enter Tryd.func71, Tryd.ntmps71
    go_wp2
    go_ret
    exact ⟨by simp only [e1, Bool.false_and, Bool.true_and, Bool.and_true, Bool.and_false]; first | rfl | (simp only [e2, Bool.false_and, Bool.true_and, Bool.and_true, Bool.and_false]; first | rfl | (simp only [e3, Bool.true_or, Bool.false_or]; rfl)), rfl⟩

set_option maxHeartbeats 1000000 in
set_option maxRecDepth 100000 in
theorem same_any (v1 v2 : Value) (a b : List Int) (w : World) (h1 : Ints .i32 w v1 a) (h2 : Ints .i32 w v2 b) (hl1 : a.length ≤ 1000000000) (hl2 : b.length ≤ 1000000000) :
    Calls Tryd.prog 37 #[v1, v2] w fun e w' => e = .returned (.bool (a == b)) ∧ Below w.heap.size w w' := by
  obtain ⟨A1, c1, rfl⟩ : ∃ A c, v1 = .slice A a.length c := by
    rcases h1 with ⟨rfl, A, c, rfl⟩ | ⟨_, x, off, c, rfl, _, _⟩
    · exact ⟨A, c, rfl⟩
    · exact ⟨_, c, rfl⟩
  obtain ⟨A2, c2, rfl⟩ : ∃ A c, v2 = .slice A b.length c := by
    rcases h2 with ⟨rfl, A, c, rfl⟩ | ⟨_, x, off, c, rfl, _, _⟩
    · exact ⟨A, c, rfl⟩
    · exact ⟨_, c, rfl⟩
  by_cases hne : a.length = b.length
  · have e0 : ((a.length : Int) == (b.length : Int)) = true := beq_iff_eq.2 (by omega)
    have e1 : ((a.length : Int) != (b.length : Int)) = false := bne_eq_false_iff_eq.2 (by omega)
    have HN := Lib.hid hne
    clear hne
    rcases Nat.eq_zero_or_pos a.length with h0 | h0
    · have HE := Lib.hid (show (a == b) = true by
        have t1 := List.eq_nil_of_length_eq_zero h0; have t2 : b = [] := List.eq_nil_of_length_eq_zero (by have := HN.out; omega); subst t1 t2; rfl)
      have H0 := Lib.hid h0
      clear h0 h1 h2
      go_enter Tryd.func37, Tryd.ntmps37
      go_wp2
      repeat (go_quiet (fail); try go_wp2)
      go_loopw [5] (fun x wr => x = .int .i64 0 ∧ Below w.heap.size w wr) (fun x _ => 0)
      case atStart => exact ⟨rfl, by repeat (first | exact Below.refl _ _ | apply Below.drewN | apply Below.drew)⟩
      case round =>
        obtain ⟨rfl, hB⟩ := hrel
        have e3 : ¬ 0 < a.length := by have := H0.out; omega
        go_wp2
        go_ret
        exact ⟨by rw [HE.out]; rfl, hB⟩
    · obtain ⟨x1, o1, hA1, hc1, hcell1⟩ : ∃ x o, A1 = some ⟨x, o, none⟩ ∧ a.length ≤ c1 ∧ ∀ i, i < a.length → w.cell? ⟨x, o + i, none⟩ = some (.int .i32 (a.getD i 0)) := by
        rcases h1 with ⟨rfl, A, c, h⟩ | ⟨_, x, off, c, h, hc, hcell⟩
        · simp at h0
        · injection h with ha _ hb
          exact ⟨x, off, ha, hb ▸ hc, hcell⟩
      obtain ⟨x2, o2, hA2, hc2, hcell2⟩ : ∃ x o, A2 = some ⟨x, o, none⟩ ∧ b.length ≤ c2 ∧ ∀ i, i < b.length → w.cell? ⟨x, o + i, none⟩ = some (.int .i32 (b.getD i 0)) := by
        rcases h2 with ⟨rfl, A, c, h⟩ | ⟨_, x, off, c, h, hc, hcell⟩
        · exact absurd h0 (by rw [HN.out]; simp)
        · injection h with ha _ hb
          exact ⟨x, off, ha, hb ▸ hc, hcell⟩
      subst hA1 hA2
      have HC1 := Lib.hid hcell1
      have HC2 := Lib.hid hcell2
      clear hcell1 hcell2 h1 h2
      go_enter Tryd.func37, Tryd.ntmps37
      go_wp2
      repeat (go_quiet (fail); try go_wp2)
      go_loopw [5] (fun x wr => ∃ k : Nat, k ≤ a.length ∧ x = .int .i64 k ∧ Below w.heap.size w wr ∧ Hid (a.take k = b.take k)) (fun x _ => a.length - (intOf x).toNat)
      case atStart => exact ⟨0, by omega, rfl, by repeat (first | exact Below.refl _ _ | apply Below.drewN | apply Below.drew), rfl⟩
      case round =>
        obtain ⟨k, hk, rfl, hB, hT⟩ := hrel
        have hN2 := HN.out
        by_cases hlt : k < a.length
        · have hlt2 : k < b.length := by have := HN.out; omega
          have d1 := HC1.out k hlt
          have d2 := HC2.out k hlt2
          rw [← hB.cell (World.block_lt_of_cell? w _ d1)] at d1
          rw [← hB.cell (World.block_lt_of_cell? w _ d2)] at d2
          have ga : a.getD k 0 = a[k] := by simp [List.getD, hlt]
          have gb : b.getD k 0 = b[k] := by simp [List.getD, hlt2]
          rw [ga] at d1
          rw [gb] at d2
          by_cases hq : a[k] = b[k]
          · have q0 : (a[k] == b[k]) = true := beq_iff_eq.2 hq
            have q1 : (a[k] != b[k]) = false := bne_eq_false_iff_eq.2 hq
            have HQ := Lib.hid hq
            have HL := Lib.hid hlt
            have HL2 := Lib.hid hlt2
            clear hq ga gb hN2
            go_wp2
            repeat (go_quiet (fail); try go_wp2)
            go_roundw
            case rel =>
              refine ⟨k + 1, by have := HL.out; omega, by go_num, by repeat (first | exact hB | apply Below.drewN | apply Below.drew), ?_⟩
              have := HQ.out
              show _ = _
              rw [take_next a k HL.out, take_next b k HL2.out, hT.out]
              rw [this]
            case measure => have := HL.out; simp [intOf]; omega
          · have q0 : (a[k] == b[k]) = false := beq_eq_false_iff_ne.2 hq
            have q1 : (a[k] != b[k]) = true := bne_iff_ne.2 hq
            have HE := Lib.hid (show (a == b) = false from beq_eq_false_iff_ne.2 (fun h => hq (by subst h; rfl)))
            clear hq ga gb hN2
            go_wp2
            repeat (go_quiet (fail); try go_wp2)
            go_ret
            exact ⟨by rw [HE.out]; rfl, by repeat (first | exact hB | apply Below.drewN | apply Below.drew)⟩
        · have hN3 := hN2
          clear hN2
          have HE := Lib.hid (show (a == b) = true by
            rw [beq_iff_eq]
            have := hT.out
            rwa [List.take_of_length_le (by omega), List.take_of_length_le (by omega)] at this)
          clear hN3
          go_wp2
          go_ret
          exact ⟨by rw [HE.out]; rfl, hB⟩
  · have e0 : ((a.length : Int) == (b.length : Int)) = false := beq_eq_false_iff_ne.2 (by omega)
    have e1 : ((a.length : Int) != (b.length : Int)) = true := bne_iff_ne.2 (by omega)
    have HE := Lib.hid (show (a == b) = false from beq_eq_false_iff_ne.2 (fun h => hne (by subst h; rfl)))
    clear hne
    go_enter Tryd.func37, Tryd.ntmps37
    go_wp2
    repeat (go_quiet (fail); try go_wp2)
    go_ret
    exact ⟨by rw [HE.out]; rfl, by repeat (first | exact Below.refl _ _ | apply Below.drewN | apply Below.drew)⟩

set_option maxHeartbeats 1000000 in
set_option maxRecDepth 100000 in
theorem hyphen_any (s : ByteArray) (w : World) (hs : s.size ≤ 1000000000) :
    Calls Tryd.prog 80 #[.string s] w fun e w' => e = .returned (.int .i64 (hyphen s.data.toList)) ∧ w = w' := by
  go_enter Tryd.func80, Tryd.ntmps80
  go_wp2
  go_loop [3] (fun x => ∃ k : Nat, k ≤ s.size ∧ x = .int .i64 ((k : Int) - 1) ∧ Hid (hyphen s.data.toList = lastH s.data.toList k)) (fun x => (intOf x + 1).toNat)
  case atStart => exact ⟨s.size, Nat.le_refl _, rfl, by show _ = _; unfold hyphen; simp⟩
  case round =>
    obtain ⟨k, hk, rfl, hH⟩ := hrel
    cases k with
    | zero =>
      have e : hyphen s.data.toList = -1 := hH.out
      have HE := Lib.hid e
      clear hH e
      go_wp2
      go_ret
      exact ⟨by rw [HE.out]; rfl, rfl⟩
    | succ k =>
      have hk1 : ((k + 1 : Nat) : Int) - 1 = (k : Int) := by omega
      rw [hk1]
      have hlt : k < s.size := by omega
      have hu := s[k].toNat_lt
      have hsk : s.data.toList[k]? = some s[k] := by
        rw [List.getElem?_eq_getElem (by simpa using hlt)]; simp; rfl
      by_cases h45 : s[k].toNat = 45
      · have e : hyphen s.data.toList = (k : Int) := by
          rw [hH.out]
          unfold lastH
          rw [if_pos (by rw [hsk]; exact congrArg some (UInt8.toNat_inj.1 h45))]
        have HE := Lib.hid e
        clear hH e hsk
        go_wp2
        go_ret
        exact ⟨by rw [HE.out]; rfl, rfl⟩
      · have e : hyphen s.data.toList = lastH s.data.toList k := by
          rw [hH.out]
          conv => lhs; unfold lastH
          rw [if_neg (by rw [hsk]; intro h; injection h with h; exact h45 (by rw [h]; decide))]
        have HE := Lib.hid e
        clear hH e hsk
        go_wp2
        go_round
        case rel => exact ⟨k, by omega, by go_num, HE⟩
        case measure => simp [intOf]

end Go.Proofs.YtpoopgifikcneaaDoor
