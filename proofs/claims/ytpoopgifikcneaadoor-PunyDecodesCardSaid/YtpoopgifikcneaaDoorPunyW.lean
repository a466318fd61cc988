/- What the small functions of package puny return, and what they leave of memory; numbers are bounded so that no sum wraps. -/
import Derived.Test.YtpoopgifikcneaaDoorFail
import Derived.Test.YtpoopgifikcneaaDoorShelf
import Derived.Test.YtpoopgifikcneaaDoorPunyP
import Derived.Lib.Hide
import Derived.Deep.DeepMust
import Derived.Outline
import Derived.WalkLawsBesides
import Derived.WalkSpells
set_option linter.unusedVariables false
namespace Go.Proofs.YtpoopgifikcneaaDoor
open Go.RowKit PunyP

theorem ret_int {k : IntKind} {a b : Int} (h : a = b) : Ending.returned (.int k a) = .returned (.int k b) := by rw [h]

set_option maxHeartbeats 1000000 in
set_option maxRecDepth 100000 in
theorem threshold_any (k bias : Nat) (w : World) (hk : k ≤ 100000000000000000) (hb : bias ≤ 100000000000000000) :
    Calls Tryd.prog 108 #[.int .i64 k, .int .i64 bias] w fun e w' => e = .returned (.int .i64 (thr k bias)) ∧ w = w' := by
  go_enter Tryd.func108, Tryd.ntmps108
  go_wp2
  go_ret
  exact ⟨ret_int (by unfold thr; omega), rfl⟩

theorem adL_small (d : Nat) : ∀ k, (adL d k).1 ≤ 455 ∧ (adL d k).2 ≤ k + d := by
  induction d using Nat.strongRecOn with
  | _ d ih =>
    intro k
    rw [adL_step]
    split
    · have := ih (d / 35) (by omega) (k + 36)
      omega
    · simp; omega

theorem natbeq (a b : Nat) : ((a : Int) == (b : Int)) = (a == b) := by
  rw [Bool.eq_iff_iff, beq_iff_eq, beq_iff_eq]; omega
theorem natdiv (a b : Nat) : ((a / b : Nat) : Int) = (a : Int) / (b : Int) := Int.natCast_ediv a b

set_option maxHeartbeats 1000000 in
set_option maxRecDepth 100000 in
theorem adapt_any (delta many : Nat) (once : Bool) (w : World) (hd : delta ≤ 1000000000000000) (hm : 1 ≤ many) (hm2 : many ≤ 1000000000) :
    Calls Tryd.prog 69 #[.int .i64 delta, .int .i64 many, .bool once] w fun e w' => e = .returned (.int .i64 (adapt delta many once)) ∧ w = w' := by
  have key : ∀ d0 : Nat, d0 ≤ 1000000000000000 → (0 : Int) ≤ (d0 : Int) / many ∧ (d0 : Int) / many ≤ 1000000000000000 := fun d0 h => by
    have h1 := Nat.div_le_self d0 many
    have h2 := natdiv d0 many
    generalize d0 / many = q at h1 h2
    rw [← h2]
    omega
  cases once with
  | true =>
    obtain ⟨k1, k2⟩ := key (delta / 700) (by omega)
    rw [show ((delta / 700 : Nat) : Int) = (delta : Int) / 700 from by omega] at k1 k2
    have HA := Lib.hid (show adapt delta many true = (adL (delta / 700 + delta / 700 / many) 0).2 + 36 * (adL (delta / 700 + delta / 700 / many) 0).1 / ((adL (delta / 700 + delta / 700 / many) 0).1 + 38) from rfl)
    have HB := Lib.hid (show ((delta / 700 + delta / 700 / many : Nat) : Int) = (delta : Int) / 700 + (delta : Int) / 700 / many from by rw [Int.natCast_add, natdiv, natdiv]; rfl)
    clear key
    go_enter Tryd.func69, Tryd.ntmps69
    go_wp2
    go_loop [0, 7] (fun d k => ∃ a b : Nat, d = .int .i64 a ∧ k = .int .i64 b ∧ b + a ≤ 2000000000000000 ∧ Hid (adL a b = adL (delta / 700 + delta / 700 / many) 0)) (fun d _ => (intOf d).toNat)
    case atStart => exact ⟨delta / 700 + delta / 700 / many, 0, by rw [HB.out], rfl, by have := HB.out; omega, rfl⟩
    case round =>
      obtain ⟨a, b, rfl, rfl, hab, hL⟩ := hrel
      by_cases hlt : 455 < a
      · go_wp2
        go_round
        case rel => exact ⟨a / 35, b + 36, by go_num, by go_num, by omega, by have := hL.out; rw [adL_step, if_pos hlt] at this; exact this⟩
        case measure => simp [intOf]; omega
      · have e := hL.out
        rw [adL_step, if_neg hlt] at e
        have HE := Lib.hid e
        have ha : a ≤ 455 := by omega
        clear e
        have q0 : (0 : Int) ≤ 36 * (a : Int) / ((a : Int) + 38) := Int.ediv_nonneg (by omega) (by omega)
        have q1 : 36 * (a : Int) / ((a : Int) + 38) ≤ 36 * (a : Int) := Int.ediv_le_self _ (by omega)
        go_wp2
        go_ret
        refine ⟨ret_int ?_, rfl⟩
        rw [HA.out, ← HE.out]
        simp
  | false =>
    obtain ⟨k1, k2⟩ := key (delta / 2) (by omega)
    rw [show ((delta / 2 : Nat) : Int) = (delta : Int) / 2 from by omega] at k1 k2
    have HA := Lib.hid (show adapt delta many false = (adL (delta / 2 + delta / 2 / many) 0).2 + 36 * (adL (delta / 2 + delta / 2 / many) 0).1 / ((adL (delta / 2 + delta / 2 / many) 0).1 + 38) from rfl)
    have HB := Lib.hid (show ((delta / 2 + delta / 2 / many : Nat) : Int) = (delta : Int) / 2 + (delta : Int) / 2 / many from by rw [Int.natCast_add, natdiv, natdiv]; rfl)
    clear key
    go_enter Tryd.func69, Tryd.ntmps69
    go_wp2
    go_loop [0, 7] (fun d k => ∃ a b : Nat, d = .int .i64 a ∧ k = .int .i64 b ∧ b + a ≤ 2000000000000000 ∧ Hid (adL a b = adL (delta / 2 + delta / 2 / many) 0)) (fun d _ => (intOf d).toNat)
    case atStart => exact ⟨delta / 2 + delta / 2 / many, 0, by rw [HB.out], rfl, by have := HB.out; omega, rfl⟩
    case round =>
      obtain ⟨a, b, rfl, rfl, hab, hL⟩ := hrel
      by_cases hlt : 455 < a
      · go_wp2
        go_round
        case rel => exact ⟨a / 35, b + 36, by go_num, by go_num, by omega, by have := hL.out; rw [adL_step, if_pos hlt] at this; exact this⟩
        case measure => simp [intOf]; omega
      · have e := hL.out
        rw [adL_step, if_neg hlt] at e
        have HE := Lib.hid e
        have ha : a ≤ 455 := by omega
        clear e
        have q0 : (0 : Int) ≤ 36 * (a : Int) / ((a : Int) + 38) := Int.ediv_nonneg (by omega) (by omega)
        have q1 : 36 * (a : Int) / ((a : Int) + 38) ≤ 36 * (a : Int) := Int.ediv_le_self _ (by omega)
        go_wp2
        go_ret
        refine ⟨ret_int ?_, rfl⟩
        rw [HA.out, ← HE.out]
        simp

theorem byteCells_snoc (acc : List UInt8) (c : UInt8) : Lib.byteCells acc ++ [.int .u8 (c.toNat : Int)] = Lib.byteCells (acc ++ [c]) := by simp [Lib.byteCells]
theorem byteCells_app (acc s : List UInt8) : Lib.byteCells acc ++ Lib.strCells ⟨s.toArray⟩ = Lib.byteCells (acc ++ s) := by simp [Lib.byteCells, Lib.strCells]

theorem dig_fin : ∀ x : Fin 36, (⟨#[97, 98, 99, 100, 101, 102, 103, 104, 105, 106, 107, 108, 109, 110, 111, 112, 113, 114, 115, 116, 117, 118, 119, 120, 121, 122, 48, 49, 50, 51, 52, 53, 54, 55, 56, 57]⟩ : ByteArray)[x.val]'(by exact x.isLt) = dig x.val := by decide +kernel
theorem dig_at (x : Nat) (h : x < 36) : (⟨#[97, 98, 99, 100, 101, 102, 103, 104, 105, 106, 107, 108, 109, 110, 111, 112, 113, 114, 115, 116, 117, 118, 119, 120, 121, 122, 48, 49, 50, 51, 52, 53, 54, 55, 56, 57]⟩ : ByteArray)[x]'(by exact h) = dig x := dig_fin ⟨x, h⟩

set_option maxHeartbeats 1000000 in
set_option maxRecDepth 100000 in
theorem number_any (q bias : Nat) (w : World) (hq : q ≤ 100000000000000) (hbias : bias ≤ 10000000000000000) :
    Calls Tryd.prog 68 #[.int .i64 q, .int .i64 bias] w fun e w' => e = .returned (.string ⟨(tell q 36 bias).toArray⟩) ∧ Below w.heap.size w w' := by
  go_enter Tryd.func68, Tryd.ntmps68
  go_wp2
  go_loopw [0, 6] (fun x y wr => ∃ a k : Nat, ∃ acc : List UInt8, x = .int .i64 a ∧ y = .int .i64 k ∧ a + acc.length ≤ q ∧ k + 36 * a ≤ 36 + 36 * q ∧ Lib.IsBuilderF 132 5 w.heap.size w.heap.size (Lib.byteCells acc) wr ∧ Below w.heap.size w wr ∧ Hid (acc ++ tell a k bias = tell q 36 bias)) (fun x _ _ => (intOf x).toNat)
  case atStart => exact ⟨q, 36, [], rfl, rfl, by simp, by omega, Lib.IsBuilderF.of (Lib.fresh_isBuilder _ _ w), (Below.refl _ _).alloc (Nat.le_refl _) _, rfl⟩
  case round =>
    obtain ⟨a, k, acc, rfl, rfl, h1, h2, hb, hB, hL⟩ := hrel
    have ht1 := thr_lo k bias
    have ht2 := thr_hi k bias
    go_wp2_with fail
    refine (threshold_any k bias _ (by omega) (by omega)).mono ?_
    rintro e w' ⟨rfl, rfl⟩
    by_cases hlt : a < thr k bias
    · have hd : a < 36 := by omega
      have HD := Lib.hid (dig_at a hd)
      have HT := Lib.hid (show tell a k bias = [dig a] by rw [tell_step, if_pos hlt])
      go_wp2_with fail
      refine (writeByte_any w.heap.size w.heap.size (Lib.byteCells acc) _ _ hb (by rw [Lib.byteCells_length]; omega) hB.size).mono ?_
      rintro e w1 ⟨rfl, hc1, hB1, _⟩
      rw [HD.out, byteCells_snoc] at hc1
      go_wp2_with fail
      refine (Tryd.Builder_String_any_k w.heap.size w.heap.size (acc ++ [dig a]) _ (.inr hc1) (Nat.le_trans hB.size hB1.size)).mono ?_
      rintro e w2 ⟨rfl, _, hB2, _⟩
      go_wp2
      go_ret
      exact ⟨by rw [← hL.out, HT.out]; rfl, (hB.trans hB1).trans hB2⟩
    · have m0 : (0 : Int) ≤ ((a : Int) - thr k bias) % (36 - thr k bias) := Int.emod_nonneg _ (by omega)
      have m1 : ((a : Int) - thr k bias) % (36 - thr k bias) < 36 - thr k bias := Int.emod_lt_of_pos _ (by omega)
      have d0 : (0 : Int) ≤ ((a : Int) - thr k bias) / (36 - thr k bias) := Int.ediv_nonneg (by omega) (by omega)
      have d1 : ((a : Int) - thr k bias) / (36 - thr k bias) ≤ (a : Int) - thr k bias := Int.ediv_le_self _ (by omega)
      have hm : (a - thr k bias) % (36 - thr k bias) < 36 - thr k bias := Nat.mod_lt _ (by omega)
      have HD := Lib.hid (dig_at (thr k bias + (a - thr k bias) % (36 - thr k bias)) (by omega))
      have HT := Lib.hid (show tell a k bias = dig (thr k bias + (a - thr k bias) % (36 - thr k bias)) :: tell ((a - thr k bias) / (36 - thr k bias)) (k + 36) bias by rw [tell_step, if_neg hlt])
      have HN := Lib.hid (tell_next a k bias hlt)
      have HQ := Lib.hid (show (((a - thr k bias) / (36 - thr k bias) : Nat) : Int) = ((a : Int) - thr k bias) / (36 - thr k bias) by rw [natdiv, Int.ofNat_sub (by omega), Int.ofNat_sub (by omega)]; rfl)
      go_wp2_with fail
      refine (writeByte_any w.heap.size w.heap.size (Lib.byteCells acc) _ _ hb (by rw [Lib.byteCells_length]; omega) hB.size).mono ?_
      rintro e w1 ⟨rfl, hc1, hB1, _⟩
      rw [HD.out, byteCells_snoc] at hc1
      go_wp2
      go_roundw
      case rel =>
        refine ⟨(a - thr k bias) / (36 - thr k bias), k + 36, acc ++ [dig (thr k bias + (a - thr k bias) % (36 - thr k bias))], by rw [HQ.out], by go_num, ?_, ?_, .inr hc1, hB.trans hB1, ?_⟩
        · have := HN.out
          rw [List.length_append]
          simp
          omega
        · have := HN.out
          omega
        · show _ = _
          rw [← hL.out, HT.out]
          simp
      case measure =>
        have h1 := HN.out
        have h2 := HQ.out
        simp only [intOf]
        rw [← h2]
        simp
        exact h1

set_option maxHeartbeats 1000000 in
set_option maxRecDepth 100000 in
theorem wrong_any (w : World) :
    Calls Tryd.prog 63 #[] w fun e w' => ∃ v, e = .returned v ∧ IsFail 2 v w' ∧ Below w.heap.size w w' := by
  go_enter Tryd.func63, Tryd.ntmps63
  go_wp2_with fail
  refine (wrap_errno _ _ _).mono ?_
  rintro e w' ⟨v, rfl, hf, hb⟩
  go_wp2
  go_ret
  exact ⟨_, rfl, hf, hb⟩

set_option maxHeartbeats 1000000 in
set_option maxRecDepth 100000 in
theorem odd_any (c : Int) (w : World) :
    Calls Tryd.prog 60 #[.int .i32 c] w fun e w' => e = .returned (.bool (!Lib.validRune c)) ∧ w = w' := by
  go_enter Tryd.func60, Tryd.ntmps60
  go_wp2_with fail
  refine (Tryd.utf8_ValidRune c _).mono ?_
  rintro e w' ⟨rfl, rfl⟩
  go_wp2
  go_ret
  exact ⟨rfl, rfl⟩

set_option maxHeartbeats 1000000 in
set_option maxRecDepth 100000 in
theorem indexFunc_any (v : Value) (l : List Int) (w : World) (hl : l.length ≤ 1000000000) (hv : Ints .i32 w v l) :
    Calls Tryd.prog 105 #[v, .func (.func 60) #[] #[]] w fun e w' => ∃ i : Int, e = .returned (.int .i64 i) ∧ (0 ≤ i ↔ ∃ c ∈ l, Lib.validRune c = false) ∧ w = w' := by
  rcases hv with ⟨rfl, A, c, rfl⟩ | ⟨h0, b, off, c, rfl, hc, hcell⟩
  · go_enter Tryd.func105, Tryd.ntmps105
    go_wp2
    go_loop [8] (fun i => i = .int .i64 0) (fun _ => 0)
    case atStart => rfl
    case round =>
      subst hrel
      go_wp2
      go_ret
      exact ⟨-1, rfl, by simp, rfl⟩
  · go_enter Tryd.func105, Tryd.ntmps105
    go_wp2
    go_loop [5, 8] (fun _ i => ∃ k : Nat, k ≤ l.length ∧ i = .int .i64 k ∧ ∀ j, j < k → Lib.validRune (l.getD j 0) = true) (fun _ i => l.length - (intOf i).toNat)
    case atStart => exact ⟨0, by omega, rfl, by simp⟩
    case round =>
      obtain ⟨k, hk, rfl, hall⟩ := hrel
      have HA := Lib.hid hall
      clear hall
      by_cases hlt : k < l.length
      · have hck := hcell k hlt
        have HC := Lib.hid hcell
        clear hcell
        go_wp2_with fail
        refine (odd_any _ _).mono ?_
        rintro e w' ⟨rfl, rfl⟩
        by_cases hv : Lib.validRune l[k] = true
        · go_wp2
          go_round
          case rel =>
            refine ⟨k + 1, by omega, by go_num, ?_⟩
            intro j hj
            by_cases hjk : j = k
            · subst hjk; simpa [List.getD, hlt] using hv
            · exact HA.out j (by omega)
          case measure => simp [intOf]; omega
        · have hv' : Lib.validRune l[k] = false := by simpa using hv
          clear hv
          go_wp2
          go_ret
          refine ⟨k, rfl, ?_, rfl⟩
          constructor
          · intro _; exact ⟨l[k], List.getElem_mem hlt, hv'⟩
          · intro _; omega
      · go_wp2
        go_ret
        refine ⟨-1, rfl, ?_, rfl⟩
        simp
        intro x hx
        obtain ⟨j, hj, rfl⟩ := List.mem_iff_getElem.1 hx
        have := HA.out j (by omega)
        simpa [List.getD, hj] using this

set_option maxHeartbeats 1000000 in
set_option maxRecDepth 100000 in
theorem containsFunc_any (v : Value) (l : List Int) (w : World) (hl : l.length ≤ 1000000000) (hv : Ints .i32 w v l) :
    Calls Tryd.prog 62 #[v, .func (.func 60) #[] #[]] w fun e w' => e = .returned (.bool (l.any fun c => !Lib.validRune c)) ∧ w = w' := by
  go_enter Tryd.func62, Tryd.ntmps62
  go_wp2_with fail
  refine (indexFunc_any v l _ hl hv).mono ?_
  rintro e w' ⟨i, rfl, hi, rfl⟩
  have HI := Lib.hid (show (l.any fun c => !Lib.validRune c) = decide (0 ≤ i) by rw [Bool.eq_iff_iff]; simp only [List.any_eq_true, decide_eq_true_eq, hi, Bool.not_eq_true'])
  clear hi
  go_wp2
  go_ret
  refine ⟨?_, rfl⟩
  rw [HI.out]
  rfl

set_option maxHeartbeats 1000000 in
set_option maxRecDepth 100000 in
theorem writeRune_any (B b : Nat) (bs : List Value) (r : Int) (hr0 : -2147483648 ≤ r) (hr1 : r ≤ 2147483647) (w : World) (h : Lib.IsBuilderF 132 5 B b bs w) (hlen : bs.length + 4 ≤ 140737488355328) (hBw : B ≤ w.heap.size) :
    Calls Tryd.prog 64 #[.pointer (some ⟨b, 0, none⟩), .int .i32 r] w fun e w' => ∃ v, e = .returned v ∧ (Lib.BuilderAtF 132 5 B b (.pointer (some ⟨b, 0, none⟩)) (bs ++ Lib.runeCells r) w' ∧ Below B w w' ∧ Lib.OthersKept 5 (some b) w w') := by
  have hk4 := Lib.runeCells_le r
  go_enter Tryd.func64, Tryd.ntmps64
  go_wp2_with (go_at_call 106; refine (copyCheck_any B b bs _ h).mono ?_)
  rintro e w1 ⟨rfl, h1, hb1, hk1⟩
  obtain ⟨hB, v, hbk, hown, hne⟩ := h1
  obtain ⟨ao, cap, rfl⟩ : ∃ ao cap, v = .slice ao bs.length cap := by
    rcases hown.2 with ⟨hv, h0⟩ | ⟨g, cap, cur, fz, hv, _⟩
    · exact ⟨none, 0, by rw [hv, h0]⟩
    · exact ⟨_, _, hv⟩
  have c0 : w1.cell? ⟨b, 0, none⟩ = some (.pointer (some ⟨b, 0, none⟩)) := by rw [Lib.cell_of_heap hbk]; rfl
  have c1 : w1.cell? ⟨b, 1, none⟩ = some (.slice ao bs.length cap) := by rw [Lib.cell_of_heap hbk]; rfl
  go_wp2_with (go_at_call 107; refine (Tryd.utf8_AppendRune_row B _ bs.length bs r hr0 hr1 _ hown hlen (by have := hb1.size; omega)).mono ?_)
  rintro e w2 ⟨v', rfl, hown', o, hgrow⟩
  have hlt : b < w1.heap.size := by
    rcases Nat.lt_or_ge b w1.heap.size with h' | h'
    · exact h'
    · simp [Array.getElem?_eq_none h'] at hbk
  have hb2 : w2.heap[b]? = some (.cells #[.pointer (some ⟨b, 0, none⟩), .slice ao bs.length cap] 132 (0, 0)) := by
    rw [hgrow.block b (by simp; omega) (fun e => hne e.symm), Lib.alloc_old w1 _ b hlt]
    exact hbk
  have d0 : w2.cell? ⟨b, 0, none⟩ = some (.pointer (some ⟨b, 0, none⟩)) := by rw [Lib.cell_of_heap hb2]; rfl
  have d1 : w2.cell? ⟨b, 1, none⟩ = some (.slice ao bs.length cap) := by rw [Lib.cell_of_heap hb2]; rfl
  have f1 : w2.frozen? ⟨b, 1, none⟩ = false := Lib.frozen_of_heap hb2 1
  obtain ⟨g, cap', rfl⟩ : ∃ g cap', v' = .slice (some ⟨g, 0, none⟩) (bs.length + (Lib.runeCells r).length) cap' := by
    rcases hown'.2 with ⟨_, h0⟩ | ⟨g, cap', cur, fz, hv, _⟩
    · omega
    · exact ⟨g, cap', hv⟩
  go_wp2
  go_ret2
  refine ⟨_, rfl, ?_, ?_, ((hk1.alloc _).grown hgrow (Lib.ownsRowF_kind (hown.alloc _))).setCell ⟨b, 1, none⟩ rfl _⟩
  · exact Lib.BuilderAtF.put (T := 132) (e := 5) hB hb2 (bs' := bs ++ Lib.runeCells r) (by simpa using hown') (by decide)
  · exact ((hb1.alloc (by have := hb1.size; omega) _).grown hgrow (by have := hb1.size; simp; omega) (fun k hk => (hown.lt k hk).1)).setCell (p := ⟨b, 1, none⟩) hB _

/-- A rune below 128 is one byte. -/
theorem runeCells_ascii (r : Int) (h0 : 0 ≤ r) (h : r < 128) : Lib.runeCells r = Lib.byteCells [UInt8.ofNat r.toNat] := by
  unfold Lib.runeCells Lib.byteCells
  rw [Lib.encodeRuneZ_one (by omega) (by omega)]
  simp
  omega
theorem byteCells_two (a b : List UInt8) : Lib.byteCells a ++ Lib.byteCells b = Lib.byteCells (a ++ b) := by simp [Lib.byteCells]

end Go.Proofs.YtpoopgifikcneaaDoor
