/- What puny.Encode returns, and what it leaves of memory; the list has at most 60000 numbers. -/
import Derived.Test.YtpoopgifikcneaaDoorPunyW
set_option linter.unusedVariables false
set_option linter.unusedSimpArgs false
namespace Go.Proofs.YtpoopgifikcneaaDoor
open Go.RowKit PunyP

theorem builder_below {T e : TypeId} {B b : Nat} {p : Value} {bs : List Value} {w w' : World} (h : Lib.BuilderAtF T e B b p bs w) (hb : Below w.heap.size w w') : Lib.BuilderAtF T e B b p bs w' := by
  have hlt := h.lt
  obtain ⟨hB, v, hbk, hown, hne⟩ := h
  refine ⟨hB, v, (hb.block b hlt).trans hbk, ⟨hown.1, ?_⟩, hne⟩
  rcases hown.2 with h | ⟨g, cap, cur, fz, hv, hg, hh, r⟩
  · exact .inl h
  · exact .inr ⟨g, cap, cur, fz, hv, hg, (hb.block g (Array.getElem?_eq_some_iff.1 hh).1).trans hh, r⟩
theorem isBuilder_below {T e : TypeId} {B b : Nat} {bs : List Value} {w w' : World} (h : Lib.IsBuilderF T e B b bs w) (hb : Below w.heap.size w w') : Lib.IsBuilderF T e B b bs w' :=
  h.elim (fun x => .inl (builder_below x hb)) (fun x => .inr (builder_below x hb))

theorem ints_slice {k : IntKind} {w : World} {v : Value} {l : List Int} (h : Ints k w v l) : ∃ A c, v = .slice A l.length c := by
  rcases h with ⟨rfl, A, c, rfl⟩ | ⟨h0, b, off, c, rfl, hc, hcell⟩
  · exact ⟨A, c, rfl⟩
  · exact ⟨_, c, rfl⟩

set_option maxHeartbeats 1000000 in
set_option maxRecDepth 100000 in
/-- A list with a number that is no code point. -/
theorem encode_bad (v : Value) (l : List Int) (w : World) (hl : l.length ≤ 60000) (hv : Ints .i32 w v l) (hbad : (l.any fun c => !Lib.validRune c) = true) :
    Calls Tryd.prog 32 #[v] w fun e w' => ∃ x, e = .returned (.tuple #[.string ⟨#[]⟩, x]) ∧ IsFail 2 x w' ∧ Below w.heap.size w w' := by
  obtain ⟨A, c, rfl⟩ := ints_slice hv
  have HV := Lib.hid hv
  clear hv
  have HB := Lib.hid hbad
  clear hbad
  go_enter Tryd.func32, Tryd.ntmps32
  go_wp2_with fail
  refine (containsFunc_any _ l _ (by omega) HV.out).mono ?_
  rintro e w' ⟨rfl, rfl⟩
  rw [HB.out]
  go_wp2_with fail
  refine (wrong_any _).mono ?_
  rintro e w1 ⟨x, rfl, hx, hb⟩
  go_wp2
  go_ret2
  exact ⟨x, rfl, hx, hb⟩

/-- A cell of a slice is there still. -/
theorem cell_later {w w' : World} {a : Addr} {v : Value} (hc : w.cell? a = some v) (hb : Below w.heap.size w w') : w'.cell? a = some v :=
  (hb.cell (World.block_lt_of_cell? w a hc)).trans hc

set_option maxHeartbeats 4000000 in
set_option maxRecDepth 100000 in
theorem encode_long (v : Value) (l : List Int) (w : World) (hl : l.length ≤ 60000) (hv : Ints .i32 w v l) (hgood : (l.any fun c => !Lib.validRune c) = false) :
    Calls Tryd.prog 32 #[v] w fun e w' => e = .returned (.tuple #[.string ⟨(encode l).toArray⟩, .nilIface]) ∧ Below w.heap.size w w' ∧ (encode l).length ≤ l.length + 1 + 20 * l.length := by
  have hr : ∀ c ∈ l, 0 ≤ c ∧ c ≤ 1114111 := by
    intro c hc
    have := List.any_eq_false.1 hgood c hc
    have h2 : Lib.validRune c = true := by simpa using this
    unfold Lib.validRune at h2
    simp at h2
    omega
  have HR := Lib.hid hr
  obtain ⟨A, c, rfl⟩ := ints_slice hv
  have HV := Lib.hid hv
  have HC := Lib.hid (show ∀ i, i < l.length → ∃ b off, A = some ⟨b, off, none⟩ ∧ w.cell? ⟨b, off + i, none⟩ = some (.int .i32 (l.getD i 0)) by
    intro i hi
    rcases hv with ⟨rfl, _⟩ | ⟨h0, b, off, c', e, hc, hcell⟩
    · simp at hi
    · injection e with e1
      exact ⟨b, off, e1, hcell i hi⟩)
  clear hv hr
  have HG := Lib.hid hgood
  clear hgood
  go_enter Tryd.func32, Tryd.ntmps32
  go_wp2_with fail
  refine (containsFunc_any _ l _ (by omega) HV.out).mono ?_
  rintro e w' ⟨rfl, rfl⟩
  rw [HG.out]
  go_wp2_with fail
  go_loopw [29] (fun i wr => ∃ k : Nat, k ≤ l.length ∧ i = .int .i64 k ∧ Lib.IsBuilderF 132 5 w.heap.size w.heap.size (Lib.byteCells (basics (l.take k))) wr ∧ Below w.heap.size w wr) (fun i _ => l.length - (intOf i).toNat)
  case atStart => exact ⟨0, Nat.zero_le _, rfl, Lib.IsBuilderF.of (Lib.fresh_isBuilder _ _ w), (Below.refl _ _).alloc (Nat.le_refl _) _⟩
  case round =>
    obtain ⟨k, hk, rfl, hb, hB⟩ := hrel
    by_cases hlt : k < l.length
    · obtain ⟨b, off, rfl, hcell⟩ := HC.out k hlt
      have hcell2 := cell_later hcell hB
      clear hcell
      have hrk := HR.out l[k] (List.getElem_mem hlt)
      obtain ⟨hr0, hr1⟩ := hrk
      have hbl := basics_len (l.take k)
      have hbl2 : (l.take k).length ≤ k := List.length_take_le _ _
      by_cases hsm : l[k] < 128
      · have HN := Lib.hid (basics_take_small l k hlt hsm)
        go_wp2_with fail
        refine (writeRune_any w.heap.size w.heap.size _ l[k] (by omega) (by omega) _ hb (by rw [Lib.byteCells_length]; omega) hB.size).mono ?_
        rintro e w1 ⟨x, rfl, hc1, hB1, _⟩
        rw [runeCells_ascii _ hr0 hsm, byteCells_two, ← HN.out] at hc1
        go_wp2
        go_roundw
        case rel => exact ⟨k + 1, by omega, by go_num, .inr hc1, hB.trans hB1⟩
        case measure => simp [intOf]; omega
      · have HN := Lib.hid (basics_take_big l k hlt hsm)
        rw [← HN.out] at hb
        go_wp2
        go_roundw
        case rel => exact ⟨k + 1, by omega, by go_num, hb, hB⟩
        case measure => simp [intOf]; omega
    · obtain rfl : k = l.length := by omega
      have hbl := basics_len l
      rw [List.take_length] at hb
      go_wp2_with fail
      refine (Tryd.Builder_Len_f w.heap.size w.heap.size _ _ hb).mono ?_
      rintro e wl ⟨rfl, rfl⟩
      rw [Lib.byteCells_length]
      obtain ⟨bl, hbl0⟩ : ∃ bl, bl = (basics l).length := ⟨_, rfl⟩
      rw [← hbl0]
      have HBL := Lib.hid hbl0
      clear hbl0
      by_cases hb0 : bl < 1
      case' pos =>
        have hbx : Lib.IsBuilderF 132 5 w.heap.size w.heap.size (Lib.byteCells (head l)) wl := by
          have : basics l = [] := List.eq_nil_of_length_eq_zero (by have := HBL.out; omega)
          rw [head, if_pos this]
          rw [this] at hb
          exact hb
        have hBx := hB
        clear hb hB
        have hbd : decide (0 < bl) = false := decide_eq_false (by omega)
        go_wp2_with fail
      case' neg =>
        go_wp2_with fail
        refine (writeByte_any w.heap.size w.heap.size _ _ _ hb (by rw [Lib.byteCells_length]; omega) hB.size).mono ?_
        rintro e w1 ⟨rfl, hc1, hB1, _⟩
        have hbx : Lib.IsBuilderF 132 5 w.heap.size w.heap.size (Lib.byteCells (head l)) w1 := by
          have : ¬ basics l = [] := fun e => by have := HBL.out; rw [e] at this; simp at this; omega
          rw [head, if_neg this, ← byteCells_two]
          exact .inr hc1
        have hBx := hB.trans hB1
        clear hc1 hb hB hB1
        go_wp2_with fail
      all_goals
        have hhl := head_len l
        clear hbl hb0
        go_loopw [9, 10, 11, 12] (fun x9 x10 x11 x12 wr => ∃ (f n : Nat) (s : St), x9 = .int .i64 n ∧ x10 = .int .i64 s.d ∧ x11 = .int .i64 s.bias ∧ x12 = .int .i64 s.h ∧ n ≤ 1114112 ∧ s.d ≤ n * 60001 ∧ s.bias ≤ 200000000000 ∧ s.out.length ≤ l.length + 1 + 20 * s.h ∧ s.h ≤ l.length ∧ l.length ≤ s.h + f ∧ Lib.IsBuilderF 132 5 w.heap.size w.heap.size (Lib.byteCells s.out) wr ∧ Below w.heap.size w wr ∧ Hid (s.h = below n l) ∧ Hid (encE f l bl n s = encode l)) (fun _ _ _ x12 _ => l.length - (intOf x12).toNat)
        case atStart =>
          have hb1 := basics_below l
          have hb2 := below_len 128 l
          have hb3 := HBL.out
          exact ⟨l.length, 128, ⟨0, 72, bl, head l⟩, rfl, rfl, rfl, rfl, by omega, Nat.zero_le _, by simp, by simp; omega, by simp; omega, by simp, hbx, hBx, by show bl = _; omega, by show _ = encode l; unfold encode; rw [hb3]⟩
        case round =>
          obtain ⟨f, n, s, rfl, rfl, rfl, rfl, hn, hd, hbi, hol, hsh, hf, hb, hB, hBE, hEN⟩ := hrel
          by_cases hlt : s.h < l.length
          · have hlb : below n l < l.length := by rw [← hBE.out]; exact hlt
            obtain ⟨hm1, hm2, hm3⟩ := leastE_mem n l (fun c hc => (HR.out c hc).2) hlb
            obtain ⟨hn1, hn2⟩ := below_next n l (fun c hc => (HR.out c hc).2) hlb
            have hm4 := leastE_le n l
            have HN1 := Lib.hid hn1
            have HN2 := Lib.hid hn2
            clear hm1 hm3 hn1 hn2 hlb
            obtain ⟨f, rfl⟩ : ∃ g, f = g + 1 := ⟨f - 1, by omega⟩
            have HS := Lib.hid (fun D t => encE_next f l bl n D s t hlt)
            obtain ⟨M, hM⟩ : ∃ M : Nat, M = (leastE n l).toNat := ⟨_, rfl⟩
            have HMZ := Lib.hid (show leastE n l = (M : Int) by omega)
            rw [← hM] at HN1 HN2
            have hM1 : n ≤ M := by omega
            have hM2 : M ≤ 1114111 := by omega
            have HM := Lib.hid hM
            clear hM hm2 hm4
            go_wp2_with fail
            go_loop [13, 49] (fun x13 x49 => ∃ k : Nat, k ≤ l.length ∧ x49 = .int .i64 k ∧ x13 = .int .i32 (leastE n (l.take k))) (fun _ x49 => l.length - (intOf x49).toNat)
            case atStart => exact ⟨0, by omega, rfl, by simp [leastE]⟩
            case round =>
              obtain ⟨k, hk, rfl, rfl⟩ := hrel
              by_cases hlk : k < l.length
              · obtain ⟨b, off, rfl, hcell⟩ := HC.out k hlk
                have hcell2 := cell_later hcell hB
                clear hcell
                have HT := Lib.hid (leastE_take n l k hlk)
                obtain ⟨hr0, hr1⟩ := HR.out l[k] (List.getElem_mem hlk)
                by_cases hcn : (n : Int) ≤ l[k]
                · go_wp2
                  go_round
                  case rel => exact ⟨k + 1, by omega, by go_num, by rw [HT.out, stepL, if_pos hcn]⟩
                  case measure => simp [intOf]; omega
                · go_wp2
                  go_round
                  case rel => exact ⟨k + 1, by omega, by go_num, by rw [HT.out, stepL, if_neg hcn]⟩
                  case measure => simp [intOf]; omega
              · obtain rfl : k = l.length := by omega
                rw [List.take_length, HMZ.out]
                have p0 : (0 : Int) ≤ ((M : Int) - n) * ((s.h : Int) + 1) := Int.mul_nonneg (by omega) (by omega)
                have p1 : ((M : Int) - n) * ((s.h : Int) + 1) ≤ ((M : Int) - n) * 60001 := Int.mul_le_mul_of_nonneg_left (by omega) (by omega)
                obtain ⟨D, hD⟩ : ∃ D : Nat, D = s.d + (M - n) * (s.h + 1) := ⟨_, rfl⟩
                have hDZ : (s.d : Int) + ((M : Int) - n) * ((s.h : Int) + 1) = (D : Int) := by
                  rw [hD, Int.natCast_add, Int.natCast_mul, Int.ofNat_sub hM1]; rfl
                have hDb : D ≤ M * 60001 := by omega
                have HD := Lib.hid hD
                clear hD
                go_wp2_with fail
                clear p0 p1 hDZ
                go_loopw [10, 11, 12, 74] (fun x10 x11 x12 x74 wr => ∃ (k : Nat) (t : St), k ≤ l.length ∧ x74 = .int .i64 k ∧ x10 = .int .i64 t.d ∧ x11 = .int .i64 t.bias ∧ x12 = .int .i64 t.h ∧ t.d ≤ M * 60001 + k ∧ t.bias ≤ 200000000000 ∧ t.h ≤ s.h + k ∧ t.out.length ≤ l.length + 1 + 20 * t.h ∧ Lib.IsBuilderF 132 5 w.heap.size w.heap.size (Lib.byteCells t.out) wr ∧ Below w.heap.size w wr ∧ Hid (t = passE bl M (l.take k) { s with d := D })) (fun _ _ _ x74 _ => l.length - (intOf x74).toNat)
                case atStart => exact ⟨0, { s with d := D }, by omega, rfl, rfl, rfl, rfl, by simp; omega, hbi, by simp, hol, hb, hB, by simp [Hid, passE]⟩
                case round =>
                  clear hb hB
                  obtain ⟨k, t, hk, rfl, rfl, rfl, rfl, htd, htb, hth, hto, hb, hB, hT⟩ := hrel
                  by_cases hlk : k < l.length
                  · obtain ⟨b, off, rfl, hcell⟩ := HC.out k hlk
                    have hcell2 := cell_later hcell hB
                    clear hcell
                    have HT := Lib.hid (passE_take bl M l { s with d := D } k hlk)
                    obtain ⟨hr0, hr1⟩ := HR.out l[k] (List.getElem_mem hlk)
                    by_cases hc1 : l[k] < (M : Int)
                    · have HX := Lib.hid (show stepE bl M t l[k] = { t with d := t.d + 1 } by unfold stepE; rw [if_neg (by omega), if_pos hc1])
                      have hc2 : (l[k] == (M : Int)) = false := beq_eq_false_iff_ne.2 (by omega)
                      go_wp2
                      go_roundw
                      case rel => exact ⟨k + 1, { t with d := t.d + 1 }, by omega, by go_num, by go_num, rfl, rfl, by simp; omega, htb, by simp; omega, hto, hb, hB, by show _ = _; rw [HT.out, ← hT.out, HX.out]⟩
                      case measure => simp [intOf]; omega
                    · by_cases hc3 : l[k] = (M : Int)
                      · have HX := Lib.hid (show stepE bl M t l[k] = ⟨0, adapt t.d (t.h + 1) (t.h == bl), t.h + 1, t.out ++ tell t.d 36 t.bias⟩ by unfold stepE; rw [if_pos hc3])
                        have hc2 : (l[k] == (M : Int)) = true := beq_iff_eq.2 hc3
                        clear hc3
                        have htl := tell_len 15 t.d 36 t.bias (by omega)
                        have had := adapt_le t.d (t.h + 1) (t.h == bl)
                        go_wp2_with fail
                        refine (number_any t.d t.bias _ (by omega) (by omega)).mono ?_
                        rintro e w3 ⟨rfl, hB3⟩
                        have hb3 := isBuilder_below hb hB3
                        have hB3' := hB.trans (hB3.mono hB.size)
                        go_wp2_with fail
                        refine (writeString_any w.heap.size w.heap.size _ _ _ hb3 (by rw [Lib.byteCells_length]; show _ + (tell t.d 36 t.bias).length ≤ _; omega) hB3'.size).mono ?_
                        rintro e w4 ⟨rfl, hc4, hB4, _⟩
                        rw [byteCells_app] at hc4
                        go_wp2_with fail
                        rw [show ((t.h : Int) + 1) = ((t.h + 1 : Nat) : Int) from rfl]
                        refine (adapt_any t.d (t.h + 1) _ _ (by omega) (by omega) (by omega)).mono ?_
                        rintro e w5 ⟨rfl, rfl⟩
                        go_wp2
                        go_roundw
                        case rel => exact ⟨k + 1, ⟨0, adapt t.d (t.h + 1) (t.h == bl), t.h + 1, t.out ++ tell t.d 36 t.bias⟩, by omega, by go_num, rfl, by rw [natbeq], by go_num, Nat.zero_le _, by show adapt _ _ _ ≤ _; omega, by show t.h + 1 ≤ _; omega, by show (t.out ++ _).length ≤ _ + 20 * (t.h + 1); rw [List.length_append]; omega, .inr hc4, hB3'.trans hB4, by show _ = _; rw [HT.out, ← hT.out, HX.out]⟩
                        case measure => simp [intOf]; omega
                      · have HX := Lib.hid (show stepE bl M t l[k] = t by unfold stepE; rw [if_neg hc3, if_neg hc1])
                        have hc2 : (l[k] == (M : Int)) = false := beq_eq_false_iff_ne.2 hc3
                        clear hc3
                        go_wp2
                        go_roundw
                        case rel => exact ⟨k + 1, t, by omega, by go_num, rfl, rfl, rfl, by omega, htb, by omega, hto, hb, hB, by show _ = _; rw [HT.out, ← hT.out, HX.out]⟩
                        case measure => simp [intOf]; omega
                  · obtain rfl : k = l.length := by omega
                    rw [List.take_length] at hT
                    have HH := Lib.hid (show t.h = s.h + alike M l by rw [hT.out, passE_h])
                    have HB1 := Lib.hid (show t.h = below (M + 1) l by rw [HH.out, HN1.out, hBE.out])
                    have htl := below_len (M + 1) l
                    have HE := Lib.hid (HS.out D t (by rw [← HM.out]; exact HD.out) (by rw [← HM.out]; exact hT.out))
                    go_wp2
                    go_roundw
                    case rel => exact ⟨f, M + 1, { t with d := t.d + 1 }, by go_num, by go_num, rfl, rfl, by omega, by show t.d + 1 ≤ _; omega, htb, hto, by have := HB1.out; show t.h ≤ _; omega, by have := HH.out; have := HN2.out; show _ ≤ t.h + f; omega, hb, hB, HB1.out, by show _ = _; rw [← hEN.out, HE.out, ← HM.out]⟩
                    case measure => have := HH.out; have := HN2.out; have := HB1.out; simp [intOf]; omega
          · have HD := Lib.hid (encE_done f l bl n s hlt)
            go_wp2_with fail
            refine (Tryd.Builder_String_any_k w.heap.size w.heap.size s.out _ hb hB.size).mono ?_
            rintro e w2 ⟨rfl, _, hB2, _⟩
            go_wp2
            go_ret2
            exact ⟨by rw [← hEN.out, HD.out]; rfl, hB.trans hB2, by rw [← hEN.out, HD.out]; omega⟩

theorem encode_good (v : Value) (l : List Int) (w : World) (hl : l.length ≤ 60000) (hv : Ints .i32 w v l) (hgood : (l.any fun c => !Lib.validRune c) = false) :
    Calls Tryd.prog 32 #[v] w fun e w' => e = .returned (.tuple #[.string ⟨(encode l).toArray⟩, .nilIface]) ∧ Below w.heap.size w w' :=
  (encode_long v l w hl hv hgood).mono fun _ _ h => ⟨h.1, h.2.1⟩

end Go.Proofs.YtpoopgifikcneaaDoor
