/- What puny.Decode returns, and what it leaves of memory; the text has at most 60000 bytes. -/
import Derived.Test.YtpoopgifikcneaaDoorPunyR
import Derived.Test.YtpoopgifikcneaaDoorIns
import Derived.Laws.IdiomStrings
import Derived.Lib.IndexBytes
set_option linter.unusedVariables false
set_option linter.unusedSimpArgs false
namespace Go.Proofs.YtpoopgifikcneaaDoor
open Go.RowKit PunyP

set_option maxHeartbeats 1000000 in
set_option maxRecDepth 100000 in
theorem none_any (w : World) :
    Calls Tryd.prog 76 #[] w fun e w' => ∃ v, e = .returned (.tuple #[.slice none 0 0, v]) ∧ IsFail 2 v w' ∧ Below w.heap.size w w' := by
  go_enter Tryd.func76, Tryd.ntmps76
  go_wp2_with fail
  refine (wrong_any _).mono ?_
  rintro e w' ⟨v, rfl, hf, hb⟩
  go_wp2
  go_ret2
  exact ⟨_, rfl, hf, hb⟩

theorem last_hyphen (s : ByteArray) : ∀ k, k ≤ s.size → Lib.lastIdx s 45 k = lastH s.data.toList k
  | 0, _ => rfl
  | k + 1, h => by
    unfold Lib.lastIdx lastH
    have hk : k < s.data.toList.length := by simp; omega
    rw [List.getElem?_eq_getElem hk]
    have e : s.data[k]! = s.data.toList[k] := by
      rw [getElem!_pos s.data k (by simpa using hk)]; simp
    rw [e, last_hyphen s k (by omega)]
    generalize s.data.toList[k] = x
    have hx : ((x.toNat : Int) = 45) ↔ (some x = some (45 : UInt8)) := by
      constructor
      · intro h1
        congr 1
        apply UInt8.toNat_inj.1
        show x.toNat = 45
        omega
      · intro h1
        injection h1 with h1
        subst h1
        rfl
    by_cases c : (x.toNat : Int) = 45
    · rw [if_pos c, if_pos (hx.1 c)]
    · rw [if_neg c, if_neg (fun h2 => c (hx.2 h2))]
theorem hyphen_of (s : ByteArray) : Lib.lastIndexByte s 45 = hyphen s.data.toList := by
  unfold Lib.lastIndexByte hyphen
  rw [last_hyphen s _ (Nat.le_refl _)]
  simp

/-- A text of bytes below 128 as code points. -/
theorem runes_ascii (s : ByteArray) (h : ∀ c ∈ s.data.toList, c.toNat < 128) : ∀ (bound i : Nat) (acc : Array Value), i + bound = s.size →
    Conv.runesFrom s bound i acc = acc ++ ((asInts (s.data.toList.drop i)).map (Value.int .i32)).toArray
  | 0, i, acc, hi => by
    rw [Conv.runesFrom, List.drop_of_length_le (by simp; omega)]
    simp [asInts]
  | b + 1, i, acc, hi => by
    have hlt : i < s.size := by omega
    rw [Conv.runesFrom, if_pos hlt, decode_ascii s i hlt (h _ (by simp; exact Array.getElem_mem _))]
    simp only
    rw [runes_ascii s h b (i + 1) _ (by omega), drop_here s i hlt]
    apply Array.ext'
    simp [asInts]

theorem runes_of (w : World) (s : ByteArray) (h : ∀ c ∈ s.data.toList, c.toNat < 128) (hs : s.size ≤ 60000) (B : Nat) (hB : B ≤ w.heap.size) :
    ∃ v w', (convert 9 71 (.string s)).run Tryd.prog w = .ok v w' ∧ w'.ownsRow B 21 1 v (asInts s.data.toList).length ((asInts s.data.toList).map (Value.int .i32)) ∧ Below w.heap.size w w' := by
  have hr := runes_ascii s h s.size 0 #[] (by omega)
  simp only [List.drop_zero, Array.empty_append] at hr
  have hlen : (Conv.runesFrom s s.size 0 #[]).size = (asInts s.data.toList).length := by rw [hr]; simp
  have hl2 : (asInts s.data.toList).length = s.size := by simp [asInts]
  have hrun := run_runes_of_string (P := Tryd.prog) w 9 71 21 s Tryd.underlying9 Tryd.underlying71 Tryd.underlying21 (by omega)
  rw [hlen, hr] at hrun
  have hge := grownCap_ge w (asInts s.data.toList).length 0 21
  have hgm := grownCap_le_maxLen w (asInts s.data.toList).length 0 21 (by unfold maxLen; omega)
  generalize grownCap w (asInts s.data.toList).length 0 21 = G at *
  refine ⟨_, _, hrun, ⟨by simp, .inr ⟨w.heap.size, G, _, rfl, hB, heap_alloc_new w.drew _, hge, hgm, ?_, ?_⟩⟩, (Below.refl _ w).drew.alloc (Nat.le_refl _) _⟩
  · simp; omega
  · simp only [Nat.mul_one, Array.toList_append]
    exact List.take_left' (by simp)

/-- What Decode tells of a text. -/
def DecPost (s : List UInt8) (w : World) (e : Ending) (w' : World) : Prop :=
  match decP s with
  | some l => ∃ v, e = .returned (.tuple #[v, .nilIface]) ∧ w'.ownsRow w.heap.size 21 1 v l.length (l.map (Value.int .i32)) ∧ Below w.heap.size w w'
  | none => ∃ x, e = .returned (.tuple #[.slice none 0 0, x]) ∧ IsFail 2 x w' ∧ Below w.heap.size w w'
theorem DecPost.good {s : List UInt8} {w w' : World} {v : Value} {l : List Int} (h : decP s = some l) (h1 : w'.ownsRow w.heap.size 21 1 v l.length (l.map (Value.int .i32))) (h2 : Below w.heap.size w w') : DecPost s w (.returned (.tuple #[v, .nilIface])) w' := by
  unfold DecPost; rw [h]; exact ⟨v, rfl, h1, h2⟩
theorem DecPost.bad {s : List UInt8} {w w' : World} {x : Value} (h : decP s = none) (h1 : IsFail 2 x w') (h2 : Below w.heap.size w w') : DecPost s w (.returned (.tuple #[.slice none 0 0, x])) w' := by
  unfold DecPost; rw [h]; exact ⟨x, rfl, h1, h2⟩

/-- A text with a byte from 128 on. -/
theorem decode_high (s : List UInt8) (k : Nat) (hk : k < s.length) (h : 128 ≤ s[k].toNat) : decP s = none := by
  unfold decP
  rw [if_pos]
  exact List.any_eq_true.2 ⟨s[k], List.getElem_mem hk, by simpa using h⟩

theorem own_shape {w : World} {B : Nat} {e : TypeId} {v : Value} {n : Nat} {xs : List Value} (h : w.ownsRow B e 1 v n xs) : ∃ ao cap, v = .slice ao n cap := by
  rcases h.2 with ⟨hv, h0⟩ | ⟨g, cap, cur, hv, _⟩
  · exact ⟨none, 0, by rw [hv, h0]⟩
  · exact ⟨_, _, hv⟩

set_option maxHeartbeats 4000000 in
set_option maxRecDepth 100000 in
theorem decode_any (s : ByteArray) (w : World) (hs : s.size ≤ 60000) :
    Calls Tryd.prog 35 #[.string s] w (DecPost s.data.toList w) := by
  go_enter Tryd.func35, Tryd.ntmps35
  go_wp2_with fail
  go_loop [5, 22] (fun _ x => ∃ k : Nat, k ≤ s.size ∧ x = .int .i64 k ∧ Hid (∀ j (h : j < s.data.toList.length), j < k → s.data.toList[j].toNat < 128)) (fun _ x => s.size - (intOf x).toNat)
  case atStart => exact ⟨0, by omega, rfl, by intro j h h2; omega⟩
  case round =>
    obtain ⟨k, hk, rfl, hall⟩ := hrel
    by_cases hlt : k < s.size
    · have hu := s[k].toNat_lt
      by_cases h128 : 128 ≤ s[k].toNat
      · have e128 : s.data.toList[k]'(by simpa using hlt) = s[k] := by simp; rfl
        have HD := Lib.hid (decode_high s.data.toList k (by simpa using hlt) (by rw [e128]; exact h128))
        clear e128
        go_wp2_with fail
        refine (none_any _).mono ?_
        rintro e w' ⟨v, rfl, hf, hb⟩
        go_wp2
        go_ret2
        exact DecPost.bad HD.out hf hb
      · go_wp2
        go_round
        case rel =>
          refine ⟨k + 1, by omega, by go_num, ?_⟩
          intro j h h2
          by_cases hjk : j = k
          · subst hjk
            have : s.data.toList[j] = s[j] := by simp; rfl
            rw [this]; omega
          · exact hall.out j h (by omega)
        case measure => simp [intOf]; omega
    · have hlow : ∀ c ∈ s.data.toList, c.toNat < 128 := by
        intro c hc
        obtain ⟨j, hj, rfl⟩ := List.mem_iff_getElem.1 hc
        exact hall.out j hj (by simp at hj; omega)
      have HLOW := Lib.hid hlow
      clear hlow hall
      have hH := lastH_lt s.data.toList s.data.toList.length
      have hHl : s.data.toList.length = s.size := by simp
      rw [hHl] at hH
      have HDP := Lib.hid (show decP s.data.toList = if 0 < hyphen s.data.toList then decG (s.data.toList.length + 1) (s.data.toList.drop ((hyphen s.data.toList).toNat + 1)) 128 0 72 (asInts (s.data.toList.take (hyphen s.data.toList).toNat)) else decG (s.data.toList.length + 1) s.data.toList 128 0 72 [] by
        unfold decP
        rw [if_neg]
        intro h
        obtain ⟨c, hc, h2⟩ := List.any_eq_true.1 h
        have := HLOW.out c hc
        simp at h2
        omega)
      have HHY := Lib.hid (hyphen_of s)
      have hHe : lastH s.data.toList s.size = hyphen s.data.toList := by unfold hyphen; rw [hHl]
      rw [hHe] at hH
      clear hHl hHe
      go_wp2_with fail
      refine (Tryd.strings_LastIndexByte s _ (by omega) _).mono ?_
      rintro e w' ⟨rfl, rfl⟩
      rw [HHY.out]
      by_cases h0 : 0 < hyphen s.data.toList
      case' pos =>
        obtain ⟨H, hHH⟩ : ∃ H : Nat, hyphen s.data.toList = (H : Int) := ⟨(hyphen s.data.toList).toNat, by omega⟩
        rw [hHH] at hH h0
        rw [hHH]
        have HHH := Lib.hid hHH
        clear hHH
        have hsz : (s.extract 0 H).size ≤ 60000 := by simp; omega
        obtain ⟨v, wx, hrun, hown, hbx⟩ := runes_of w' (s.extract 0 H) (by
          intro c hc
          rw [Lib.extract_data] at hc
          exact HLOW.out c (List.mem_of_mem_drop (List.mem_of_mem_take hc))) hsz w'.heap.size (Nat.le_refl _)
        have hl0 : (asInts (s.extract 0 H).data.toList).length ≤ H := by
          rw [Lib.extract_data]; simp [asInts]; omega
        obtain ⟨L0, hL0⟩ : ∃ L0, L0 = asInts (s.extract 0 H).data.toList := ⟨_, rfl⟩
        rw [← hL0] at hown hl0
        obtain ⟨ao, cap, rfl⟩ := own_shape hown
        have HO := Lib.hid hown
        clear hown
        have hd0 : decide (0 < H) = true := decide_eq_true (by omega)
        have hsz2 : (s.extract (H + 1) s.size).size = s.size - (H + 1) := by simp
        have HS1 := Lib.hid (show (s.extract (H + 1) s.size).size + L0.length ≤ s.size by omega)
        have HS2 := Lib.hid (show (s.extract (H + 1) s.size).size < s.data.toList.length + 1 by simp; omega)
        clear hsz2
        have HST := Lib.hid (show decG (s.data.toList.length + 1) (s.extract (H + 1) s.size).data.toList 128 0 72 L0 = decP s.data.toList by
          rw [hL0]
          have e := HDP.out
          have e2 := HHH.out
          rw [if_pos (by omega), e2] at e
          rw [e, Lib.extract_to_end, Lib.extract_data]
          simp)
        clear hL0 hl0
        go_wp2_with fail
      case' neg =>
        have hd0 : decide (0 < hyphen s.data.toList) = false := decide_eq_false (by omega)
        have HST := Lib.hid (show decG (s.data.toList.length + 1) s.data.toList 128 0 72 [] = decP s.data.toList by
          have e := HDP.out
          rw [if_neg (by omega)] at e
          rw [e])
        go_wp2_with fail
      all_goals
        clear hd0
        go_loopw [0, 6, 8, 9, 10] (fun x0 x6 x8 x9 x10 wr => ∃ (f n i b : Nat) (r : ByteArray) (l : List Int) (ao : Option Addr) (cap : Nat), x0 = .string r ∧ x6 = .slice ao l.length cap ∧ x8 = .int .i64 n ∧ x9 = .int .i64 i ∧ x10 = .int .i64 b ∧ n ≤ 1114111 ∧ i ≤ l.length ∧ b ≤ 3000000000000 ∧ r.size + l.length ≤ s.size ∧ r.size < f ∧ wr.ownsRow w'.heap.size 21 1 (.slice ao l.length cap) l.length (l.map (Value.int .i32)) ∧ Below w'.heap.size w' wr ∧ Hid (decG f r.data.toList n i b l = decP s.data.toList)) (fun x0 _ _ _ _ _ => (match x0 with | .string r => r.size | _ => 0))
        case atStart =>
          first
          | exact ⟨s.data.toList.length + 1, 128, 0, 72, s, [], _, _, rfl, rfl, rfl, rfl, rfl, by omega, by simp, by omega, by simp, by simp, World.ownsRow_nil _ _ _ _, Below.refl _ _, HST.out⟩
          | exact ⟨s.data.toList.length + 1, 128, 0, 72, s.extract (H + 1) s.size, _, _, _, rfl, rfl, rfl, rfl, rfl, by omega, Nat.zero_le _, by omega, HS1.out, HS2.out, HO.out, hbx, HST.out⟩
        case round =>
          obtain ⟨f, n, i, b, r, l, ao, cap, rfl, rfl, rfl, rfl, rfl, hn, hi, hb, hrl, hf, hown, hB, hG⟩ := hrel
          by_cases hr0 : 0 < r.size
          · obtain ⟨f, rfl⟩ : ∃ g, f = g + 1 := ⟨f - 1, by omega⟩
            obtain ⟨q, m, hqm⟩ : ∃ q m, rd r.data.toList 0 0 1 b = (q, m) := ⟨_, _, rfl⟩
            obtain ⟨hq1, hm1, hm2⟩ := rd_bounds r.data.toList 0 0 1 b
            rw [hqm] at hq1 hm1 hm2
            have hm1' : m ≤ r.size := by simpa using hm1
            have hq1' : q ≤ 1099511627776 := hq1
            have HQ := Lib.hid hqm
            have hrl1 : r.data.toList.length = r.size := by simp
            have hrn : r.data.toList ≠ [] := by
              intro e
              rw [e] at hrl1
              simp at hrl1
              omega
            have HNE := Lib.hid hrn
            clear hqm hq1 hm1 hrn hrl1
            go_wp2_with fail
            refine (read_any r b _ (by omega) (by omega)).mono ?_
            rintro e wq ⟨rfl, rfl⟩
            rw [HQ.out]
            rcases (show m = 0 ∨ (0 < m ∧ 1099511627776 < i + q) ∨ (0 < m ∧ ¬ 1099511627776 < i + q) by omega) with c1 | ⟨c1, c2⟩ | ⟨c1, c2⟩
            · have HD := Lib.hid (show decP s.data.toList = none by rw [← hG.out]; exact decG_stop f _ n i b q m l HNE.out HQ.out (.inl c1))
              subst c1
              go_wp2_with fail
              refine (none_any _).mono ?_
              rintro e w4 ⟨x, rfl, hx, hb4⟩
              go_wp2
              go_ret2
              exact DecPost.bad HD.out hx (hB.trans (hb4.mono hB.size))
            · have HD := Lib.hid (show decP s.data.toList = none by rw [← hG.out]; exact decG_stop f _ n i b q m l HNE.out HQ.out (.inr c2))
              have cm : ((m : Int) == 0) = false := beq_eq_false_iff_ne.2 (by omega)
              go_wp2_with fail
              refine (none_any _).mono ?_
              rintro e w4 ⟨x, rfl, hx, hb4⟩
              go_wp2
              go_ret2
              exact DecPost.bad HD.out hx (hB.trans (hb4.mono hB.size))
            · have HC := Lib.hid (show ¬ (m = 0 ∨ MOST < i + q) by unfold MOST; omega)
              have cm : ((m : Int) == 0) = false := beq_eq_false_iff_ne.2 (by omega)
              obtain ⟨D, hD⟩ : ∃ D, D = (i + q) / (l.length + 1) := ⟨_, rfl⟩
              obtain ⟨R, hR⟩ : ∃ R, R = (i + q) % (l.length + 1) := ⟨_, rfl⟩
              have hDZ : ((i : Int) + (q : Int)) / ((l.length : Int) + 1) = (D : Int) := by rw [hD, natdiv]; rfl
              have hRZ : ((i : Int) + (q : Int)) % ((l.length : Int) + 1) = (R : Int) := by rw [hR, Int.natCast_emod]; rfl
              have hDb : D ≤ i + q := by rw [hD]; exact Nat.div_le_self _ _
              have hRb : R < l.length + 1 := by rw [hR]; exact Nat.mod_lt _ (by omega)
              have HDD := Lib.hid hD
              have HRR := Lib.hid hR
              clear hD hR
              go_wp2_with fail
              rw [show ((l.length : Int) + 1) = ((l.length + 1 : Nat) : Int) from rfl]
              refine (adapt_any q (l.length + 1) _ _ (by omega) (by omega) (by omega)).mono ?_
              rintro e wa ⟨rfl, rfl⟩
              rcases (show 1114111 < n + D ∨ ¬ 1114111 < n + D by omega) with c3 | c3
              · have HD := Lib.hid (show decP s.data.toList = none by rw [← hG.out]; exact decG_high f _ n i b q m l HNE.out HQ.out HC.out (.inl (by rw [← HDD.out]; exact c3)))
                go_wp2_with fail
                refine (none_any _).mono ?_
                rintro e w4 ⟨x, rfl, hx, hb4⟩
                go_wp2
                go_ret2
                exact DecPost.bad HD.out hx (hB.trans (hb4.mono hB.size))
              · go_wp2_with fail
                refine (Tryd.utf8_ValidRune _ _).mono ?_
                rintro e wv ⟨rfl, rfl⟩
                rw [show Lib.validRune ((n : Int) + (D : Int)) = scalar (n + D : Nat) from rfl]
                rcases hsc : scalar (n + D : Nat) with _ | _
                · have HD := Lib.hid (show decP s.data.toList = none by rw [← hG.out]; exact decG_high f _ n i b q m l HNE.out HQ.out HC.out (.inr (by rw [← HDD.out]; exact hsc)))
                  clear hsc
                  go_wp2_with fail
                  refine (none_any _).mono ?_
                  rintro e w4 ⟨x, rfl, hx, hb4⟩
                  go_wp2
                  go_ret2
                  exact DecPost.bad HD.out hx (hB.trans (hb4.mono hB.size))
                · have HD := Lib.hid (decG_on f r.data.toList n i b q m l HNE.out HQ.out HC.out (by rw [← HDD.out]; intro h; rcases h with h | h; exact c3 h; rw [hsc] at h; cases h))
                  rw [← HDD.out, ← HRR.out] at HD
                  clear hsc
                  go_wp2_with fail
                  refine (insert_any w'.heap.size _ l R ((n : Int) + (D : Int)) _ hown (by omega) (by omega) hB.size).mono ?_
                  rintro e w5 ⟨v5, rfl, hown5, hb5⟩
                  obtain ⟨ao5, cap5, rfl⟩ := own_shape hown5
                  have hpl := putAt_length l R ((n : Int) + (D : Int)) (by omega)
                  have had := adapt_le q (l.length + 1) (i == 0)
                  have HX := Lib.hid (show (r.extract m r.size).data.toList = r.data.toList.drop m from Lib.extract_to_end r m)
                  have HPL := Lib.hid hpl
                  have HAD := Lib.hid had
                  have HZ := Lib.hid (show ((i : Int) == 0) = (i == 0) from natbeq i 0)
                  clear hpl had
                  go_wp2
                  go_roundw
                  case rel => exact ⟨f, n + D, R + 1, adapt q (l.length + 1) (i == 0), r.extract m r.size, putAt l R ((n : Int) + (D : Int)), ao5, cap5, rfl, rfl, by go_num, by go_num, by rw [HZ.out], by omega, by rw [HPL.out]; omega, by have := HAD.out; omega, by rw [HPL.out]; simp; omega, by simp; omega, hown5, hB.trans hb5, by show _ = _; rw [HX.out, ← hG.out, HD.out]; rfl⟩
                  case measure => simp; omega
          · obtain ⟨f, rfl⟩ : ∃ g, f = g + 1 := ⟨f - 1, by omega⟩
            have HD := Lib.hid (show decP s.data.toList = some l by
              have e : r.data.toList = [] := List.eq_nil_of_length_eq_zero (by rw [show r.data.toList.length = r.size by simp]; omega)
              rw [← hG.out, e, decG_done])
            go_wp2
            go_ret2
            exact DecPost.good HD.out hown hB

end Go.Proofs.YtpoopgifikcneaaDoor
