/- Any text is read as the reference reads it: gatepostlaw04.PunyDecodes returns true at every text; what is assumed is what the card assumes: errors.errorType laid. -/
import Derived.Test.YtpoopgifikcneaaDoorRefG
import Derived.Test.YtpoopgifikcneaaDoorPunyA
import Derived.Test.YtpoopgifikcneaaDoorLaid
import Derived.ProofKit
import Derived.OpenShut
import Derived.ShutString
import Derived.ChangeOld
set_option linter.unusedVariables false
set_option linter.unusedSimpArgs false
namespace Go.Proofs.YtpoopgifikcneaaDoor.PunyDecodesL
open Go.ChangeShapes Go.WideShapes Go.ChangeAt Go.RowKit PunyP
open Go.ChangeMaps (open_string shut_string)

set_option maxHeartbeats 4000000 in
set_option maxRecDepth 100000 in
theorem walk (s : ByteArray) (ws : s.size ≤ maxLen) (w : World) (hg : Laid w) :
    Calls Tryd.prog 11 #[.string s] w fun e w' => e = .returned (.bool true) ∧ Below w.heap.size w w' := by
  unfold maxLen at ws
  by_cases hlong : 80 < s.size
  · go_enter Tryd.func11, Tryd.ntmps11
    go_wp2_with fail
    refine (awake_any _).mono ?_
    rintro e w1 ⟨rfl, hb⟩
    go_wp2
    go_ret
    exact ⟨rfl, hb⟩
  · have HL := Lib.hid hg
    clear hg
    cases hd : decP s.data.toList with
    | none =>
      have HD := Lib.hid hd
      have HEq := Lib.hid (show (([] : List Int) == []) = true from rfl)
      clear hd
      go_enter Tryd.func11, Tryd.ntmps11
      go_wp2_with fail
      refine (awake_any _).mono ?_
      rintro e w1 ⟨rfl, hb1⟩
      go_wp2_with fail
      refine (decode_any _ _ (by omega)).mono ?_
      rintro e w2 hp
      unfold DecPost at hp
      rw [HD.out] at hp
      obtain ⟨v2, rfl, hf, hb2⟩ := hp
      have HF := Lib.hid (IsErr.of_fail hf)
      have hB2 := hb1.trans (hb2.mono hb1.size)
      clear hb2 hb1 hf
      go_wp2_with fail
      refine (refDecode_any _ _ (by omega)).mono ?_
      rintro e w3 hp
      unfold RefDec at hp
      rw [HD.out] at hp
      obtain ⟨rfl, hb3⟩ := hp
      have HF3 := Lib.hid (HF.out.below hb3)
      have hB3 := hB2.trans (hb3.mono hB2.size)
      clear hb3 hB2
      go_wp2_with fail
      refine (same_any _ _ [] [] _ (.inl ⟨rfl, none, 0, rfl⟩) (.inl ⟨rfl, none, 0, rfl⟩) (by simp) (by simp)).mono ?_
      rintro e w4 ⟨rfl, hb4⟩
      rw [HEq.out]
      have HF4 := Lib.hid (HF3.out.below hb4)
      have hB4 := hB3.trans (hb4.mono hB3.size)
      clear hb4 hB3
      go_wp2_with fail
      refine (code_any 1 2 _ _ (HL.out.below hB4) HF4.out).mono ?_
      rintro e w5 ⟨rfl, hb5⟩
      have hB5 := hB4.trans (hb5.mono hB4.size)
      clear hb5 hB4
      go_wp2
      go_ret
      exact ⟨rfl, hB5⟩
    | some l =>
      obtain ⟨he, hv, hlen⟩ := encode_decP s.data.toList l (by simp; omega) hd
      have HD := Lib.hid hd
      have HEq := Lib.hid (show (l == l) = true from beq_self_eq_true l)
      have hlen2 : l.length ≤ s.size := by simpa using hlen
      clear hd he hv hlen
      go_enter Tryd.func11, Tryd.ntmps11
      go_wp2_with fail
      refine (awake_any _).mono ?_
      rintro e w1 ⟨rfl, hb1⟩
      go_wp2_with fail
      refine (decode_any _ _ (by omega)).mono ?_
      rintro e w2 hp
      unfold DecPost at hp
      rw [HD.out] at hp
      obtain ⟨v2, rfl, hown, hb2⟩ := hp
      have HI := Lib.hid (own_ints hown)
      have hB2 := hb1.trans (hb2.mono hb1.size)
      clear hb2 hb1 hown
      go_wp2_with fail
      refine (refDecode_any _ _ (by omega)).mono ?_
      rintro e w3 hp
      unfold RefDec at hp
      rw [HD.out] at hp
      obtain ⟨v3, rfl, hR3, hb3⟩ := hp
      have HI3 := Lib.hid hR3.ints
      have HI2 := Lib.hid (HI.out.below hb3)
      have hB3 := hB2.trans (hb3.mono hB2.size)
      clear hb3 hB2 hR3
      go_wp2_with fail
      refine (same_any _ _ l l _ HI2.out HI3.out (by omega) (by omega)).mono ?_
      rintro e w4 ⟨rfl, hb4⟩
      rw [HEq.out]
      have hB4 := hB3.trans (hb4.mono hB3.size)
      clear hb4 hB3
      go_wp2_with fail
      refine (code_nil _).mono ?_
      rintro e w5 ⟨rfl, hb5⟩
      have hB5 := hB4.trans (hb5.mono hB4.size)
      clear hb5 hB4
      go_wp2
      go_ret
      exact ⟨rfl, hB5⟩

set_option maxRecDepth 100000 in
theorem lifted (os : Os) (started : os.Started) (H : Type) (enc : TypeId × Value → H) :
    ReturnsInHanded {} Tryd.checked os 11 .any (fun w args => (Rows.punyDecodesSpec.pre enc Tryd.prog Tryd.f11 Rows.punyDecodesRow.domain false w args ∧ laidMetH Tryd.prog Rows.punyDecodesRow.laid w) ∧ sizedMet enc Tryd.prog Tryd.f11 (OpenSpec.ofChange Rows.punyDecodesSpec) false w args) (Rows.punyDecodesSpec.post enc Tryd.prog Tryd.f11 false true false false) := by
  refine returnsInHanded_of_change_and (C := Tryd.checked) (X := fun w _ => laidMetH Tryd.prog Rows.punyDecodesRow.laid w) (fun _ _ _ hh h => h.of_heap hh) ownD started (by kernel_rfl) Tryd.func11
    (ChangeSpec.witness_at (enc := enc) (C := Tryd.checked) (os := os) (X := fun w _ => laidMetH Tryd.prog Rows.punyDecodesRow.laid w) false (laidWorld os) #[.string ByteArray.empty] 8 rfl (by kernel_rfl) (by kernel_rfl) (by kernel_rfl) (by kernel_rfl) (by kernel_rfl) (laidWorld_met os _)) ?_
  intro W base args ds gs before hval0 hW hcnd _ hL _
  have hval : ∀ (j : Nat) t v, Tryd.f11.params[j]? = some t → args[j]? = some v → Value.okWide Tryd.prog W .any base t v := hval0
  have hW' := hW
  obtain ⟨p, q, hA0, hV, rfl, hfz, hnd⟩ := hW
  have hA : DataW.TrodAll enc Tryd.prog W 0 (fun _ => true) true Tryd.f11.params.toList args.toList ds p := hA0
  rw [Tryd.params11] at hA hval
  obtain ⟨v0, vs0, d0, ds0, p0, q0, hargs, rfl, rfl, h0, r0⟩ := trodAll_cons hA
  obtain ⟨rfl, rfl, rfl⟩ := trodAll_nil r0
  obtain rfl : args = #[v0] := by cases args; simp_all
  obtain ⟨rfl, rfl⟩ := trodVars_none hV
  have k0 := h0
  have lt0 : ∀ x ∈ p0, x.block < W.heap.size := by obtain ⟨m, hm⟩ := k0; exact DataW.trod_lt m _ _ _ hm
  obtain ⟨a0, rfl, _, _, w0⟩ := open_string Tryd.underlying9 (hval 0 9 v0 rfl rfl) h0
  clear hA0 hval0
  refine (walk a0 w0 W (laid_of hL)).mono fun e W' ⟨he, bel⟩ => ?_
  subst he
  exact ⟨_, rfl, _, _, _, [], _, [], hW', trodAll_mk1 (shut_bool Tryd.underlying4 _), (trodAll_cons_mk (Below.trod laidOutD (by kernel_rfl) (of_decide_eq_true (by kernel_rfl)) k0 bel lt0) trodAll_mk0), rfl, bel.frame _, fun h => by cases h⟩

theorem over : Rows.punyDecodesRow.holds Tryd.pinned (OpenSpec.ofChange Rows.punyDecodesSpec) :=
  OpenClaim.holds_of_wide 11 Tryd.f11 rfl rfl rfl rfl rfl rfl rfl ⟨rfl, rfl, rfl, rfl, rfl⟩ rfl rfl rfl rfl rfl (by kernel_rfl) Tryd.func11 (by kernel_rfl)
    (of_decide_eq_true (by kernel_rfl)) (by unfold Func.isWrapper; first | (rw [if_pos (by decide +kernel)]; kernel_rfl) | (rw [if_neg (by decide +kernel)]; exact ⟨rfl, rfl⟩))
    (fun os started H enc _ => lifted os started H enc)


theorem said : Rows.PunyDecodesSaid := over

/-- ████ THE CARD ████ -/
theorem card : Rows.PunyDecodesCardSaid :=
  Claim7.holds_tied_plain_at .later [] _ _ _ _
    said (fun _ h => by cases h) (by kernel_rfl) (fun _ h => by cases h) punyDecodes_row_tie rfl ⟨rfl, rfl⟩ (by kernel_rfl) rfl
    (fun f fn hf hfn => by
      obtain rfl : f = 11 := Option.some.inj ((show Tryd.prog.funcNamed "gatepost/gatepostlaw04.PunyDecodes" = some 11 by kernel_rfl).symm.trans hf) |>.symm
      obtain rfl : fn = Tryd.f11 := (Option.some.inj (Tryd.func11.symm.trans hfn)).symm
      exact ⟨by kernel_rfl, fun j t ht => by
        rw [Tryd.params11] at ht
        have h3 : t = 9 := by
          rcases j with _ | j
          · simpa using ht.symm
          · simp at ht
        subst h3
        exact (show Tryd.prog.wantsStandIn 9 = false by kernel_rfl)⟩)
    (by kernel_rfl)
#print axioms card

end Go.Proofs.YtpoopgifikcneaaDoor.PunyDecodesL
