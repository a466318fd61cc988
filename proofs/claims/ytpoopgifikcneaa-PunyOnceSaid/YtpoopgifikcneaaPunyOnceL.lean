/- A text that is decoded is encoded to what it was, with small letters: gatepostlaw04.PunyOnce returns true at every text; no conditions. -/
import Derived.Test.YtpoopgifikcneaaPunyS
import Derived.Test.YtpoopgifikcneaaRows
import Derived.ProofKit
import Derived.OpenShut
import Derived.ShutString
set_option linter.unusedVariables false
set_option linter.unusedSimpArgs false
namespace Go.Proofs.Ytpoopgifikcneaa.PunyOnceL
open Go.ChangeShapes Go.WideShapes Go.ChangeAt Go.RowKit PunyP
open Go.ChangeMaps (open_string shut_string)

set_option maxHeartbeats 4000000 in
set_option maxRecDepth 100000 in
theorem walk (s : ByteArray) (ws : s.size ≤ maxLen) (w : World) :
    Calls Try.prog 4 #[.string s] w fun e w' => e = .returned (.bool true) ∧ Below w.heap.size w w' := by
  unfold maxLen at ws
  by_cases hlong : 80 < s.size
  · go_enter Try.func4, Try.ntmps4
    go_wp2_with fail
    refine (awake_any _).mono ?_
    rintro e w1 ⟨rfl, hb⟩
    go_wp2
    go_ret
    exact ⟨rfl, hb⟩
  · cases hd : decP s.data.toList with
    | none =>
      have HD := Lib.hid hd
      clear hd
      go_enter Try.func4, Try.ntmps4
      go_wp2_with fail
      refine (awake_any _).mono ?_
      rintro e w1 ⟨rfl, hb1⟩
      go_wp2_with fail
      refine (decode_any _ _ (by omega)).mono ?_
      rintro e w2 hp
      unfold DecPost at hp
      rw [HD.out] at hp
      obtain ⟨v2, rfl, hf, hb2⟩ := hp
      obtain ⟨g, cc, rfl, hg⟩ := hf
      have HF := Lib.hid (IsErr.of_fail (⟨g, cc, rfl, hg⟩ : IsFail 2 _ w2))
      have hB2 := hb1.trans (hb2.mono hb1.size)
      clear hb2 hb1 hg
      go_wp2_with fail
      refine (errorsIs_any 1 2 2 _ _ HF.out).mono ?_
      rintro e w4 ⟨rfl, rfl⟩
      go_wp2
      go_ret
      exact ⟨rfl, hB2⟩
    | some l =>
      obtain ⟨he, hv, hlen⟩ := encode_decP s.data.toList l (by simp; omega) hd
      have HD := Lib.hid hd
      have HE := Lib.hid he
      have HG := Lib.hid (show (l.any fun c => !Lib.validRune c) = false by
        rw [List.any_eq_false]
        intro c hc
        have : Lib.validRune c = true := hv c hc
        rw [this]; decide)
      have hlen2 : l.length ≤ s.size := by simpa using hlen
      clear hd he hv hlen
      go_enter Try.func4, Try.ntmps4
      go_wp2_with fail
      refine (awake_any _).mono ?_
      rintro e w1 ⟨rfl, hb1⟩
      go_wp2_with fail
      refine (decode_any _ _ (by omega)).mono ?_
      rintro e w2 hp
      unfold DecPost at hp
      rw [HD.out] at hp
      obtain ⟨v2, rfl, hown, hb2⟩ := hp
      have HI := Lib.hid (own_ints hown)
      have hB2 := hb1.trans (hb2.mono hb1.size)
      clear hb2 hb1 hown
      go_wp2_with fail
      refine (encode_good _ l _ (by omega) HI.out HG.out).mono ?_
      rintro e w3 ⟨rfl, hb3⟩
      have hB3 := hB2.trans (hb3.mono hB2.size)
      rw [HE.out]
      clear hb3 hB2
      go_wp2_with fail
      refine (small_any s _ (by omega)).mono ?_
      rintro e w4 ⟨rfl, hb4⟩
      have hB4 := hB3.trans (hb4.mono hB3.size)
      clear hb4 hB3 HE
      generalize (⟨(small s.data.toList).toArray⟩ : ByteArray) = X
      go_wp2
      go_ret
      exact ⟨by simp; try rfl, hB4⟩

/-! ### The row -/
theorem own : ownKnob Try.prog.godebug = none := by kernel_rfl
theorem laidOut : laidOutB Try.prog = true := by kernel_rfl
set_option maxRecDepth 100000 in
theorem lifted (os : Os) (started : os.Started) (H : Type) (enc : TypeId × Value → H) :
    ReturnsInHanded {} Try.checked os 4 .any (Rows.punyOnceSpec.pre6 enc Try.prog Try.f4 Rows.punyOnceRow.domain false) (Rows.punyOnceSpec.post enc Try.prog Try.f4 false true false false) := by
  refine returnsInHanded_of_change (C := Try.checked) own started (by kernel_rfl) Try.func4
    (ChangeSpec.witness6 (enc := enc) (C := Try.checked) false ⟨#[], #[.string ByteArray.empty], []⟩ 8 (by kernel_rfl) (by kernel_rfl) (by kernel_rfl) (by kernel_rfl)) ?_
  intro W base args ds gs before hval0 hW hcnd _
  have hval : ∀ (j : Nat) t v, Try.f4.params[j]? = some t → args[j]? = some v → Value.okWide Try.prog W .any base t v := hval0
  have hW' := hW
  obtain ⟨p, q, hA0, hV, rfl, hfz, hnd⟩ := hW
  have hA : DataW.TrodAll enc Try.prog W 0 (fun _ => true) true Try.f4.params.toList args.toList ds p := hA0
  rw [Try.params4] at hA hval
  obtain ⟨v0, vs0, d0, ds0, p0, q0, hargs, rfl, rfl, h0, r0⟩ := trodAll_cons hA
  obtain ⟨rfl, rfl, rfl⟩ := trodAll_nil r0
  obtain rfl : args = #[v0] := by cases args; simp_all
  obtain ⟨rfl, rfl⟩ := trodVars_none hV
  have k0 := h0
  have lt0 : ∀ x ∈ p0, x.block < W.heap.size := by obtain ⟨m, hm⟩ := k0; exact DataW.trod_lt m _ _ _ hm
  obtain ⟨a0, rfl, _, _, w0⟩ := open_string Try.underlying9 (hval 0 9 v0 rfl rfl) h0
  clear hA0 hval0
  refine (walk a0 w0 W).mono fun e W' ⟨he, bel⟩ => ?_
  subst he
  exact ⟨_, rfl, _, _, _, [], _, [], hW', trodAll_mk1 (shut_bool Try.underlying4 _), (trodAll_cons_mk (Below.trod laidOut (by kernel_rfl) (of_decide_eq_true (by kernel_rfl)) k0 bel lt0) trodAll_mk0), rfl, bel.frame _, fun h => by cases h⟩

theorem over : Rows.punyOnceRow.holds Try.pinned (OpenSpec.ofChange Rows.punyOnceSpec) :=
  OpenClaim.holds_of_wide 4 Try.f4 rfl rfl rfl rfl rfl rfl rfl ⟨rfl, rfl, rfl, rfl, rfl⟩ rfl rfl rfl rfl rfl (by kernel_rfl) Try.func4 (by kernel_rfl)
    (of_decide_eq_true (by kernel_rfl)) (by unfold Func.isWrapper; first | (rw [if_pos (by decide +kernel)]; kernel_rfl) | (rw [if_neg (by decide +kernel)]; exact ⟨rfl, rfl⟩))
    (fun os started H enc _ => lifted os started H enc)

theorem proved : Rows.PunyOnceSaid := over
#print axioms proved

end Go.Proofs.Ytpoopgifikcneaa.PunyOnceL
