/- Any numbers are told as the reference tells them: gatepostlaw04.PunyEncodes returns true at every list; what is assumed is what the card assumes: errors.errorType laid. -/
import Derived.Test.YtpoopgifikcneaaDoorRefF
import Derived.Test.YtpoopgifikcneaaDoorPunyA
import Derived.Test.YtpoopgifikcneaaDoorLaid
import Derived.ProofKit
import Derived.OpenShut
import Derived.ShutString
import Derived.ChangeOld
set_option linter.unusedVariables false
set_option linter.unusedSimpArgs false
namespace Go.Proofs.YtpoopgifikcneaaDoor.PunyEncodesL
open Go.ChangeShapes Go.WideShapes Go.ChangeAt Go.RowKit PunyP
open Go.ChangeMaps (open_string shut_string)

def IsRow (k : IntKind) (w : World) (a : Option Addr) (len cap : Nat) (zs : List Int) : Prop :=
  (a = none ∧ len = 0 ∧ cap = 0 ∧ zs = []) ∨
  ∃ x, a = some x ∧ len ≤ cap ∧ cap ≤ maxLen ∧ zs.length = cap ∧ (∀ i, i < zs.length → w.cell? (x.add i) = some (.int k (zs.getD i 0))) ∧ ∀ n ∈ zs, (Lit.int k n).wf = true


theorem isRow_ints {k : IntKind} {w : World} {a : Option Addr} {len cap : Nat} {zs : List Int} (h : IsRow k w a len cap zs) : ∃ l : List Int, l.length = len ∧ Ints k w (.slice a l.length cap) l := by
  rcases h with ⟨rfl, rfl, rfl, rfl⟩ | ⟨x, rfl, hl, hm, hz, hcell, _⟩
  · exact ⟨[], rfl, .inl ⟨rfl, none, 0, rfl⟩⟩
  · refine ⟨zs.take len, by simp; omega, ?_⟩
    have hlen : (zs.take len).length = len := by simp; omega
    rw [hlen]
    rcases Nat.eq_zero_or_pos len with h0 | h0
    · subst h0
      exact .inl ⟨rfl, some x, cap, rfl⟩
    · obtain ⟨b, off, spot⟩ := x
      have hs : spot = none := by
        have := hcell 0 (by omega)
        unfold World.cell? Addr.add at this
        rw [if_pos rfl] at this
        cases spot with
        | none => rfl
        | some y => split at this <;> simp at this
      subst hs
      refine .inr ⟨by omega, b, off, cap, by rw [hlen], by omega, fun i hi => ?_⟩
      rw [hlen] at hi
      have := hcell i (by omega)
      rw [Addr.add_lit] at this
      rw [this]
      congr 2
      simp [List.getD, hi]


set_option maxHeartbeats 4000000 in
set_option maxRecDepth 100000 in
theorem walk1 (A : Option Addr) (c : Nat) (l : List Int) (w : World) (hI : Ints .i32 w (.slice A l.length c) l) (hlm : l.length ≤ 9223372036854775807) (hg : Laid w) :
    Calls Tryd.prog 10 #[.slice A l.length c] w fun e w' => e = .returned (.bool true) ∧ Below w.heap.size w w' := by
  by_cases hlong : 60 < l.length
  · clear hI
    go_enter Tryd.func10, Tryd.ntmps10
    go_wp2_with fail
    refine (awake_any _).mono ?_
    rintro e w1 ⟨rfl, hb⟩
    go_wp2
    go_ret
    exact ⟨rfl, hb⟩
  · have HI := Lib.hid hI
    have HL := Lib.hid hg
    by_cases hbad : (l.any fun c => !Lib.validRune c) = true
    · have HB := Lib.hid hbad
      clear hI hbad hg
      go_enter Tryd.func10, Tryd.ntmps10
      go_wp2_with fail
      refine (awake_any _).mono ?_
      rintro e w1 ⟨rfl, hb1⟩
      have HI1 := Lib.hid (HI.out.below hb1)
      go_wp2_with fail
      refine (encode_bad _ l _ (by omega) HI1.out HB.out).mono ?_
      rintro e w2 ⟨x, rfl, hf, hb2⟩
      have hB2 := hb1.trans (hb2.mono hb1.size)
      have HI2 := Lib.hid (HI.out.below hB2)
      have HF := Lib.hid hf
      clear hb2 hb1 hf
      go_wp2_with fail
      refine (refEncode_bad _ l _ (by omega) HI2.out HB.out).mono ?_
      rintro e w3 ⟨rfl, hb3⟩
      have HE3 := Lib.hid ((IsErr.of_fail HF.out).below hb3)
      have hB3 := hB2.trans (hb3.mono hB2.size)
      clear hb3 hB2
      go_wp2_with fail
      refine (code_any 1 2 _ _ (HL.out.below hB3) HE3.out).mono ?_
      rintro e w4 ⟨rfl, hb4⟩
      have hB4 := hB3.trans (hb4.mono hB3.size)
      clear hb4 hB3
      go_wp2
      go_ret
      exact ⟨rfl, hB4⟩
    · have hgd : (l.any fun c => !Lib.validRune c) = false := by simpa using hbad
      have HB := Lib.hid hgd
      clear hI hbad hg hgd
      go_enter Tryd.func10, Tryd.ntmps10
      go_wp2_with fail
      refine (awake_any _).mono ?_
      rintro e w1 ⟨rfl, hb1⟩
      have HI1 := Lib.hid (HI.out.below hb1)
      go_wp2_with fail
      refine (encode_good _ l _ (by omega) HI1.out HB.out).mono ?_
      rintro e w2 ⟨rfl, hb2⟩
      have hB2 := hb1.trans (hb2.mono hb1.size)
      have HI2 := Lib.hid (HI.out.below hB2)
      clear hb2 hb1
      go_wp2_with fail
      refine (refEncode_good _ l _ (by omega) HI2.out HB.out).mono ?_
      rintro e w3 ⟨rfl, hb3⟩
      have hB3 := hB2.trans (hb3.mono hB2.size)
      clear hb3 hB2
      generalize (⟨(encode l).toArray⟩ : ByteArray) = X
      go_wp2_with fail
      refine (code_nil _).mono ?_
      rintro e w4 ⟨rfl, hb4⟩
      have hB4 := hB3.trans (hb4.mono hB3.size)
      clear hb4 hB3
      go_wp2
      go_ret
      exact ⟨by simp; try rfl, hB4⟩

theorem walk (a0 : Option Addr) (len0 cap0 : Nat) (z0 : List Int) (w : World) (w0 : IsRow .i32 w a0 len0 cap0 z0) (hg : Laid w) :
    Calls Tryd.prog 10 #[.slice a0 len0 cap0] w fun e w' => e = .returned (.bool true) ∧ Below w.heap.size w w' := by
  have hm : len0 ≤ 9223372036854775807 := by
    rcases w0 with ⟨_, rfl, _⟩ | ⟨_, _, h1, h2, _⟩
    · omega
    · unfold maxLen at h2; omega
  obtain ⟨l, hl, hI⟩ := isRow_ints w0
  subst hl
  exact walk1 a0 cap0 l w hI hm hg

/-! ### THE ROW's STEP: WRITTEN OUT: LEAVE IT -/
set_option maxRecDepth 100000 in
theorem lifted (os : Os) (started : os.Started) (H : Type) (enc : TypeId × Value → H) :
    ReturnsInHanded {} Tryd.checked os 10 .any (fun w args => (Rows.punyEncodesSpec.pre enc Tryd.prog Tryd.f10 Rows.punyEncodesRow.domain false w args ∧ laidMetH Tryd.prog Rows.punyEncodesRow.laid w) ∧ sizedMet enc Tryd.prog Tryd.f10 (OpenSpec.ofChange Rows.punyEncodesSpec) false w args) (Rows.punyEncodesSpec.post enc Tryd.prog Tryd.f10 false true false false) := by
  refine returnsInHanded_of_change_and (C := Tryd.checked) (X := fun w _ => laidMetH Tryd.prog Rows.punyEncodesRow.laid w) (fun _ _ _ hh h => h.of_heap hh) ownD started (by kernel_rfl) Tryd.func10
    (ChangeSpec.witness_at (enc := enc) (C := Tryd.checked) (os := os) (X := fun w _ => laidMetH Tryd.prog Rows.punyEncodesRow.laid w) false (laidWorld os) #[.slice none 0 0] 8 rfl (by kernel_rfl) (by kernel_rfl) (by kernel_rfl) (by kernel_rfl) (by kernel_rfl) (laidWorld_met os _)) ?_
  intro W base args ds gs before hval0 hW hcnd _ hL _
  have hval : ∀ (j : Nat) t v, Tryd.f10.params[j]? = some t → args[j]? = some v → Value.okWide Tryd.prog W .any base t v := hval0
  have hW' := hW
  obtain ⟨p, q, hA0, hV, rfl, hfz, hnd⟩ := hW
  have hA : DataW.TrodAll enc Tryd.prog W 0 (fun _ => true) true Tryd.f10.params.toList args.toList ds p := hA0
  rw [Tryd.params10] at hA hval
  obtain ⟨v0, vs0, d0, ds0, p0, q0, hargs, rfl, rfl, h0, r0⟩ := trodAll_cons hA
  obtain ⟨rfl, rfl, rfl⟩ := trodAll_nil r0
  obtain rfl : args = #[v0] := by cases args; simp_all
  obtain ⟨rfl, rfl⟩ := trodVars_none hV
  obtain ⟨a0, len0, cap0, rfl⟩ := okWide_slice Tryd.underlying71 (hval 0 71 v0 rfl rfl)
  have k0 := h0
  have lt0 : ∀ x ∈ p0, x.block < W.heap.size := by obtain ⟨m, hm⟩ := k0; exact DataW.trod_lt m _ _ _ hm
  obtain ⟨z0, w0⟩ : ∃ zs, IsRow .i32 W a0 len0 cap0 zs := by
    obtain ⟨fuel, hf⟩ := h0
    rcases open_ints Tryd.underlying71 Tryd.underlying21 (by kernel_rfl) hf with ⟨hcs, _⟩ | ⟨x, l, c, zs, hcs, _, hl, hm, hz, _, hcell, hwz⟩
    · simp [Value.cells] at hcs
      obtain ⟨rfl, rfl, rfl⟩ := hcs
      exact ⟨[], .inl ⟨rfl, rfl, rfl, rfl⟩⟩
    · simp [Value.cells] at hcs
      obtain ⟨rfl, rfl, rfl⟩ := hcs
      exact ⟨zs, .inr ⟨_, rfl, hl, hm, by simpa using hz, hcell, hwz⟩⟩
  clear hA0 hval0
  refine (walk a0 len0 cap0 z0 W w0 (laid_of hL)).mono fun e W' ⟨he, bel⟩ => ?_
  subst he
  exact ⟨_, rfl, _, _, _, [], _, [], hW', trodAll_mk1 (shut_bool Tryd.underlying4 _), (trodAll_cons_mk (Below.trod laidOutD (by kernel_rfl) (of_decide_eq_true (by kernel_rfl)) k0 bel lt0) trodAll_mk0), rfl, bel.frame _, fun h => by cases h⟩

theorem over : Rows.punyEncodesRow.holds Tryd.pinned (OpenSpec.ofChange Rows.punyEncodesSpec) :=
  OpenClaim.holds_of_wide 10 Tryd.f10 rfl rfl rfl rfl rfl rfl rfl ⟨rfl, rfl, rfl, rfl, rfl⟩ rfl rfl rfl rfl rfl (by kernel_rfl) Tryd.func10 (by kernel_rfl)
    (of_decide_eq_true (by kernel_rfl)) (by unfold Func.isWrapper; first | (rw [if_pos (by decide +kernel)]; kernel_rfl) | (rw [if_neg (by decide +kernel)]; exact ⟨rfl, rfl⟩))
    (fun os started H enc _ => lifted os started H enc)


theorem said : Rows.PunyEncodesSaid := over

/-- ████ THE CARD ████ -/
theorem card : Rows.PunyEncodesCardSaid :=
  Claim7.holds_tied_plain_at .later [] _ _ _ _
    said (fun _ h => by cases h) (by kernel_rfl) (fun _ h => by cases h) punyEncodes_row_tie rfl ⟨rfl, rfl⟩ (by kernel_rfl) rfl
    (fun f fn hf hfn => by
      obtain rfl : f = 10 := Option.some.inj ((show Tryd.prog.funcNamed "gatepost/gatepostlaw04.PunyEncodes" = some 10 by kernel_rfl).symm.trans hf) |>.symm
      obtain rfl : fn = Tryd.f10 := (Option.some.inj (Tryd.func10.symm.trans hfn)).symm
      exact ⟨by kernel_rfl, fun j t ht => by
        rw [Tryd.params10] at ht
        have h3 : t = 71 := by
          rcases j with _ | j
          · simpa using ht.symm
          · simp at ht
        subst h3
        exact (show Tryd.prog.wantsStandIn 71 = false by kernel_rfl)⟩)
    (by kernel_rfl)
#print axioms card

end Go.Proofs.YtpoopgifikcneaaDoor.PunyEncodesL
