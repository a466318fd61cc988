/- Code points are told there and back: gatepostlaw04.PunyBack returns true at every list; no conditions. -/
import Derived.Test.YtpoopgifikcneaaPunyS
import Derived.Test.YtpoopgifikcneaaRows
import Derived.ProofKit
import Derived.OpenShut
import Derived.ShutString
import Derived.ChangeOld
set_option linter.unusedVariables false
set_option linter.unusedSimpArgs false
namespace Go.Proofs.Ytpoopgifikcneaa.PunyBackL
open Go.ChangeShapes Go.WideShapes Go.ChangeAt Go.RowKit PunyP
open Go.ChangeMaps (open_string shut_string)

def IsRow (k : IntKind) (w : World) (a : Option Addr) (len cap : Nat) (zs : List Int) : Prop :=
  (a = none ∧ len = 0 ∧ cap = 0 ∧ zs = []) ∨
  ∃ x, a = some x ∧ len ≤ cap ∧ cap ≤ maxLen ∧ zs.length = cap ∧ (∀ i, i < zs.length → w.cell? (x.add i) = some (.int k (zs.getD i 0))) ∧ ∀ n ∈ zs, (Lit.int k n).wf = true


theorem isRow_ints {k : IntKind} {w : World} {a : Option Addr} {len cap : Nat} {zs : List Int} (h : IsRow k w a len cap zs) : ∃ l : List Int, l.length = len ∧ Ints k w (.slice a l.length cap) l := by
  rcases h with ⟨rfl, rfl, rfl, rfl⟩ | ⟨x, rfl, hl, hm, hz, hcell, _⟩
  · exact ⟨[], rfl, .inl ⟨rfl, none, 0, rfl⟩⟩
  · refine ⟨zs.take len, by simp; omega, ?_⟩
    have hlen : (zs.take len).length = len := by simp; omega
    rw [hlen]
    rcases Nat.eq_zero_or_pos len with h0 | h0
    · subst h0
      exact .inl ⟨rfl, some x, cap, rfl⟩
    · obtain ⟨b, off, spot⟩ := x
      have hs : spot = none := by
        have := hcell 0 (by omega)
        unfold World.cell? Addr.add at this
        rw [if_pos rfl] at this
        cases spot with
        | none => rfl
        | some y => split at this <;> simp at this
      subst hs
      refine .inr ⟨by omega, b, off, cap, by rw [hlen], by omega, fun i hi => ?_⟩
      rw [hlen] at hi
      have := hcell i (by omega)
      rw [Addr.add_lit] at this
      rw [this]
      congr 2
      simp [List.getD, hi]

set_option maxHeartbeats 4000000 in
set_option maxRecDepth 100000 in
theorem walk1 (A : Option Addr) (c : Nat) (l : List Int) (w : World) (hI : Ints .i32 w (.slice A l.length c) l) (hlm : l.length ≤ 9223372036854775807) :
    Calls Try.prog 3 #[.slice A l.length c] w fun e w' => e = .returned (.bool true) ∧ Below w.heap.size w w' := by
  by_cases hlong : 60 < l.length
  · clear hI
    go_enter Try.func3, Try.ntmps3
    go_wp2_with fail
    refine (awake_any _).mono ?_
    rintro e w1 ⟨rfl, hb⟩
    go_wp2
    go_ret
    exact ⟨rfl, hb⟩
  · have HI := Lib.hid hI
    by_cases hbad : (l.any fun c => !Lib.validRune c) = true
    · obtain ⟨n, hn, hns⟩ : ∃ n, n < l.length ∧ scalar (l.getD n 0) = false := by
        obtain ⟨x, hx, hx2⟩ := List.any_eq_true.1 hbad
        obtain ⟨n, hn, rfl⟩ := List.mem_iff_getElem.1 hx
        refine ⟨n, hn, ?_⟩
        have : Lib.validRune l[n] = false := by simpa using hx2
        have ga : l.getD n 0 = l[n] := by simp [List.getD, hn]
        rw [ga]
        exact this
      have HB := Lib.hid hbad
      have HNS := Lib.hid hns
      obtain ⟨b, off, hA, hcell⟩ : ∃ b off, A = some ⟨b, off, none⟩ ∧ l.length ≤ c ∧ ∀ i, i < l.length → w.cell? ⟨b, off + i, none⟩ = some (.int .i32 (l.getD i 0)) := by
        rcases hI with ⟨rfl, _⟩ | ⟨_, b, off, c', h, hc, hcell⟩
        · simp at hn
        · injection h with h1 _ h2
          exact ⟨b, off, h1, h2 ▸ hc, hcell⟩
      subst hA
      obtain ⟨hc, hcell⟩ := hcell
      have HC := Lib.hid hcell
      clear hI hbad hns hcell
      go_enter Try.func3, Try.ntmps3
      go_wp2_with fail
      refine (awake_any _).mono ?_
      rintro e w1 ⟨rfl, hb1⟩
      have HI1 := Lib.hid (HI.out.below hb1)
      go_wp2_with fail
      refine (encode_bad _ l _ (by omega) HI1.out HB.out).mono ?_
      rintro e w2 ⟨x, rfl, hf, hb2⟩
      obtain ⟨g, cc, rfl, hg⟩ := hf
      have hB2 := hb1.trans (hb2.mono hb1.size)
      clear hb2 hb1 hg
      go_wp2
      go_loopw [6] (fun x wr => ∃ k : Nat, k ≤ n ∧ x = .int .i64 k ∧ Below w.heap.size w wr) (fun x _ => l.length - (intOf x).toNat)
      case atStart => exact ⟨0, by omega, rfl, hB2⟩
      case round =>
        obtain ⟨k, hk, rfl, hB⟩ := hrel
        have hlt : k < l.length := by omega
        have d1 := HC.out k hlt
        rw [← hB.cell (World.block_lt_of_cell? w _ d1)] at d1
        have ga : l.getD k 0 = l[k] := by simp [List.getD, hlt]
        by_cases hsc : scalar (l.getD k 0) = true
        · have hkn : k ≠ n := by
            rintro rfl
            rw [HNS.out] at hsc
            cases hsc
          have HS := Lib.hid hsc
          rw [ga] at d1 HS
          clear hsc ga
          go_wp2_with fail
          refine (scalar_any _ _).mono ?_
          rintro e w' ⟨rfl, rfl⟩
          rw [HS.out]
          go_wp2
          go_roundw
          case rel => exact ⟨k + 1, by omega, by go_num, hB⟩
          case measure => simp [intOf]; omega
        · have HS := Lib.hid (show scalar (l.getD k 0) = false by simpa using hsc)
          rw [ga] at d1 HS
          clear hsc ga
          go_wp2_with fail
          refine (scalar_any _ _).mono ?_
          rintro e w' ⟨rfl, rfl⟩
          rw [HS.out]
          go_wp2
          go_ret
          exact ⟨rfl, hB⟩
    · have hg : (l.any fun c => !Lib.validRune c) = false := by simpa using hbad
      have hv : ∀ c ∈ l, scalar c = true := by
        intro x hx
        have h1 := List.any_eq_false.1 hg x hx
        have h2 : Lib.validRune x = true := by simpa using h1
        exact h2
      have HV := Lib.hid hv
      have HG := Lib.hid hg
      have HDe := Lib.hid (decP_encode l (by omega) hv)
      have HLo := Lib.hid (encode_low l (by omega) hv)
      have HC := Lib.hid (show ∀ i, i < l.length → ∃ b off, A = some ⟨b, off, none⟩ ∧ l.length ≤ c ∧ w.cell? ⟨b, off + i, none⟩ = some (.int .i32 (l.getD i 0)) by
        intro i hi
        rcases hI with ⟨rfl, _⟩ | ⟨_, b, off, c', h, hc, hcell⟩
        · simp at hi
        · injection h with h1 _ h2
          exact ⟨b, off, h1, h2 ▸ hc, hcell i hi⟩)
      clear hI hbad hg hv
      go_enter Try.func3, Try.ntmps3
      go_wp2_with fail
      refine (awake_any _).mono ?_
      rintro e w1 ⟨rfl, hb1⟩
      have HI1 := Lib.hid (HI.out.below hb1)
      go_wp2_with fail
      refine (encode_long _ l _ (by omega) HI1.out HG.out).mono ?_
      rintro e w2 ⟨rfl, hb2, hlen⟩
      have hB2 := hb1.trans (hb2.mono hb1.size)
      obtain ⟨S, hS⟩ : ∃ S : ByteArray, S = ⟨(encode l).toArray⟩ := ⟨_, rfl⟩
      have hSl : S.data.toList = encode l := by rw [hS]
      have hSs : S.size = (encode l).length := by rw [hS]; rfl
      rw [← hS]
      have HSL := Lib.hid hSl
      have hS2 : S.size ≤ 60000 := by omega
      clear hb2 hb1 hS hSl hSs hlen
      go_wp2
      go_loopw [6] (fun x wr => ∃ k : Nat, k ≤ l.length ∧ x = .int .i64 k ∧ Below w.heap.size w wr) (fun x _ => l.length - (intOf x).toNat)
      case atStart => exact ⟨0, by omega, rfl, hB2⟩
      case round =>
        obtain ⟨k, hk, rfl, hB⟩ := hrel
        by_cases hlt : k < l.length
        · obtain ⟨b, off, hA, hc, hcell⟩ := HC.out k hlt
          subst hA
          have d1 := hcell
          rw [← hB.cell (World.block_lt_of_cell? w _ d1)] at d1
          have ga : l.getD k 0 = l[k] := by simp [List.getD, hlt]
          have HS := Lib.hid (show scalar l[k] = true from HV.out _ (List.getElem_mem hlt))
          rw [ga] at d1
          clear ga hcell
          go_wp2_with fail
          refine (scalar_any _ _).mono ?_
          rintro e w' ⟨rfl, rfl⟩
          rw [HS.out]
          go_wp2
          go_roundw
          case rel => exact ⟨k + 1, by omega, by go_num, hB⟩
          case measure => simp [intOf]; omega
        · go_wp2_with fail
          refine (decode_any S _ hS2).mono ?_
          rintro e w3 hp
          unfold DecPost at hp
          rw [HSL.out, HDe.out] at hp
          obtain ⟨v3, rfl, hown, hb3⟩ := hp
          have HI3 := Lib.hid (own_ints hown)
          have hB3 := hB.trans (hb3.mono hB.size)
          clear hown hb3
          go_wp2
          go_loopw [9] (fun x wr => ∃ k : Nat, k ≤ S.size ∧ x = .int .i64 k ∧ Below w3.heap.size w3 wr) (fun x _ => S.size - (intOf x).toNat)
          case atStart => exact ⟨0, by omega, rfl, Below.refl _ _⟩
          case round =>
            obtain ⟨k2, hk2, rfl, hBB⟩ := hrel
            by_cases hlt2 : k2 < S.size
            · have hu : S[k2].toNat < 128 := HLo.out _ (by
                rw [← HSL.out]
                exact List.getElem_mem (n := k2) (by simpa using hlt2))
              go_wp2
              go_roundw
              case rel => exact ⟨k2 + 1, by omega, by go_num, by repeat (first | exact hBB | apply Below.drewN | apply Below.drew)⟩
              case measure => simp [intOf]; omega
            · have HI4 := Lib.hid (HI3.out.below hBB)
              have hB4 := hB3.trans (hBB.mono hB3.size)
              have HI5 := Lib.hid (HI.out.below hB4)
              obtain ⟨A3, c3, rfl⟩ := ints_slice HI4.out
              have HBeq := Lib.hid (show (l == l) = true from beq_self_eq_true l)
              go_wp2_with fail
              refine (same_any _ _ l l _ HI4.out HI5.out (by omega) (by omega)).mono ?_
              rintro e w5 ⟨rfl, hb5⟩
              rw [HBeq.out]
              go_wp2
              go_ret
              exact ⟨rfl, hB4.trans (hb5.mono hB4.size)⟩

theorem walk (a0 : Option Addr) (len0 cap0 : Nat) (z0 : List Int) (w : World) (w0 : IsRow .i32 w a0 len0 cap0 z0) :
    Calls Try.prog 3 #[.slice a0 len0 cap0] w fun e w' => e = .returned (.bool true) ∧ Below w.heap.size w w' := by
  have hm : len0 ≤ 9223372036854775807 := by
    rcases w0 with ⟨_, rfl, _⟩ | ⟨_, _, h1, h2, _⟩
    · omega
    · unfold maxLen at h2; omega
  obtain ⟨l, hl, hI⟩ := isRow_ints w0
  subst hl
  exact walk1 a0 cap0 l w hI hm

theorem own : ownKnob Try.prog.godebug = none := by kernel_rfl
theorem laidOut : laidOutB Try.prog = true := by kernel_rfl

/-! ### THE ROW's STEP: WRITTEN OUT: LEAVE IT -/
set_option maxRecDepth 100000 in
theorem lifted (os : Os) (started : os.Started) (H : Type) (enc : TypeId × Value → H) :
    ReturnsInHanded {} Try.checked os 3 .any (Rows.punyBackSpec.pre6 enc Try.prog Try.f3 Rows.punyBackRow.domain false) (Rows.punyBackSpec.post enc Try.prog Try.f3 false true false false) := by
  refine returnsInHanded_of_change (C := Try.checked) own started (by kernel_rfl) Try.func3
    (ChangeSpec.witness6 (enc := enc) (C := Try.checked) false ⟨#[], #[.slice none 0 0], []⟩ 8 (by kernel_rfl) (by kernel_rfl) (by kernel_rfl) (by kernel_rfl)) ?_
  intro W base args ds gs before hval0 hW hcnd _
  have hval : ∀ (j : Nat) t v, Try.f3.params[j]? = some t → args[j]? = some v → Value.okWide Try.prog W .any base t v := hval0
  have hW' := hW
  obtain ⟨p, q, hA0, hV, rfl, hfz, hnd⟩ := hW
  have hA : DataW.TrodAll enc Try.prog W 0 (fun _ => true) true Try.f3.params.toList args.toList ds p := hA0
  rw [Try.params3] at hA hval
  obtain ⟨v0, vs0, d0, ds0, p0, q0, hargs, rfl, rfl, h0, r0⟩ := trodAll_cons hA
  obtain ⟨rfl, rfl, rfl⟩ := trodAll_nil r0
  obtain rfl : args = #[v0] := by cases args; simp_all
  obtain ⟨rfl, rfl⟩ := trodVars_none hV
  obtain ⟨a0, len0, cap0, rfl⟩ := okWide_slice Try.underlying22 (hval 0 22 v0 rfl rfl)
  have k0 := h0
  have lt0 : ∀ x ∈ p0, x.block < W.heap.size := by obtain ⟨m, hm⟩ := k0; exact DataW.trod_lt m _ _ _ hm
  obtain ⟨z0, w0⟩ : ∃ zs, IsRow .i32 W a0 len0 cap0 zs := by
    obtain ⟨fuel, hf⟩ := h0
    rcases open_ints Try.underlying22 Try.underlying21 (by kernel_rfl) hf with ⟨hcs, _⟩ | ⟨x, l, c, zs, hcs, _, hl, hm, hz, _, hcell, hwz⟩
    · simp [Value.cells] at hcs
      obtain ⟨rfl, rfl, rfl⟩ := hcs
      exact ⟨[], .inl ⟨rfl, rfl, rfl, rfl⟩⟩
    · simp [Value.cells] at hcs
      obtain ⟨rfl, rfl, rfl⟩ := hcs
      exact ⟨zs, .inr ⟨_, rfl, hl, hm, by simpa using hz, hcell, hwz⟩⟩
  clear hA0 hval0
  refine (walk a0 len0 cap0 z0 W w0).mono fun e W' ⟨he, bel⟩ => ?_
  subst he
  exact ⟨_, rfl, _, _, _, [], _, [], hW', trodAll_mk1 (shut_bool Try.underlying4 _), (trodAll_cons_mk (Below.trod laidOut (by kernel_rfl) (of_decide_eq_true (by kernel_rfl)) k0 bel lt0) trodAll_mk0), rfl, bel.frame _, fun h => by cases h⟩

theorem over : Rows.punyBackRow.holds Try.pinned (OpenSpec.ofChange Rows.punyBackSpec) :=
  OpenClaim.holds_of_wide 3 Try.f3 rfl rfl rfl rfl rfl rfl rfl ⟨rfl, rfl, rfl, rfl, rfl⟩ rfl rfl rfl rfl rfl (by kernel_rfl) Try.func3 (by kernel_rfl)
    (of_decide_eq_true (by kernel_rfl)) (by unfold Func.isWrapper; first | (rw [if_pos (by decide +kernel)]; kernel_rfl) | (rw [if_neg (by decide +kernel)]; exact ⟨rfl, rfl⟩))
    (fun os started H enc _ => lifted os started H enc)

/-- ████ THE STATEMENT ████ -/
theorem proved : Rows.PunyBackSaid := over
#print axioms proved

end Go.Proofs.Ytpoopgifikcneaa.PunyBackL
