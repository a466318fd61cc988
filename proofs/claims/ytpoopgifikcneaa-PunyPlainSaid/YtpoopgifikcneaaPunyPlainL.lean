/- Code points below 128 alone are told by themselves and a hyphen: gatepostlaw04.PunyPlain returns true at every text; no conditions. -/
import Derived.Test.YtpoopgifikcneaaPunyA
import Derived.Test.YtpoopgifikcneaaRows
import Derived.ProofKit
import Derived.OpenShut
import Derived.ShutString
set_option linter.unusedVariables false
set_option linter.unusedSimpArgs false
namespace Go.Proofs.Ytpoopgifikcneaa.PlainL
open Go.ChangeShapes Go.WideShapes Go.ChangeAt Go.RowKit PunyP
open Go.ChangeMaps (open_string shut_string)

def byteOf (c : Int) : UInt8 := UInt8.ofNat c.toNat
theorem encode_ascii (l : List Int) (h : ∀ c ∈ l, 0 ≤ c ∧ c < 128) : encode l = if l = [] then [] else l.map byteOf ++ [45] := by
  have hb : basics l = l.map byteOf := by
    unfold basics
    rw [List.filter_eq_self.2 (fun c hc => by simpa using (h c hc).2)]
    rfl
  have hl : (basics l).length = l.length := by rw [hb]; simp
  unfold encode
  rw [encE_done _ _ _ _ _ (by show ¬ (basics l).length < l.length; omega)]
  show head l = _
  unfold head
  rw [hb]
  by_cases e : l = []
  · subst e; rfl
  · rw [if_neg (by simpa using e), if_neg e]
theorem utf8_ascii (c : Int) (h0 : 0 ≤ c) (h : c < 128) : Utf8.encode c = ⟨#[byteOf c]⟩ := by
  unfold Utf8.encode
  have hv : Utf8.valid c = true := by unfold Utf8.valid; simp; omega
  rw [hv]
  simp only [if_true]
  rw [if_pos (by omega)]
  rfl
theorem runesBytes_ascii (l : List Int) (h : ∀ c ∈ l, 0 ≤ c ∧ c < 128) : runesBytes l = ⟨(l.map byteOf).toArray⟩ := by
  have key : ∀ (l : List Int), (∀ c ∈ l, 0 ≤ c ∧ c < 128) → ∀ b : ByteArray, l.foldl (fun r n => r ++ Utf8.encode n) b = ⟨b.data ++ (l.map byteOf).toArray⟩ := by
    intro l
    induction l with
    | nil => intro _ b; simp
    | cons c l ih =>
      intro h b
      rw [List.foldl_cons, ih (fun x hx => h x (List.mem_cons_of_mem _ hx)), utf8_ascii c (h c (by simp)).1 (h c (by simp)).2]
      congr 1
      simp
  have := key l h ByteArray.empty
  unfold runesBytes
  rw [this]
  simp

/-- The list that the law makes of a text. -/
def modd (s : ByteArray) : List Int := s.data.toList.map fun c => (c.toNat : Int) % 128
theorem modd_range (s : ByteArray) : ∀ c ∈ modd s, 0 ≤ c ∧ c < 128 := by
  intro c hc
  obtain ⟨x, _, rfl⟩ := List.mem_map.1 hc
  omega
theorem modd_take (s : ByteArray) (k : Nat) (h : k < s.size) : (modd s).take (k + 1) = (modd s).take k ++ [(s[k].toNat : Int) % 128] := by
  unfold modd
  rw [List.take_succ_eq_append_getElem (by simpa using h)]
  simp
  rfl

set_option maxHeartbeats 4000000 in
set_option maxRecDepth 100000 in
theorem walk (s : ByteArray) (ws : s.size ≤ maxLen) (w : World) :
    Calls Try.prog 5 #[.string s] w fun e w' => e = .returned (.bool true) ∧ Below w.heap.size w w' := by
  unfold maxLen at ws
  by_cases hlong : 60 < s.size
  · go_enter Try.func5, Try.ntmps5
    go_wp2_with fail
    refine (awake_any _).mono ?_
    rintro e w1 ⟨rfl, hb⟩
    go_wp2
    go_ret
    exact ⟨rfl, hb⟩
  · obtain ⟨i0, hi, hz0, hz1, hz2⟩ := info_parts infoRune
    have hml : (modd s).length = s.size := by simp [modd]
    have HML := Lib.hid hml
    clear hml
    go_enter Try.func5, Try.ntmps5
    go_wp2_with fail
    refine (awake_any _).mono ?_
    rintro e w1 ⟨rfl, hb1⟩
    go_wp2_with fail
    go_loopw [4, 5] (fun x4 x5 wr => ∃ (k : Nat) (ao : Option Addr) (cap : Nat), k ≤ s.size ∧ x5 = .int .i64 k ∧ x4 = .slice ao k cap ∧ wr.ownsRow w.heap.size 21 1 (.slice ao k cap) k (((modd s).take k).map (Value.int .i32)) ∧ Below w.heap.size w wr) (fun _ x5 _ => s.size - (intOf x5).toNat)
    case atStart => exact ⟨0, none, 0, by omega, rfl, rfl, World.ownsRow_nil _ _ _ _, hb1⟩
    case round =>
      obtain ⟨k, ao, cap, hk, rfl, rfl, hown, hB⟩ := hrel
      by_cases hlt : k < s.size
      · have HT := Lib.hid (modd_take s k hlt)
        have hu := s[k].toNat_lt
        go_wp2_with (at_builtin; refine wpList_append_own _ rfl _ _ 22 rfl w.heap.size 21 i0 (.int .i32 0) 1 4 Try.underlying22 hi hz0 hz1 hz2 rfl (by decide) _ _ _ rfl (hown.alloc _) ⟨wr.heap.size, 0, none⟩ 1 1 [.int .i32 ((s[k].toNat : Int) % 128)] rfl rfl ?c1 ?c2 ?c3 ?c4 ?c5 ?_)
        case c1 =>
          intro j u hj
          match j, hj with
          | 0, hj => simp at hj; subst hj; simp [Addr.add]
        case c2 => intro u hu; simp at hu; subst hu; rfl
        case c3 => unfold maxLen; omega
        case c4 => omega
        case c5 => have := hB.size; simp; omega
        intro v' w2 hown' hgrow _
        have hown2 : w2.ownsRow w.heap.size 21 1 v' (k + 1) (((modd s).take (k + 1)).map (Value.int .i32)) := by
          rw [HT.out]; simpa [List.map_take] using hown'
        obtain ⟨ao', cap', rfl⟩ := own_shape hown2
        have hlow := hown.lt
        have hB2 : Below w.heap.size w w2 := (hB.alloc hB.size _).grown hgrow (by have := hB.size; simp; omega) (fun q hq => (hlow q hq).1)
        clear hown hown' hgrow hlow
        go_wp2
        go_roundw
        case rel => exact ⟨k + 1, ao', cap', by omega, by go_num, rfl, hown2, hB2⟩
        case measure => simp [intOf]; omega
      · obtain rfl : k = s.size := by omega
        rw [List.take_of_length_le (by rw [HML.out]; exact Nat.le_refl _)] at hown
        have hI := own_ints (l := modd s) (by rw [HML.out]; exact hown)
        have HI := Lib.hid hI
        have HE := Lib.hid (encode_ascii (modd s) (modd_range s))
        have hgood : ((modd s).any fun c => !Lib.validRune c) = false := by
          rw [List.any_eq_false]
          intro c hc
          have := modd_range s c hc
          unfold Lib.validRune
          simp
          omega
        have HG := Lib.hid hgood
        clear hI hgood hown
        go_wp2_with fail
        refine (encode_good _ (modd s) _ (by rw [HML.out]; omega) HI.out HG.out).mono ?_
        rintro e w2 ⟨rfl, hb2⟩
        have hB2 := hB.trans (hb2.mono hB.size)
        have HI2 := Lib.hid (HI.out.below hb2)
        rw [HE.out]
        have hcv := conv_runes HI2.out
        rw [runesBytes_ascii _ (modd_range s)] at hcv
        clear hb2
        by_cases h0 : s.size = 0
        · have hn : modd s = [] := List.eq_nil_of_length_eq_zero (by rw [HML.out]; exact h0)
          rw [if_pos hn]
          have h00 : ((s.size : Int) == 0) = true := beq_iff_eq.2 (by omega)
          have HN := Lib.hid hn
          clear hn h0 hcv
          go_wp2
          go_ret
          exact ⟨rfl, hB2⟩
        · have hn : ¬ modd s = [] := fun e => h0 (by rw [← HML.out, e]; rfl)
          rw [if_neg hn]
          have h00 : ((s.size : Int) == 0) = false := beq_eq_false_iff_ne.2 (by omega)
          have HN := Lib.hid hn
          clear hn
          have hXl : ((modd s).map byteOf).length = s.size := by rw [List.length_map]; exact HML.out
          generalize (modd s).map byteOf = X at *
          have hX2 : X.length + 1 ≤ 9223372036854775807 := by omega
          have hbe : (X ++ [45] == ((⟨X.toArray⟩ : ByteArray) ++ (⟨#[45]⟩ : ByteArray)).toList) = true := by
            rw [beq_iff_eq, Lib.toList_data]
            simp
          clear hXl
          go_wp2
          go_ret
          exact ⟨rfl, hB2⟩

/-! ### The row -/
theorem own : ownKnob Try.prog.godebug = none := by kernel_rfl
theorem laidOut : laidOutB Try.prog = true := by kernel_rfl
set_option maxRecDepth 100000 in
theorem lifted (os : Os) (started : os.Started) (H : Type) (enc : TypeId × Value → H) :
    ReturnsInHanded {} Try.checked os 5 .any (Rows.punyPlainSpec.pre6 enc Try.prog Try.f5 Rows.punyPlainRow.domain false) (Rows.punyPlainSpec.post enc Try.prog Try.f5 false true false false) := by
  refine returnsInHanded_of_change (C := Try.checked) own started (by kernel_rfl) Try.func5
    (ChangeSpec.witness6 (enc := enc) (C := Try.checked) false ⟨#[], #[.string ByteArray.empty], []⟩ 8 (by kernel_rfl) (by kernel_rfl) (by kernel_rfl) (by kernel_rfl)) ?_
  intro W base args ds gs before hval0 hW hcnd _
  have hval : ∀ (j : Nat) t v, Try.f5.params[j]? = some t → args[j]? = some v → Value.okWide Try.prog W .any base t v := hval0
  have hW' := hW
  obtain ⟨p, q, hA0, hV, rfl, hfz, hnd⟩ := hW
  have hA : DataW.TrodAll enc Try.prog W 0 (fun _ => true) true Try.f5.params.toList args.toList ds p := hA0
  rw [Try.params5] at hA hval
  obtain ⟨v0, vs0, d0, ds0, p0, q0, hargs, rfl, rfl, h0, r0⟩ := trodAll_cons hA
  obtain ⟨rfl, rfl, rfl⟩ := trodAll_nil r0
  obtain rfl : args = #[v0] := by cases args; simp_all
  obtain ⟨rfl, rfl⟩ := trodVars_none hV
  have k0 := h0
  have lt0 : ∀ x ∈ p0, x.block < W.heap.size := by obtain ⟨m, hm⟩ := k0; exact DataW.trod_lt m _ _ _ hm
  obtain ⟨a0, rfl, _, _, w0⟩ := open_string Try.underlying9 (hval 0 9 v0 rfl rfl) h0
  clear hA0 hval0
  refine (walk a0 w0 W).mono fun e W' ⟨he, bel⟩ => ?_
  subst he
  exact ⟨_, rfl, _, _, _, [], _, [], hW', trodAll_mk1 (shut_bool Try.underlying4 _), (trodAll_cons_mk (Below.trod laidOut (by kernel_rfl) (of_decide_eq_true (by kernel_rfl)) k0 bel lt0) trodAll_mk0), rfl, bel.frame _, fun h => by cases h⟩

theorem over : Rows.punyPlainRow.holds Try.pinned (OpenSpec.ofChange Rows.punyPlainSpec) :=
  OpenClaim.holds_of_wide 5 Try.f5 rfl rfl rfl rfl rfl rfl rfl ⟨rfl, rfl, rfl, rfl, rfl⟩ rfl rfl rfl rfl rfl (by kernel_rfl) Try.func5 (by kernel_rfl)
    (of_decide_eq_true (by kernel_rfl)) (by unfold Func.isWrapper; first | (rw [if_pos (by decide +kernel)]; kernel_rfl) | (rw [if_neg (by decide +kernel)]; exact ⟨rfl, rfl⟩))
    (fun os started H enc _ => lifted os started H enc)

theorem proved : Rows.PunyPlainSaid := over
#print axioms proved

end Go.Proofs.Ytpoopgifikcneaa.PlainL
