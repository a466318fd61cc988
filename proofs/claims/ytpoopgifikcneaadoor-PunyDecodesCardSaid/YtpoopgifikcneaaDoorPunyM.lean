/- Punycode is told there and back, in plain words: to decode what was encoded gives the list, and to encode what was decoded gives the text; lists have at most 1000 numbers. -/
import Derived.Test.YtpoopgifikcneaaDoorPunyQ
set_option linter.unusedVariables false
set_option linter.unusedSimpArgs false
namespace Go.Proofs.YtpoopgifikcneaaDoor.PunyP

/-! ### Digits -/
theorem val_dig : ∀ q : Fin 36, val (dig q.val) = some q.val := by decide +kernel
theorem val_dig' (q : Nat) (h : q < 36) : val (dig q) = some q := val_dig ⟨q, h⟩
theorem dig_low : ∀ q : Fin 36, (dig q.val).toNat < 128 ∧ dig q.val ≠ 45 := by decide +kernel

/-- A small letter for a capital one. -/
def low (c : UInt8) : UInt8 := if 65 ≤ c.toNat ∧ c.toNat ≤ 90 then UInt8.ofNat (c.toNat + 32) else c
theorem low_val : ∀ n : Fin 256, ∀ d, val (UInt8.ofNat n.val) = some d → low (UInt8.ofNat n.val) = dig d := by decide +kernel
theorem low_val' (c : UInt8) (d : Nat) (h : val c = some d) : low c = dig d := by
  have := low_val ⟨c.toNat, c.toNat_lt⟩ d (by simpa using h)
  simpa using this
theorem low_dig : ∀ q : Fin 36, low (dig q.val) = dig q.val := by decide +kernel

theorem tell_all (P : UInt8 → Prop) (hP : ∀ q, q < 36 → P (dig q)) (q : Nat) : ∀ k b, ∀ c ∈ tell q k b, P c := by
  induction q using Nat.strongRecOn with
  | _ q ih =>
    intro k b c hc
    have h1 := thr_lo k b
    have h2 := thr_hi k b
    rw [tell_step] at hc
    by_cases h : q < thr k b
    · rw [if_pos h] at hc
      simp at hc
      subst hc
      exact hP q (by omega)
    · rw [if_neg h] at hc
      rcases List.mem_cons.1 hc with rfl | hc
      · have : (q - thr k b) % (36 - thr k b) < 36 - thr k b := Nat.mod_lt _ (by omega)
        exact hP _ (by omega)
      · exact ih _ (tell_next q k b h) _ _ c hc

/-- A number's digits are read as the number. -/
theorem rd_tell (Q : Nat) (hQ : 35 * Q ≤ MOST) (rest : List UInt8) (bias : Nat) (q : Nat) : ∀ (k i w : Nat), 1 ≤ w → w * q ≤ Q → i + w * q ≤ MOST →
    rd (tell q ((k + 1) * 36) bias ++ rest) k i w bias = (i + w * q, k + (tell q ((k + 1) * 36) bias).length) := by
  induction q using Nat.strongRecOn with
  | _ q ih =>
    intro k i w hw hwq hi
    have h1 := thr_lo ((k + 1) * 36) bias
    have h2 := thr_hi ((k + 1) * 36) bias
    rw [tell_step]
    by_cases h : q < thr ((k + 1) * 36) bias
    · rw [if_pos h]
      simp only [List.singleton_append, List.length_singleton]
      rw [rd_end _ _ _ _ _ _ q (val_dig' q (by omega)) (by rw [Nat.mul_comm]; omega) h, Nat.mul_comm q w]
    · rw [if_neg h]
      generalize hT : thr ((k + 1) * 36) bias = T at *
      have hlt := Nat.mod_lt (q - T) (show 0 < 36 - T by omega)
      have hdm := Nat.div_add_mod (q - T) (36 - T)
      have hn : (q - T) / (36 - T) < q := by rw [← hT]; exact tell_next q _ bias (by rw [hT]; exact h)
      generalize hr : (q - T) % (36 - T) = r at *
      generalize hq' : (q - T) / (36 - T) = q' at *
      have hq : q = (T + r) + (36 - T) * q' := by omega
      have e1 : w * q = (T + r) * w + w * (36 - T) * q' := by
        rw [hq, Nat.mul_add, Nat.mul_comm w (T + r), Nat.mul_assoc]
      have hq1 : 1 ≤ q := by omega
      have hwle : w ≤ w * q := Nat.le_mul_of_pos_right _ (by omega)
      have hw35 : w * (36 - T) ≤ w * 35 := Nat.mul_le_mul_left _ (by omega)
      simp only [List.cons_append, List.length_cons]
      rw [rd_on _ _ _ _ _ _ (T + r) (val_dig' _ (by omega)) (by omega) (by rw [hT]; omega) (by rw [hT]; unfold MOST at *; omega), hT]
      rw [show (k + 1) * 36 + 36 = (k + 1 + 1) * 36 by omega]
      by_cases hz : q' = 0
      · subst hz
        have h0 := thr_lo ((k + 1 + 1) * 36) bias
        rw [tell_step, if_pos (by omega), List.singleton_append, rd_end _ _ _ _ _ _ 0 (val_dig' 0 (by omega)) (by simp at e1 ⊢; omega) (by omega)]
        simp at e1 ⊢
        omega
      · have hq1' : 1 ≤ q' := by omega
        have hle : w * (36 - T) ≤ w * (36 - T) * q' := Nat.le_mul_of_pos_right _ (by omega)
        have := ih q' hn (k + 1) (i + (T + r) * w) (w * (36 - T)) (Nat.mul_pos hw (by omega)) (by omega) (by omega)
        rw [this]
        simp
        omega

theorem rd_tell0 (q : Nat) (rest : List UInt8) (bias : Nat) (h : 35 * q ≤ MOST) : rd (tell q 36 bias ++ rest) 0 0 1 bias = (q, (tell q 36 bias).length) := by
  have := rd_tell q h rest bias q 0 0 1 (by omega) (by omega) (by omega)
  simpa using this

/-- What is read as a number is that number's digits. -/
theorem rd_low (s : List UInt8) : ∀ (k i w bias q m : Nat), 1 ≤ w → rd s k i w bias = (q, m) → m ≠ 0 → ∃ d, q = i + w * d ∧ k < m ∧ (s.take (m - k)).map low = tell d ((k + 1) * 36) bias := by
  induction s with
  | nil => intro k i w bias q m _ h hm; simp [rd] at h; omega
  | cons c r ih =>
    intro k i w bias q m hw h hm
    rcases hv : val c with _ | d
    · rw [rd_none c r k i w bias hv] at h
      simp at h; omega
    · by_cases h1 : MOST < i + d * w
      · rw [rd_many c r k i w bias d hv h1] at h
        simp at h; omega
      · by_cases h2 : d < thr ((k + 1) * 36) bias
        · rw [rd_end c r k i w bias d hv h1 h2] at h
          injection h with h3 h4
          refine ⟨d, by rw [Nat.mul_comm]; exact h3.symm, by omega, ?_⟩
          rw [← h4, show k + 1 - k = 1 by omega, tell_step, if_pos h2]
          simp [low_val' c d hv]
        · by_cases h3 : MOST < w * (36 - thr ((k + 1) * 36) bias)
          · rw [rd_big c r k i w bias d hv h1 h2 h3] at h
            simp at h; omega
          · rw [rd_on c r k i w bias d hv h1 h2 h3] at h
            have t2 := thr_hi ((k + 1) * 36) bias
            obtain ⟨d', e1, e2, e3⟩ := ih (k + 1) _ _ bias q m (Nat.mul_pos hw (by omega)) h hm
            have hd := val_lt c d hv
            generalize hT : thr ((k + 1) * 36) bias = T at *
            have eD : (T + (d - T)) + (36 - T) * d' = d + (36 - T) * d' := by omega
            refine ⟨d + (36 - T) * d', ?_, by omega, ?_⟩
            · rw [e1, Nat.mul_add, Nat.mul_assoc, Nat.mul_comm d w]; omega
            · rw [tell_step, hT, if_neg (by omega)]
              have e4 : d + (36 - T) * d' - T = (d - T) + (36 - T) * d' := by omega
              rw [e4, Nat.add_mul_mod_self_left, Nat.mod_eq_of_lt (by omega), Nat.add_mul_div_left _ _ (by omega), Nat.div_eq_of_lt (by omega)]
              rw [show m - k = (m - (k + 1)) + 1 by omega, List.take_succ_cons, List.map_cons, e3, low_val' c d hv]
              rw [show T + (d - T) = d by omega, Nat.zero_add, show (k + 1) * 36 + 36 = (k + 1 + 1) * 36 by omega]
theorem rd_low0 (s : List UInt8) (bias q m : Nat) (h : rd s 0 0 1 bias = (q, m)) (hm : m ≠ 0) : (s.take m).map low = tell q 36 bias := by
  obtain ⟨d, e1, _, e3⟩ := rd_low s 0 0 1 bias q m (by omega) h hm
  have : q = d := by omega
  subst this
  simpa using e3

/-! ### To decode what was encoded -/
theorem decG_enough (f : Nat) : ∀ (g : Nat) (s : List UInt8) (n i b : Nat) (l : List Int), s.length < f → s.length < g → decG f s n i b l = decG g s n i b l := by
  induction f with
  | zero => intro g s n i b l h; omega
  | succ f ih =>
    intro g s n i b l h1 h2
    cases g with
    | zero => omega
    | succ g =>
      by_cases h : s = []
      · subst h; rw [decG_done, decG_done]
      · rcases hr : rd s 0 0 1 b with ⟨q, m⟩
        by_cases c1 : m = 0 ∨ MOST < i + q
        · rw [decG_stop f s n i b q m l h hr c1, decG_stop g s n i b q m l h hr c1]
        · by_cases c2 : 1114111 < n + (i + q) / (l.length + 1) ∨ scalar (n + (i + q) / (l.length + 1) : Nat) = false
          · rw [decG_high f s n i b q m l h hr c1 c2, decG_high g s n i b q m l h hr c1 c2]
          · rw [decG_on f s n i b q m l h hr c1 c2, decG_on g s n i b q m l h hr c1 c2]
            have hs : s.length ≠ 0 := fun e => h (List.length_eq_zero_iff.1 e)
            exact ih g _ _ _ _ _ (by simp; omega) (by simp; omega)
/-- 'decG' with fuel enough. -/
def decI (s : List UInt8) (n i b : Nat) (l : List Int) : Option (List Int) := decG (s.length + 1) s n i b l
theorem decI_nil (n i b : Nat) (l : List Int) : decI [] n i b l = some l := decG_done _ _ _ _ _
theorem decI_on (s : List UInt8) (n i b q m : Nat) (l : List Int) (h : s ≠ []) (hr : rd s 0 0 1 b = (q, m)) (h2 : ¬ (m = 0 ∨ MOST < i + q)) (h3 : ¬ (1114111 < n + (i + q) / (l.length + 1) ∨ scalar (n + (i + q) / (l.length + 1) : Nat) = false)) :
    decI s n i b l = decI (s.drop m) (n + (i + q) / (l.length + 1)) ((i + q) % (l.length + 1) + 1) (adapt q (l.length + 1) (i == 0)) (put l ((i + q) % (l.length + 1)) (n + (i + q) / (l.length + 1) : Nat)) := by
  unfold decI
  rw [decG_on _ s n i b q m l h hr h2 h3]
  have : s.length ≠ 0 := fun e => h (List.length_eq_zero_iff.1 e)
  exact decG_enough _ _ _ _ _ _ _ (by simp; omega) (by simp)

def upto (n : Nat) (l : List Int) : List Int := l.filter fun c => decide (c ≤ (n : Int))
def under (n : Nat) (l : List Int) : List Int := l.filter fun c => decide (c < (n : Int))

structure Inv (basic : Nat) (A r : List Int) (n : Nat) (s : St) (nd id : Nat) (lst : List Int) : Prop where
  lst_eq : lst = upto n A ++ under n r
  h_eq : s.h = lst.length
  d_eq : s.d + nd * (lst.length + 1) + id = n * (lst.length + 1) + (upto n A).length
  nd_le : nd ≤ n
  id_le : id ≤ lst.length
  first : id = 0 ↔ s.h = basic
  base : basic ≤ s.h

def IsDig (c : UInt8) : Prop := ∃ q, q < 36 ∧ c = dig q
theorem tell_ne (q k b : Nat) : tell q k b ≠ [] := by
  rw [tell_step]; split <;> simp

theorem pass_sim (basic n : Nat) (hn : scalar (n : Nat) = true) (r : List Int) : ∀ (A : List Int) (s : St) (nd id : Nat) (lst : List Int), Inv basic A r n s nd id lst → s.d + r.length ≤ 30000000000 → A.length + r.length ≤ 1000 →
    ∃ E nd' id' lst', (passE basic n r s).out = s.out ++ E ∧ Inv basic (A ++ r) [] n (passE basic n r s) nd' id' lst' ∧
      (∀ rest, decI (E ++ rest) nd id s.bias lst = decI rest nd' id' (passE basic n r s).bias lst') ∧ ∀ c ∈ E, IsDig c := by
  have hn2 : n ≤ 1114111 := by
    unfold scalar at hn
    simp at hn
    omega
  induction r with
  | nil => intro A s nd id lst h _ _; exact ⟨[], nd, id, lst, by simp [passE], by simpa [passE] using h, fun rest => by simp [passE], by simp⟩
  | cons c r ih =>
    intro A s nd id lst h hd hl
    have hp : passE basic n (c :: r) s = passE basic n r (stepE basic n s c) := rfl
    rw [hp]
    have hA : A ++ c :: r = (A ++ [c]) ++ r := by simp
    rw [hA]
    simp only [List.length_cons] at hd hl
    obtain ⟨h1, h2, h3, h4, h5, h6, h7⟩ := h
    by_cases c1 : c = (n : Int)
    · -- told
      have hst : stepE basic n s c = ⟨0, adapt s.d (s.h + 1) (s.h == basic), s.h + 1, s.out ++ tell s.d 36 s.bias⟩ := by unfold stepE; rw [if_pos c1]
      have hun : under n (c :: r) = under n r := by unfold under; rw [List.filter_cons_of_neg (by simp; omega)]
      have hup : upto n (A ++ [c]) = upto n A ++ [c] := by unfold upto; rw [List.filter_append]; simp [c1]
      rw [hun] at h1
      have hcl : (upto n A).length ≤ lst.length := by rw [h1]; simp
      generalize hK : lst.length = K at *
      obtain ⟨e, he⟩ : ∃ e, n = nd + e := ⟨n - nd, by omega⟩
      have hid : id + s.d = e * (K + 1) + (upto n A).length := by
        have : n * (K + 1) = nd * (K + 1) + e * (K + 1) := by conv => lhs; rw [he, Nat.add_mul]
        omega
      have hdiv : (id + s.d) / (K + 1) = e := by
        rw [hid, Nat.mul_comm, Nat.mul_add_div (by omega), Nat.div_eq_of_lt (by omega)]; rfl
      have hmod : (id + s.d) % (K + 1) = (upto n A).length := by
        rw [hid, Nat.mul_comm, Nat.mul_add_mod, Nat.mod_eq_of_lt (by omega)]
      have hput : put lst (upto n A).length (n : Int) = upto n (A ++ [c]) ++ under n r := by
        rw [hup, h1, c1]
        unfold put
        rw [List.take_left' rfl, List.drop_left' rfl]
        simp
      have hpl : (upto n (A ++ [c]) ++ under n r).length = K + 1 := by
        rw [← hput, put_length _ _ _ (by omega)]; omega
      have hKl : K ≤ 1000 := by
        rw [← hK, h1, List.length_append]
        have := List.length_filter_le (fun c => decide (c ≤ (n : Int))) A
        have := List.length_filter_le (fun c => decide (c < (n : Int))) r
        unfold upto under
        omega
      have hinv : Inv basic (A ++ [c]) r n (stepE basic n s c) n ((upto n A).length + 1) (upto n (A ++ [c]) ++ under n r) := by
        rw [hst]
        refine ⟨rfl, by rw [hpl]; show s.h + 1 = _; omega, ?_, by omega, by rw [hpl]; omega, ?_, by show basic ≤ s.h + 1; omega⟩
        · rw [hup]; simp
        · show _ ↔ s.h + 1 = basic
          omega
      obtain ⟨E, nd', id', lst', e1, e2, e3, e4⟩ := ih (A ++ [c]) _ n _ _ hinv (by rw [hst]; show 0 + r.length ≤ _; omega) (by simp; omega)
      refine ⟨tell s.d 36 s.bias ++ E, nd', id', lst', ?_, e2, fun rest => ?_, ?_⟩
      · rw [e1, hst]; simp
      · rw [← e3 rest, List.append_assoc]
        have hq : 35 * s.d ≤ MOST := by unfold MOST; omega
        have hne : tell s.d 36 s.bias ++ (E ++ rest) ≠ [] := by have := tell_ne s.d 36 s.bias; simp [this]
        have hm : (tell s.d 36 s.bias).length ≠ 0 := fun e => tell_ne s.d 36 s.bias (List.length_eq_zero_iff.1 e)
        rw [decI_on _ nd id s.bias s.d _ lst hne (rd_tell0 s.d _ s.bias hq) (by unfold MOST; omega) (by rw [hK, hdiv, ← he]; simp [hn]; omega)]
        rw [List.drop_left' rfl, hK, hdiv, hmod, ← he, hput, hst]
        have hfl : (id == 0) = (s.h == basic) := by
          rw [Bool.eq_iff_iff, beq_iff_eq, beq_iff_eq]; exact h6
        rw [hfl, h2]
      · intro x hx
        rcases List.mem_append.1 hx with hx | hx
        · exact tell_all IsDig (fun q hq => ⟨q, hq, rfl⟩) s.d 36 s.bias x hx
        · exact e4 x hx
    · by_cases c2 : c < (n : Int)
      · have hst : stepE basic n s c = { s with d := s.d + 1 } := by unfold stepE; rw [if_neg c1, if_pos c2]
        have hun : under n (c :: r) = c :: under n r := by unfold under; rw [List.filter_cons_of_pos (by simpa using c2)]
        have hup : upto n (A ++ [c]) = upto n A ++ [c] := by unfold upto; rw [List.filter_append]; simp; omega
        have hinv : Inv basic (A ++ [c]) r n (stepE basic n s c) nd id lst := by
          rw [hst]
          refine ⟨by rw [h1, hun, hup]; simp, h2, ?_, h4, h5, h6, h7⟩
          rw [hup]; simp; omega
        obtain ⟨E, nd', id', lst', e1, e2, e3, e4⟩ := ih (A ++ [c]) _ nd id lst hinv (by rw [hst]; show s.d + 1 + r.length ≤ _; omega) (by simp; omega)
        refine ⟨E, nd', id', lst', ?_, e2, fun rest => ?_, ?_⟩
        · rw [e1, hst]
        · rw [← e3 rest, hst]
        · exact e4
      · have hst : stepE basic n s c = s := by unfold stepE; rw [if_neg c1, if_neg c2]
        have hun : under n (c :: r) = under n r := by unfold under; rw [List.filter_cons_of_neg (by simpa using c2)]
        have hup : upto n (A ++ [c]) = upto n A := by unfold upto; rw [List.filter_append]; simp; omega
        have hinv : Inv basic (A ++ [c]) r n (stepE basic n s c) nd id lst := by
          rw [hst]
          exact ⟨by rw [h1, hun, hup], h2, by rw [hup]; exact h3, h4, h5, h6, h7⟩
        obtain ⟨E, nd', id', lst', e1, e2, e3, e4⟩ := ih (A ++ [c]) _ nd id lst hinv (by rw [hst]; omega) (by simp; omega)
        refine ⟨E, nd', id', lst', ?_, e2, fun rest => ?_, ?_⟩
        · rw [e1, hst]
        · rw [← e3 rest, hst]
        · exact e4

theorem filter_all {p : Int → Bool} (l : List Int) (h : (l.filter p).length = l.length) : l.filter p = l := by
  apply List.filter_eq_self.2
  have := List.length_filter_eq_length_iff.1 h
  exact this

set_option maxRecDepth 100000 in
theorem enc_sim (basic : Nat) (l : List Int) (hl : l.length ≤ 1000) (hv : ∀ c ∈ l, scalar c = true) (f : Nat) : ∀ (n : Nat) (s : St) (nd id : Nat) (lst : List Int), Inv basic [] l n s nd id lst → l.length ≤ s.h + f → s.d ≤ n * (l.length + 1) → n ≤ 1114112 →
    ∃ T, encE f l basic n s = s.out ++ T ∧ decI T nd id s.bias lst = some l ∧ ∀ c ∈ T, IsDig c := by
  have hv2 : ∀ c ∈ l, 0 ≤ c ∧ c ≤ 1114111 := by
    intro c hc
    have := hv c hc
    unfold scalar at this
    simp at this
    omega
  induction f with
  | zero =>
    intro n s nd id lst h hf hd hn
    obtain ⟨h1, h2, h3, h4, h5, h6, h7⟩ := h
    refine ⟨[], by simp [encE], ?_, by simp⟩
    rw [decI_nil, h1]
    have : (under n l).length = l.length := by
      have e1 : lst.length = (under n l).length := by rw [h1]; simp [upto]
      have := List.length_filter_le (fun c => decide (c < (n : Int))) l
      unfold under at *
      omega
    simp [upto]
    exact filter_all l this
  | succ f ih =>
    intro n s nd id lst h hf hd hn
    by_cases hlt : s.h < l.length
    · obtain ⟨h1, h2, h3, h4, h5, h6, h7⟩ := h
      have e1 : lst.length = (under n l).length := by rw [h1]; simp [upto]
      have e2 : below n l = (under n l).length := by unfold below under; rw [List.countP_eq_length_filter]
      have hb : below n l < l.length := by omega
      obtain ⟨m1, m2, m3⟩ := leastE_mem n l (fun c hc => (hv2 c hc).2) hb
      obtain ⟨b1, b2⟩ := below_next n l (fun c hc => (hv2 c hc).2) hb
      have hms := hv _ m1
      have hm4 := leastE_le n l
      obtain ⟨M, hM⟩ : ∃ M : Nat, M = (leastE n l).toNat := ⟨_, rfl⟩
      have hMZ : leastE n l = (M : Int) := by omega
      rw [hMZ] at hms m2 m3 hm4
      rw [← hM] at b1 b2
      have hun : under M l = under n l := by
        unfold under
        apply List.filter_congr
        intro c hc
        have := m3 c hc
        rw [decide_eq_decide]
        omega
      have hinv1 : Inv basic [] l M { s with d := s.d + (M - n) * (s.h + 1) } nd id lst := by
        refine ⟨by rw [h1, hun]; simp [upto], h2, ?_, by omega, h5, h6, h7⟩
        show s.d + (M - n) * (s.h + 1) + nd * (lst.length + 1) + id = _
        have : M * (lst.length + 1) = n * (lst.length + 1) + (M - n) * (lst.length + 1) := by rw [← Nat.add_mul, show n + (M - n) = M by omega]
        rw [h2]
        simp [upto] at h3 ⊢
        omega
      have hprod : (M - n) * (s.h + 1) ≤ (M - n) * (l.length + 1) := Nat.mul_le_mul_left _ (by omega)
      have hsum : n * (l.length + 1) + (M - n) * (l.length + 1) = M * (l.length + 1) := by rw [← Nat.add_mul, show n + (M - n) = M by omega]
      have hbig : M * (l.length + 1) ≤ 1115225111 := Nat.le_trans (Nat.mul_le_mul (show M ≤ 1114111 by omega) (show l.length + 1 ≤ 1001 by omega)) (by decide)
      have hbnd1 : s.d + (M - n) * (s.h + 1) + l.length ≤ 30000000000 := by omega
      have hbnd2 : s.d + (M - n) * (s.h + 1) + l.length ≤ M * (l.length + 1) + l.length := by omega
      obtain ⟨E, nd', id', lst', p1, p2, p3, p4⟩ := pass_sim basic M hms l [] _ nd id lst hinv1 hbnd1 (by simpa using hl)
      have hph := passE_h basic M l { s with d := s.d + (M - n) * (s.h + 1) }
      have hpd := passE_d basic M (M * (l.length + 1) + l.length) l { s with d := s.d + (M - n) * (s.h + 1) } hbnd2
      have hen := encE_next f l basic n (s.d + (M - n) * (s.h + 1)) s _ hlt (by rw [← hM]) rfl
      rw [← hM] at hen
      generalize passE basic M l { s with d := s.d + (M - n) * (s.h + 1) } = t at *
      obtain ⟨q1, q2, q3, q4, q5, q6, q7⟩ := p2
      have hup : upto M l = under (M + 1) l := by
        unfold upto under
        apply List.filter_congr
        intro c hc
        rw [decide_eq_decide]
        omega
      have hinv2 : Inv basic [] l (M + 1) { t with d := t.d + 1 } nd' id' lst' := by
        refine ⟨by rw [q1, ← hup]; simp [upto, under], q2, ?_, by omega, q5, q6, q7⟩
        show t.d + 1 + nd' * (lst'.length + 1) + id' = _
        have e3 : (upto M ([] ++ l)).length = lst'.length := by rw [q1]; simp [under]
        rw [e3] at q3
        have : (M + 1) * (lst'.length + 1) = M * (lst'.length + 1) + (lst'.length + 1) := by rw [Nat.add_mul, Nat.one_mul]
        simp [upto]
        omega
      have hth : t.h = s.h + alike M l := hph
      obtain ⟨T, t1, t2, t3⟩ := ih (M + 1) _ nd' id' lst' hinv2 (by show l.length ≤ t.h + f; omega) (by show t.d + 1 ≤ (M + 1) * (l.length + 1); rw [Nat.add_mul, Nat.one_mul]; omega) (by omega)
      refine ⟨E ++ T, ?_, ?_, fun x hx => (List.mem_append.1 hx).elim (p4 x) (t3 x)⟩
      · rw [hen, t1]
        show t.out ++ T = _
        rw [p1]
        simp
      · have := p3 T
        rw [show (({ s with d := s.d + (M - n) * (s.h + 1) } : St)).bias = s.bias from rfl] at this
        rw [this]
        exact t2
    · obtain ⟨h1, h2, h3, h4, h5, h6, h7⟩ := h
      refine ⟨[], by rw [encE_done _ _ _ _ _ hlt]; simp, ?_, by simp⟩
      rw [decI_nil, h1]
      have : (under n l).length = l.length := by
        have e1 : lst.length = (under n l).length := by rw [h1]; simp [upto]
        have := List.length_filter_le (fun c => decide (c < (n : Int))) l
        unfold under at *
        omega
      simp [upto]
      exact filter_all l this

theorem lastH_none (s : List UInt8) : ∀ k, (∀ j, j < k → s[j]? ≠ some 45) → lastH s k = -1
  | 0, _ => rfl
  | k + 1, h => by rw [lastH, if_neg (h k (by omega))]; exact lastH_none s k (fun j hj => h j (by omega))
theorem lastH_at (s : List UInt8) (i : Nat) (hi : s[i]? = some 45) : ∀ k, i < k → (∀ j, i < j → j < k → s[j]? ≠ some 45) → lastH s k = i
  | k + 1, hk, h => by
    rw [lastH]
    by_cases e : i = k
    · subst e; rw [if_pos hi]
    · rw [if_neg (h k (by omega) (by omega))]
      exact lastH_at s i hi k (by omega) (fun j h1 h2 => h j h1 (by omega))
theorem hyphen_none (T : List UInt8) (h : ∀ c ∈ T, c ≠ 45) : hyphen T = -1 := by
  apply lastH_none
  intro j hj e
  rw [List.getElem?_eq_getElem hj] at e
  injection e with e
  exact h _ (List.getElem_mem hj) e
theorem hyphen_at (X T : List UInt8) (h : ∀ c ∈ T, c ≠ 45) : hyphen (X ++ 45 :: T) = X.length := by
  apply lastH_at
  · simp
  · simp
  · intro j h1 h2 e
    rw [List.getElem?_append_right (by omega)] at e
    obtain ⟨d, hd⟩ : ∃ d, j - X.length = d + 1 := ⟨j - X.length - 1, by omega⟩
    rw [hd, List.getElem?_cons_succ] at e
    obtain ⟨h3, h4⟩ := List.getElem?_eq_some_iff.1 e
    exact h _ (List.getElem_mem h3) h4

theorem basics_ints (l : List Int) (hv : ∀ c ∈ l, scalar c = true) : asInts (basics l) = under 128 l := by
  unfold asInts basics under
  rw [List.map_map]
  have : (l.filter fun c => decide (c < ((128 : Nat) : Int))).map (fun c => c) = l.filter fun c => decide (c < ((128 : Nat) : Int)) := List.map_id' _
  rw [← this]
  apply List.map_congr_left
  intro c hc
  rw [List.mem_filter] at hc
  have h1 := hv c hc.1
  unfold scalar at h1
  simp at h1 hc
  show ((UInt8.ofNat c.toNat).toNat : Int) = c
  rw [UInt8.toNat_ofNat']
  omega

/-- How a list is encoded. -/
theorem encode_shape (l : List Int) (hl : l.length ≤ 1000) (hv : ∀ c ∈ l, scalar c = true) :
    ∃ T, encode l = head l ++ T ∧ decI T 128 0 72 (under 128 l) = some l ∧ ∀ c ∈ T, IsDig c := by
  have hb : (basics l).length = (under 128 l).length := by rw [← basics_ints l hv]; simp [asInts]
  have hinv : Inv (basics l).length [] l 128 ⟨0, 72, (basics l).length, head l⟩ 128 0 (under 128 l) :=
    ⟨by simp [upto], hb, by simp [upto], by omega, by omega, by simp, Nat.le_refl _⟩
  obtain ⟨T, h1, h2, h3⟩ := enc_sim (basics l).length l hl hv l.length 128 _ 128 0 _ hinv (by show l.length ≤ _ + l.length; omega) (Nat.zero_le _) (by omega)
  exact ⟨T, h1, h2, h3⟩

theorem basics_low (l : List Int) (hv : ∀ c ∈ l, scalar c = true) : ∀ b ∈ basics l, b.toNat < 128 := by
  intro b hb
  obtain ⟨c, hc, rfl⟩ := List.mem_map.1 hb
  rw [List.mem_filter] at hc
  have h1 := hv c hc.1
  unfold scalar at h1
  simp at h1 hc
  rw [UInt8.toNat_ofNat']
  omega

theorem encode_low (l : List Int) (hl : l.length ≤ 1000) (hv : ∀ c ∈ l, scalar c = true) : ∀ b ∈ encode l, b.toNat < 128 := by
  obtain ⟨T, h1, _, h3⟩ := encode_shape l hl hv
  intro b hb
  rw [h1] at hb
  rcases List.mem_append.1 hb with hb | hb
  · unfold head at hb
    split at hb
    · simp at hb
    · rcases List.mem_append.1 hb with hb | hb
      · exact basics_low l hv b hb
      · simp at hb; subst hb; decide
  · obtain ⟨q, hq, rfl⟩ := h3 b hb
    exact (dig_low ⟨q, hq⟩).1

/-- THERE AND BACK: what was encoded is decoded to the list. -/
theorem decP_encode (l : List Int) (hl : l.length ≤ 1000) (hv : ∀ c ∈ l, scalar c = true) : decP (encode l) = some l := by
  have hlow := encode_low l hl hv
  obtain ⟨T, h1, h2, h3⟩ := encode_shape l hl hv
  have hT : ∀ c ∈ T, c ≠ 45 := fun c hc => by obtain ⟨q, hq, rfl⟩ := h3 c hc; exact (dig_low ⟨q, hq⟩).2
  unfold decP
  rw [if_neg (by intro h; obtain ⟨c, hc, h4⟩ := List.any_eq_true.1 h; have := hlow c hc; simp at h4; omega)]
  rw [h1]
  unfold head
  by_cases hb : basics l = []
  · rw [if_pos hb]
    rw [List.nil_append, hyphen_none T hT, if_neg (by omega)]
    have : under 128 l = [] := by rw [← basics_ints l hv, hb]; rfl
    rw [this] at h2
    exact h2
  · rw [if_neg hb]
    have e : basics l ++ [45] ++ T = basics l ++ 45 :: T := by simp
    have hbl : 0 < (basics l).length := List.length_pos_iff.2 hb
    rw [e, hyphen_at _ _ hT, if_pos (by omega)]
    rw [Int.toNat_natCast, List.take_left' rfl, basics_ints l hv]
    have e2 : (basics l ++ 45 :: T).drop ((basics l).length + 1) = T := by
      rw [← e]
      exact List.drop_left' (by simp)
    rw [e2, ← h2]
    exact decG_enough _ _ _ _ _ _ _ (by simp; omega) (by simp)

/-! ### To encode what was decoded -/
/-- What a decoder's list is like. -/
def Fit (nd id : Nat) (lst : List Int) : Prop := (∀ c ∈ lst, c ≤ (nd : Int)) ∧ (∀ c ∈ lst.drop id, c < (nd : Int)) ∧ id ≤ lst.length ∧ ∀ c ∈ lst, scalar c = true

/-- One round of a decoder that goes on, and its end. -/
theorem decI_cases (s : List UInt8) (nd id b : Nat) (lst l : List Int) (h : decI s nd id b lst = some l) :
    (s = [] ∧ l = lst) ∨
    ∃ q m n i, s ≠ [] ∧ rd s 0 0 1 b = (q, m) ∧ m ≠ 0 ∧ id + q = (n - nd) * (lst.length + 1) + i ∧ nd ≤ n ∧ i ≤ lst.length ∧ scalar (n : Nat) = true ∧ id + q ≤ MOST ∧
      decI (s.drop m) n (i + 1) (adapt q (lst.length + 1) (id == 0)) (put lst i (n : Int)) = some l := by
  by_cases hs : s = []
  · subst hs
    rw [decI_nil] at h
    injection h with h
    exact .inl ⟨rfl, h.symm⟩
  · right
    rcases hr : rd s 0 0 1 b with ⟨q, m⟩
    by_cases c1 : m = 0 ∨ MOST < id + q
    · unfold decI at h; rw [decG_stop _ s nd id b q m lst hs hr c1] at h; cases h
    · by_cases c2 : 1114111 < nd + (id + q) / (lst.length + 1) ∨ scalar (nd + (id + q) / (lst.length + 1) : Nat) = false
      · unfold decI at h; rw [decG_high _ s nd id b q m lst hs hr c1 c2] at h; cases h
      · rw [decI_on s nd id b q m lst hs hr c1 c2] at h
        have hdm := Nat.div_add_mod (id + q) (lst.length + 1)
        have hlt := Nat.mod_lt (id + q) (show 0 < lst.length + 1 by omega)
        refine ⟨q, m, nd + (id + q) / (lst.length + 1), (id + q) % (lst.length + 1), hs, rfl, by omega, ?_, Nat.le_add_right _ _, by omega, ?_, by omega, h⟩
        · rw [Nat.add_sub_cancel_left, Nat.mul_comm]; omega
        · cases hx : scalar (nd + (id + q) / (lst.length + 1) : Nat) with
          | true => rfl
          | false => exact absurd (Or.inr hx) c2

theorem put_mem {l : List Int} {i : Nat} {x c : Int} (h : c ∈ put l i x) : c = x ∨ c ∈ l := by
  unfold put at h
  rcases List.mem_append.1 h with h | h
  · exact .inr (List.mem_of_mem_take h)
  · rcases List.mem_cons.1 h with h | h
    · exact .inl h
    · exact .inr (List.mem_of_mem_drop h)
theorem put_drop (l : List Int) (i : Nat) (x : Int) (h : i ≤ l.length) : (put l i x).drop (i + 1) = l.drop i := by
  unfold put
  have e : l.take i ++ x :: l.drop i = (l.take i ++ [x]) ++ l.drop i := by simp
  rw [e]
  exact List.drop_left' (by simp; omega)
theorem put_take (l : List Int) (i : Nat) (x : Int) (h : i ≤ l.length) : (put l i x).take (i + 1) = l.take i ++ [x] := by
  unfold put
  have e : l.take i ++ x :: l.drop i = (l.take i ++ [x]) ++ l.drop i := by simp
  rw [e]
  exact List.take_left' (by simp; omega)
theorem upto_put (l : List Int) (i : Nat) (x : Int) (n : Nat) (h : (n : Int) < x) : upto n (put l i x) = upto n l := by
  unfold put upto
  rw [List.filter_append, List.filter_cons_of_neg (by simpa using h), ← List.filter_append, List.take_append_drop]
theorem upto_id (l : List Int) (n : Nat) (h : ∀ c ∈ l, c ≤ (n : Int)) : upto n l = l := List.filter_eq_self.2 (fun c hc => by simpa using h c hc)
theorem upto_upto (l : List Int) (n m : Nat) (h : m ≤ n) : upto m (upto n l) = upto m l := by
  unfold upto
  rw [List.filter_filter]
  apply List.filter_congr
  intro c hc
  by_cases h1 : c ≤ (m : Int)
  · have : c ≤ (n : Int) := by omega
    simp [h1, this]
  · simp [h1]

/-- The list stays fit, and within it. -/
theorem Fit.put {nd id n i : Nat} {lst : List Int} (h : Fit nd id lst) (hn : nd ≤ n) (hi : i ≤ lst.length) (hge : nd < n ∨ id ≤ i) (hsc : scalar (n : Nat) = true) : Fit n (i + 1) (PunyP.put lst i (n : Int)) := by
  obtain ⟨h1, h2, h3, h4⟩ := h
  refine ⟨?_, ?_, by rw [put_length _ _ _ hi]; omega, ?_⟩
  · intro c hc
    rcases put_mem hc with rfl | hc
    · omega
    · have := h1 c hc; omega
  · rw [put_drop _ _ _ hi]
    intro c hc
    rcases hge with hge | hge
    · have := h1 c (List.mem_of_mem_drop hc); omega
    · have hc2 : c ∈ lst.drop id := by
        have e : lst.drop i = (lst.drop id).drop (i - id) := by rw [List.drop_drop]; exact congrArg (fun k => lst.drop k) (by omega)
        rw [e] at hc
        exact List.mem_of_mem_drop hc
      have := h2 c hc2
      omega
  · intro c hc
    rcases put_mem hc with rfl | hc
    · exact hsc
    · exact h4 c hc

theorem later {s : List UInt8} {nd id : Nat} {lst : List Int} {q n i : Nat} (h : id + q = (n - nd) * (lst.length + 1) + i) (hn : nd ≤ n) (hi : i ≤ lst.length) : nd < n ∨ id ≤ i := by
  rcases Nat.lt_or_ge nd n with h1 | h1
  · exact .inl h1
  · right
    have : n - nd = 0 := by omega
    rw [this] at h
    omega

/-- What is decoded keeps what it began with below a number, as long as that is no more than where the decoder stands. -/
theorem keeps (k : Nat) : ∀ (s : List UInt8) (nd id b : Nat) (lst l : List Int), s.length ≤ k → decI s nd id b lst = some l → Fit nd id lst →
    (∀ m, m < nd → upto m l = upto m lst) ∧ (upto nd l).take id = lst.take id ∧ (∀ c ∈ l, scalar c = true) ∧ lst.length ≤ l.length ∧ l.length ≤ lst.length + s.length := by
  induction k with
  | zero =>
    intro s nd id b lst l hk h hf
    obtain rfl : s = [] := List.length_eq_zero_iff.1 (by omega)
    rw [decI_nil] at h
    injection h with h
    subst h
    exact ⟨fun _ _ => rfl, by rw [upto_id _ _ hf.1], hf.2.2.2, Nat.le_refl _, by simp⟩
  | succ k ih =>
    intro s nd id b lst l hk h hf
    rcases decI_cases s nd id b lst l h with ⟨rfl, rfl⟩ | ⟨q, m, n, i, hs, hr, hm, hq, hn, hi, hsc, _, h'⟩
    · exact ⟨fun _ _ => rfl, by rw [upto_id _ _ hf.1], hf.2.2.2, Nat.le_refl _, by simp⟩
    · have hf' := hf.put hn hi (later (s := s) hq hn hi) hsc
      have hs1 : s.length ≠ 0 := fun e => hs (List.length_eq_zero_iff.1 e)
      have hdl : (s.drop m).length ≤ k := by rw [List.length_drop]; omega
      obtain ⟨i1, i2, i3, i4, i5⟩ := ih (s.drop m) n (i + 1) _ _ l hdl h' hf'
      rw [put_length _ _ _ hi] at i4 i5
      rw [List.length_drop] at i5
      have hrb := (rd_bounds s 0 0 1 b).2.1
      rw [hr] at hrb
      refine ⟨fun m' hm' => ?_, ?_, i3, by omega, by simp at hrb; omega⟩
      · rw [i1 m' (by omega), upto_put _ _ _ _ (by omega)]
      · rcases Nat.lt_or_ge nd n with h1 | h1
        · rw [i1 nd h1, upto_put _ _ _ _ (by omega), upto_id _ _ hf.1]
        · obtain rfl : n = nd := by omega
          have hid : id ≤ i := by
            rcases later (s := s) hq hn hi with h2 | h2
            · omega
            · exact h2
          rw [put_take _ _ _ hi] at i2
          have e1 : (upto n l).take id = ((upto n l).take (i + 1)).take id := by rw [List.take_take]; exact congrArg (fun k => (upto n l).take k) (by omega)
          rw [e1, i2, List.take_append_of_le_length (by simp; omega), List.take_take]
          exact congrArg (fun k => lst.take k) (by omega)

/-- Two decoders that begin alike and end alike tell the same first number. -/
theorem first_same {s1 s2 : List UInt8} {nd id b : Nat} {lst l : List Int} {n1 i1 n2 i2 q1 q2 b1 b2 : Nat} (hf : Fit nd id lst)
    (a1 : id + q1 = (n1 - nd) * (lst.length + 1) + i1) (a2 : nd ≤ n1) (a3 : i1 ≤ lst.length) (a4 : scalar (n1 : Nat) = true) (a5 : decI s1 n1 (i1 + 1) b1 (put lst i1 (n1 : Int)) = some l)
    (c1 : id + q2 = (n2 - nd) * (lst.length + 1) + i2) (c2 : nd ≤ n2) (c3 : i2 ≤ lst.length) (c4 : scalar (n2 : Nat) = true) (c5 : decI s2 n2 (i2 + 1) b2 (put lst i2 (n2 : Int)) = some l) :
    ¬ (n1 < n2 ∨ (n1 = n2 ∧ i1 < i2)) := by
  intro hlt
  have k1 := keeps s1.length s1 n1 (i1 + 1) b1 _ l (Nat.le_refl _) a5 (hf.put a2 a3 (later (s := s1) a1 a2 a3) a4)
  have k2 := keeps s2.length s2 n2 (i2 + 1) b2 _ l (Nat.le_refl _) c5 (hf.put c2 c3 (later (s := s2) c1 c2 c3) c4)
  have e1 := k1.2.1
  rw [put_take _ _ _ a3] at e1
  have e2 : (upto n1 l).take (i1 + 1) = lst.take (i1 + 1) := by
    rcases hlt with h | ⟨rfl, h⟩
    · rw [k2.1 n1 h, upto_put _ _ _ _ (by omega), upto_id _ _ (fun c hc => by have := hf.1 c hc; omega)]
    · have e3 := k2.2.1
      rw [put_take _ _ _ c3] at e3
      have e4 : (upto n1 l).take (i1 + 1) = ((upto n1 l).take (i2 + 1)).take (i1 + 1) := by rw [List.take_take]; exact congrArg (fun k => (upto n1 l).take k) (by omega)
      rw [e4, e3, List.take_append_of_le_length (by simp; omega), List.take_take]
      exact congrArg (fun k => lst.take k) (by omega)
  rw [e2] at e1
  have hlen := congrArg List.length e1
  simp at hlen
  have hi : i1 < lst.length := by omega
  rw [take_next lst i1 hi] at e1
  have hx := List.append_cancel_left e1
  injection hx with hx _
  rcases later (s := s1) a1 a2 a3 with h | h
  · have := hf.1 _ (List.getElem_mem hi); omega
  · have hm : lst[i1] ∈ lst.drop id := by
      have e5 : lst.drop i1 = (lst.drop id).drop (i1 - id) := by rw [List.drop_drop]; exact congrArg (fun k => lst.drop k) (by omega)
      have e6 : lst[i1] ∈ lst.drop i1 := by rw [List.drop_eq_getElem_cons hi]; exact List.mem_cons_self ..
      rw [e5] at e6
      exact List.mem_of_mem_drop e6
    have := hf.2.1 _ hm
    omega

/-- Two texts that are decoded to one list, from one beginning on, are alike but for capital letters. -/
theorem decI_inj (k : Nat) : ∀ (s1 s2 : List UInt8) (nd id b : Nat) (lst l : List Int), s1.length ≤ k → Fit nd id lst → decI s1 nd id b lst = some l → decI s2 nd id b lst = some l → s1.map low = s2.map low := by
  induction k with
  | zero =>
    intro s1 s2 nd id b lst l hk hf h1 h2
    obtain rfl : s1 = [] := List.length_eq_zero_iff.1 (by omega)
    rw [decI_nil] at h1
    injection h1 with h1
    subst h1
    rcases decI_cases s2 nd id b lst lst h2 with ⟨rfl, _⟩ | ⟨q, m, n, i, hs, hr, hm, hq, hn, hi, hsc, _, h'⟩
    · rfl
    · have := (keeps _ _ _ _ _ _ _ (Nat.le_refl _) h' (hf.put hn hi (later (s := s2) hq hn hi) hsc)).2.2.2.1
      rw [put_length _ _ _ hi] at this
      omega
  | succ k ih =>
    intro s1 s2 nd id b lst l hk hf h1 h2
    rcases decI_cases s1 nd id b lst l h1 with ⟨rfl, rfl⟩ | ⟨q1, m1, n1, i1, hs1, hr1, hm1, hq1, hn1, hi1, hsc1, _, h1'⟩
    · rcases decI_cases s2 nd id b l l h2 with ⟨rfl, _⟩ | ⟨q, m, n, i, hs, hr, hm, hq, hn, hi, hsc, _, h'⟩
      · rfl
      · have := (keeps _ _ _ _ _ _ _ (Nat.le_refl _) h' (hf.put hn hi (later (s := s2) hq hn hi) hsc)).2.2.2.1
        rw [put_length _ _ _ hi] at this
        omega
    · rcases decI_cases s2 nd id b lst l h2 with ⟨rfl, rfl⟩ | ⟨q2, m2, n2, i2, hs2, hr2, hm2, hq2, hn2, hi2, hsc2, _, h2'⟩
      · have := (keeps _ _ _ _ _ _ _ (Nat.le_refl _) h1' (hf.put hn1 hi1 (later (s := s1) hq1 hn1 hi1) hsc1)).2.2.2.1
        rw [put_length _ _ _ hi1] at this
        omega
      · have x1 := first_same (b := b) hf hq1 hn1 hi1 hsc1 h1' hq2 hn2 hi2 hsc2 h2'
        have x2 := first_same (b := b) hf hq2 hn2 hi2 hsc2 h2' hq1 hn1 hi1 hsc1 h1'
        obtain rfl : n1 = n2 := by omega
        obtain rfl : i1 = i2 := by omega
        obtain rfl : q1 = q2 := by omega
        have y1 := rd_low0 s1 b q1 m1 hr1 hm1
        have y2 := rd_low0 s2 b q1 m2 hr2 hm2
        have hs1l : s1.length ≠ 0 := fun e => hs1 (List.length_eq_zero_iff.1 e)
        have := ih (s1.drop m1) (s2.drop m2) _ _ _ _ l (by rw [List.length_drop]; omega) (hf.put hn1 hi1 (later (s := s1) hq1 hn1 hi1) hsc1) h1' h2'
        rw [← List.take_append_drop m1 s1, ← List.take_append_drop m2 s2, List.map_append, List.map_append, y1, y2, this]

/-- A text, where letters behind the last hyphen are small. -/
def small (s : List UInt8) : List UInt8 := s.take ((hyphen s + 1).toNat) ++ (s.drop ((hyphen s + 1).toNat)).map low

theorem asInts_low (s : List UInt8) (h : ∀ c ∈ s, c.toNat < 128) : (∀ c ∈ asInts s, 0 ≤ c ∧ c < 128) := by
  intro c hc
  obtain ⟨x, hx, rfl⟩ := List.mem_map.1 hc
  have := h x hx
  omega

theorem lastH_spec (s : List UInt8) : ∀ k, k ≤ s.length → ∀ i : Nat, lastH s k = (i : Int) → s[i]? = some 45
  | 0, _, i, h => by rw [lastH] at h; omega
  | k + 1, hk, i, h => by
    rw [lastH] at h
    by_cases e : s[k]? = some 45
    · rw [if_pos e] at h
      have : k = i := by omega
      subst this; exact e
    · rw [if_neg e] at h
      exact lastH_spec s k (by omega) i h

theorem low_digs (T : List UInt8) (h : ∀ c ∈ T, IsDig c) : T.map low = T := by
  have : T.map low = T.map (fun c => c) := List.map_congr_left (fun c hc => by obtain ⟨q, hq, rfl⟩ := h c hc; exact low_dig ⟨q, hq⟩)
  rw [this, List.map_id']

/-- ONCE: what was decoded is encoded to the text, where letters behind the last hyphen are small. -/
theorem encode_decP (s : List UInt8) (l : List Int) (hs : s.length ≤ 1000) (h : decP s = some l) : encode l = small s ∧ (∀ c ∈ l, scalar c = true) ∧ l.length ≤ s.length := by
  unfold decP at h
  by_cases hany : s.any (fun c => decide (128 ≤ c.toNat)) = true
  · rw [if_pos hany] at h; cases h
  · rw [if_neg hany] at h
    have hlow : ∀ c ∈ s, c.toNat < 128 := by
      intro c hc
      rcases Nat.lt_or_ge c.toNat 128 with h1 | h1
      · exact h1
      · exact absurd (List.any_eq_true.2 ⟨c, hc, by simpa using h1⟩) hany
    have hsc : ∀ c : Int, 0 ≤ c → c < 128 → scalar c = true := by intro c h0 h1; unfold scalar; simp; omega
    have hhl := lastH_lt s s.length
    by_cases hh : 0 < hyphen s
    · rw [if_pos hh] at h
      obtain ⟨H, hH⟩ : ∃ H : Nat, hyphen s = (H : Int) := ⟨(hyphen s).toNat, by omega⟩
      have hHl : H < s.length := by unfold hyphen at hH; omega
      rw [hH] at h
      simp only [Int.toNat_natCast] at h
      have hl0 : ∀ c ∈ asInts (s.take H), 0 ≤ c ∧ c < 128 := asInts_low _ (fun c hc => hlow c (List.mem_of_mem_take hc))
      have hL0 : (asInts (s.take H)).length = H := by simp [asInts]; omega
      have hf : Fit 128 0 (asInts (s.take H)) := ⟨fun c hc => by have := hl0 c hc; omega, fun c hc => by have := hl0 c (List.mem_of_mem_drop hc); omega, Nat.zero_le _, fun c hc => hsc c (hl0 c hc).1 (hl0 c hc).2⟩
      have hd : decI (s.drop (H + 1)) 128 0 72 (asInts (s.take H)) = some l := by
        rw [← h]
        exact decG_enough _ _ _ _ _ _ _ (by simp) (by simp; omega)
      obtain ⟨k1, k2, k3, k4, k5⟩ := keeps _ _ _ _ _ _ _ (Nat.le_refl _) hd hf
      have hll : l.length ≤ s.length := by rw [hL0, List.length_drop] at k5; omega
      have hun : under 128 l = asInts (s.take H) := by
        have e1 : under 128 l = upto 127 l := by
          unfold under upto; apply List.filter_congr; intro c hc; rw [decide_eq_decide]; omega
        rw [e1, k1 127 (by omega)]
        exact upto_id _ _ (fun c hc => by have := hl0 c hc; omega)
      obtain ⟨T, t1, t2, t3⟩ := encode_shape l (by omega) k3
      rw [hun] at t2
      have hinj := decI_inj _ _ _ _ _ _ _ _ (Nat.le_refl _) hf hd t2
      rw [low_digs T t3] at hinj
      have hbl : basics l = s.take H := by
        have e1 : asInts (basics l) = asInts (s.take H) := by rw [basics_ints l k3, hun]
        unfold asInts at e1
        have hinj2 : ∀ a b : UInt8, ((a.toNat : Int) = (b.toNat : Int)) → a = b := fun a b hab => UInt8.toNat_inj.1 (by omega)
        exact List.map_inj_right hinj2 |>.1 e1
      refine ⟨?_, k3, hll⟩
      rw [t1, ← hinj]
      unfold head small
      have hne : ¬ basics l = [] := by
        rw [hbl]; intro e; have e2 := congrArg List.length e; rw [List.length_take, List.length_nil] at e2; omega
      rw [if_neg hne, hbl, hH, show ((H : Int) + 1).toNat = H + 1 by omega, List.take_succ_eq_append_getElem hHl]
      have hc := lastH_spec s s.length (Nat.le_refl _) H hH
      rw [List.getElem?_eq_getElem hHl] at hc
      injection hc with hc
      rw [hc]
    · rw [if_neg hh] at h
      have hf : Fit 128 0 [] := ⟨by simp, by simp, by simp, by simp⟩
      have hd : decI s 128 0 72 [] = some l := h
      obtain ⟨k1, k2, k3, k4, k5⟩ := keeps _ _ _ _ _ _ _ (Nat.le_refl _) hd hf
      have hll : l.length ≤ s.length := by simpa using k5
      have hun : under 128 l = [] := by
        have e1 : under 128 l = upto 127 l := by
          unfold under upto; apply List.filter_congr; intro c hc; rw [decide_eq_decide]; omega
        rw [e1, k1 127 (by omega)]
        rfl
      obtain ⟨T, t1, t2, t3⟩ := encode_shape l (by omega) k3
      rw [hun] at t2
      have hinj := decI_inj _ _ _ _ _ _ _ _ (Nat.le_refl _) hf hd t2
      rw [low_digs T t3] at hinj
      have hbl : basics l = [] := by
        have e1 : asInts (basics l) = [] := by rw [basics_ints l k3, hun]
        unfold asInts at e1
        exact List.map_eq_nil_iff.1 e1
      refine ⟨?_, k3, hll⟩
      rw [t1, ← hinj]
      unfold head small
      rw [if_pos hbl]
      have hneg : hyphen s = -1 := by
        rcases (show hyphen s = -1 ∨ hyphen s = ((0 : Nat) : Int) by unfold hyphen at hh ⊢; omega) with h1 | h1
        · exact h1
        · exfalso
          have hc := lastH_spec s s.length (Nat.le_refl _) 0 h1
          rcases s with _ | ⟨c, r⟩
          · simp at hc
          · simp at hc
            subst hc
            rcases decI_cases _ _ _ _ _ _ hd with ⟨e, _⟩ | ⟨q, m, n, i, hs', hr, hm, _⟩
            · cases e
            · rw [rd_none 45 r 0 0 1 72 (by decide)] at hr
              injection hr with _ hr
              exact hm hr.symm
      rw [hneg]
      simp

end Go.Proofs.YtpoopgifikcneaaDoor.PunyP
