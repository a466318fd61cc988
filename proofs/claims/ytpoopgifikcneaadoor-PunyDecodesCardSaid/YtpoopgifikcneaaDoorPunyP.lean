/- Punycode in plain words: what the walks of package puny compute, with no program in sight; nothing is assumed. -/
import Derived.KernelRfl
set_option linter.unusedVariables false
set_option linter.unusedSimpArgs false
namespace Go.Proofs.YtpoopgifikcneaaDoor.PunyP

/-- The threshold at k. -/
def thr (k bias : Nat) : Nat := min (max (k - bias) 1) 26
theorem thr_lo (k bias : Nat) : 1 ≤ thr k bias := by unfold thr; omega
theorem thr_hi (k bias : Nat) : thr k bias ≤ 26 := by unfold thr; omega

/-- The loop of 'adapt', with fuel. -/
def adF : Nat → Nat → Nat → Nat × Nat
  | 0, d, k => (d, k)
  | f + 1, d, k => if 455 < d then adF f (d / 35) (k + 36) else (d, k)
def adL (d k : Nat) : Nat × Nat := adF d d k
theorem adF_enough (f : Nat) : ∀ (g d k : Nat), d ≤ f → d ≤ g → adF f d k = adF g d k := by
  induction f with
  | zero =>
    intro g d k h1 h2
    obtain rfl : d = 0 := by omega
    cases g with
    | zero => rfl
    | succ g => simp [adF]
  | succ f ih =>
    intro g d k h1 h2
    cases g with
    | zero =>
      obtain rfl : d = 0 := by omega
      simp [adF]
    | succ g =>
      unfold adF
      by_cases h : 455 < d
      · rw [if_pos h, if_pos h]; exact ih g _ _ (by omega) (by omega)
      · rw [if_neg h, if_neg h]
theorem adL_step (d k : Nat) : adL d k = if 455 < d then adL (d / 35) (k + 36) else (d, k) := by
  unfold adL
  cases d with
  | zero => simp [adF]
  | succ d =>
    rw [adF]
    split
    · exact adF_enough _ _ _ _ (by omega) (by omega)
    · rfl

/-- The bias behind a delta. -/
def adapt (delta many : Nat) (once : Bool) : Nat :=
  let d0 := if once then delta / 700 else delta / 2
  let r := adL (d0 + d0 / many) 0
  r.2 + 36 * r.1 / (r.1 + 38)

/-- A digit's byte. -/
def dig (q : Nat) : UInt8 := if q < 26 then UInt8.ofNat (97 + q) else UInt8.ofNat (22 + q)

/-- A number by digits, with fuel. -/
def tellF : Nat → Nat → Nat → Nat → List UInt8
  | 0, q, k, bias => [dig q]
  | f + 1, q, k, bias => if q < thr k bias then [dig q] else dig (thr k bias + (q - thr k bias) % (36 - thr k bias)) :: tellF f ((q - thr k bias) / (36 - thr k bias)) (k + 36) bias
def tell (q k bias : Nat) : List UInt8 := tellF q q k bias
theorem tell_next (q k bias : Nat) (h : ¬ q < thr k bias) : (q - thr k bias) / (36 - thr k bias) < q := by
  have h1 := thr_lo k bias
  have h2 := thr_hi k bias
  have : (q - thr k bias) / (36 - thr k bias) ≤ q - thr k bias := Nat.div_le_self _ _
  omega
theorem tellF_enough (f : Nat) : ∀ (g q k bias : Nat), q ≤ f → q ≤ g → tellF f q k bias = tellF g q k bias := by
  induction f with
  | zero =>
    intro g q k bias h1 h2
    obtain rfl : q = 0 := by omega
    have := thr_lo k bias
    cases g with
    | zero => rfl
    | succ g => rw [tellF, tellF, if_pos (by omega)]
  | succ f ih =>
    intro g q k bias h1 h2
    cases g with
    | zero =>
      obtain rfl : q = 0 := by omega
      have := thr_lo k bias
      rw [tellF, tellF, if_pos (by omega)]
    | succ g =>
      rw [tellF, tellF]
      by_cases h : q < thr k bias
      · rw [if_pos h, if_pos h]
      · have := tell_next q k bias h
        rw [if_neg h, if_neg h, ih g _ _ _ (by omega) (by omega)]
theorem tell_step (q k bias : Nat) : tell q k bias = if q < thr k bias then [dig q] else dig (thr k bias + (q - thr k bias) % (36 - thr k bias)) :: tell ((q - thr k bias) / (36 - thr k bias)) (k + 36) bias := by
  unfold tell
  cases q with
  | zero => have := thr_lo k bias; rw [tellF, if_pos (by omega)]
  | succ q =>
    rw [tellF]
    by_cases h : q + 1 < thr k bias
    · rw [if_pos h, if_pos h]
    · have := tell_next _ k bias h
      rw [if_neg h, if_neg h, tellF_enough q ((q + 1 - thr k bias) / (36 - thr k bias)) _ _ _ (by omega) (Nat.le_refl _)]

/-- A number's digits are few. -/
theorem tell_len (e : Nat) : ∀ (q k bias : Nat), q < 10 ^ e → (tell q k bias).length ≤ e + 1 := by
  induction e with
  | zero =>
    intro q k bias h
    have := thr_lo k bias
    rw [tell_step, if_pos (by simp at h; omega)]
    simp
  | succ e ih =>
    intro q k bias h
    rw [tell_step]
    by_cases c : q < thr k bias
    · rw [if_pos c]; simp
    · rw [if_neg c]
      have h1 := thr_lo k bias
      have h2 := thr_hi k bias
      have h3 : (q - thr k bias) / (36 - thr k bias) ≤ (q - thr k bias) / 10 := Nat.div_le_div_left (by omega) (by omega)
      have h4 : (q - thr k bias) / (36 - thr k bias) < 10 ^ e := by
        rw [Nat.pow_succ] at h
        generalize 10 ^ e = z at *
        omega
      have := ih _ (k + 36) bias h4
      simp only [List.length_cons]
      omega

theorem adL_le (d : Nat) : ∀ k, (adL d k).2 + (adL d k).1 ≤ k + d := by
  induction d using Nat.strongRecOn with
  | _ d ih =>
    intro k
    rw [adL_step]
    split
    · have := ih (d / 35) (by omega) (k + 36)
      omega
    · exact Nat.le_refl _
theorem adapt_le (d m : Nat) (o : Bool) : adapt d m o ≤ 2 * d + 36 := by
  unfold adapt
  have key : ∀ d0, d0 ≤ d → (adL (d0 + d0 / m) 0).2 + 36 * (adL (d0 + d0 / m) 0).1 / ((adL (d0 + d0 / m) 0).1 + 38) ≤ 2 * d + 36 := by
    intro d0 h
    have h1 := adL_le (d0 + d0 / m) 0
    have h2 := Nat.div_le_self d0 m
    have h3 : 36 * (adL (d0 + d0 / m) 0).1 / ((adL (d0 + d0 / m) 0).1 + 38) ≤ 36 := by
      apply Nat.le_of_lt_succ
      apply (Nat.div_lt_iff_lt_mul (by omega)).2
      generalize (adL (d0 + d0 / m) 0).1 = z
      omega
    omega
  cases o
  · exact key (d / 2) (by omega)
  · exact key (d / 700) (by omega)

/-! ### To encode -/

/-- The code points below 128, as bytes. -/
def basics (l : List Int) : List UInt8 := (l.filter fun c => decide (c < 128)).map fun c => UInt8.ofNat c.toNat
theorem basics_snoc (l : List Int) (c : Int) : basics (l ++ [c]) = basics l ++ if c < 128 then [UInt8.ofNat c.toNat] else [] := by
  unfold basics
  rw [List.filter_append]
  by_cases h : c < 128 <;> simp [h]
theorem basics_len (l : List Int) : (basics l).length ≤ l.length := by unfold basics; rw [List.length_map]; exact List.length_filter_le _ _

/-- delta, bias, how many are told, and the text. -/
structure St where
  d : Nat
  bias : Nat
  h : Nat
  out : List UInt8

/-- One code point in a pass at n. -/
def stepE (basic n : Nat) (s : St) (c : Int) : St :=
  if c = (n : Int) then ⟨0, adapt s.d (s.h + 1) (s.h == basic), s.h + 1, s.out ++ tell s.d 36 s.bias⟩
  else if c < (n : Int) then { s with d := s.d + 1 } else s
def passE (basic n : Nat) (l : List Int) (s : St) : St := l.foldl (stepE basic n) s
theorem passE_snoc (basic n : Nat) (l : List Int) (c : Int) (s : St) : passE basic n (l ++ [c]) s = stepE basic n (passE basic n l s) c := by simp [passE, List.foldl_append]

/-- The least one from n on. -/
def stepL (n : Nat) (m c : Int) : Int := if (n : Int) ≤ c then min m c else m
def leastE (n : Nat) (l : List Int) : Int := l.foldl (stepL n) 1114111
theorem leastE_snoc (n : Nat) (l : List Int) (c : Int) : leastE n (l ++ [c]) = stepL n (leastE n l) c := by simp [leastE, List.foldl_append]

/-- The passes, with fuel. -/
def encE : Nat → List Int → Nat → Nat → St → List UInt8
  | 0, _, _, _, s => s.out
  | f + 1, l, basic, n, s =>
    if s.h < l.length then
      encE f l basic ((leastE n l).toNat + 1)
        { passE basic (leastE n l).toNat l { s with d := s.d + ((leastE n l).toNat - n) * (s.h + 1) } with
          d := (passE basic (leastE n l).toNat l { s with d := s.d + ((leastE n l).toNat - n) * (s.h + 1) }).d + 1 }
    else s.out
/-- The text behind the basic ones. -/
def head (l : List Int) : List UInt8 := if basics l = [] then [] else basics l ++ [45]
def encode (l : List Int) : List UInt8 := encE l.length l (basics l).length 128 ⟨0, 72, (basics l).length, head l⟩

def below (n : Nat) (l : List Int) : Nat := l.countP fun c => decide (c < (n : Int))
def alike (n : Nat) (l : List Int) : Nat := l.countP fun c => decide (c = (n : Int))

theorem passE_h (basic n : Nat) (l : List Int) : ∀ s, (passE basic n l s).h = s.h + alike n l := by
  induction l with
  | nil => intro s; simp [passE, alike]
  | cons c l ih =>
    intro s
    have : passE basic n (c :: l) s = passE basic n l (stepE basic n s c) := rfl
    rw [this, ih]
    unfold alike stepE
    rw [List.countP_cons]
    by_cases h : c = (n : Int)
    · simp [h]; omega
    · by_cases h2 : c < (n : Int) <;> simp [h, h2]

theorem passE_d (basic n L : Nat) (l : List Int) : ∀ s, s.d + l.length ≤ L → (passE basic n l s).d ≤ L := by
  induction l with
  | nil => intro s h; simpa [passE] using h
  | cons c l ih =>
    intro s h
    have : passE basic n (c :: l) s = passE basic n l (stepE basic n s c) := rfl
    rw [this]
    apply ih
    simp at h
    unfold stepE
    split
    · show 0 + l.length ≤ L; omega
    · split
      · show s.d + 1 + l.length ≤ L; omega
      · omega

theorem leastE_le (n : Nat) (l : List Int) : leastE n l ≤ 1114111 := by
  unfold leastE
  have : ∀ (l : List Int) (m : Int), m ≤ 1114111 → l.foldl (stepL n) m ≤ 1114111 := by
    intro l
    induction l with
    | nil => intro m h; exact h
    | cons c l ih => intro m h; exact ih _ (by unfold stepL; split <;> omega)
  exact this l _ (by omega)

theorem least_fold (n : Nat) (l : List Int) : ∀ m : Int, l.foldl (stepL n) m ≤ m ∧ (∀ c ∈ l, (n : Int) ≤ c → l.foldl (stepL n) m ≤ c) ∧ (l.foldl (stepL n) m = m ∨ (l.foldl (stepL n) m ∈ l ∧ (n : Int) ≤ l.foldl (stepL n) m)) := by
  induction l with
  | nil => intro m; simp
  | cons c l ih =>
    intro m
    obtain ⟨h1, h2, h3⟩ := ih (stepL n m c)
    have hs : stepL n m c ≤ m := by unfold stepL; split <;> omega
    have hf : (c :: l).foldl (stepL n) m = l.foldl (stepL n) (stepL n m c) := rfl
    rw [hf]
    refine ⟨by omega, ?_, ?_⟩
    · intro x hx hn
      rcases List.mem_cons.1 hx with rfl | hx
      · have : stepL n m x ≤ x := by unfold stepL; rw [if_pos hn]; omega
        omega
      · exact h2 x hx hn
    · rcases h3 with h3 | ⟨h3, h4⟩
      · rw [h3]
        unfold stepL
        split
        · by_cases hm : m ≤ c
          · left; omega
          · right; exact ⟨by rw [show min m c = c by omega]; simp, by omega⟩
        · left; rfl
      · right; exact ⟨List.mem_cons_of_mem _ h3, h4⟩

/-- Where not all are below n, the least from n on is one of them. -/
theorem leastE_mem (n : Nat) (l : List Int) (hv : ∀ c ∈ l, c ≤ 1114111) (h : below n l < l.length) : leastE n l ∈ l ∧ (n : Int) ≤ leastE n l ∧ ∀ c ∈ l, (n : Int) ≤ c → leastE n l ≤ c := by
  obtain ⟨h1, h2, h3⟩ := least_fold n l 1114111
  have hex : ∃ c ∈ l, (n : Int) ≤ c := by
    apply Classical.byContradiction
    intro hno
    have : below n l = l.length := by
      unfold below
      rw [List.countP_eq_length]
      intro c hc
      have hcn : ¬ (n : Int) ≤ c := fun hn => hno ⟨c, hc, hn⟩
      rw [decide_eq_true_eq]
      omega
    omega
  obtain ⟨c, hc, hn⟩ := hex
  have hcm := h2 c hc hn
  refine ⟨?_, ?_, h2⟩
  · rcases h3 with h3 | h3
    · have h4 : (1114111 : Int) = c := by have := hv c hc; omega
      show l.foldl (stepL n) 1114111 ∈ l
      rw [h3, h4]; exact hc
    · exact h3.1
  · rcases h3 with h3 | h3
    · have := hv c hc
      show (n : Int) ≤ l.foldl (stepL n) 1114111
      rw [h3]; omega
    · exact h3.2

theorem below_next (n : Nat) (l : List Int) (hv : ∀ c ∈ l, c ≤ 1114111) (h : below n l < l.length) :
    below ((leastE n l).toNat + 1) l = below n l + alike (leastE n l).toNat l ∧ 1 ≤ alike (leastE n l).toNat l := by
  obtain ⟨h1, h2, h3⟩ := leastE_mem n l hv h
  generalize leastE n l = m at *
  constructor
  · have : ∀ l' : List Int, (∀ c ∈ l', (n : Int) ≤ c → m ≤ c) → below (m.toNat + 1) l' = below n l' + alike m.toNat l' := by
      intro l'
      induction l' with
      | nil => intro _; simp [below, alike]
      | cons c l' ih =>
        intro hh
        have e := ih (fun c hc => hh c (List.mem_cons_of_mem _ hc))
        have hc := hh c (List.mem_cons_self ..)
        unfold below alike at *
        rw [List.countP_cons, List.countP_cons, List.countP_cons, e]
        by_cases a1 : c < (n : Int)
        · have b1 : c < ((m.toNat + 1 : Nat) : Int) := by omega
          have b2 : ¬ c = (m.toNat : Int) := by omega
          simp only [decide_eq_true_eq, a1, b1, b2, if_true, if_false]; omega
        · have := hc (by omega)
          by_cases a2 : c = m
          · have b1 : c < ((m.toNat + 1 : Nat) : Int) := by omega
            have b2 : c = (m.toNat : Int) := by omega
            simp only [decide_eq_true_eq]
            rw [if_pos b1, if_neg a1, if_pos b2]; omega
          · have b1 : ¬ c < ((m.toNat + 1 : Nat) : Int) := by omega
            have b2 : ¬ c = (m.toNat : Int) := by omega
            simp only [decide_eq_true_eq, a1, b1, b2, if_true, if_false]; omega
    exact this l h3
  · unfold alike
    have : 0 < l.countP fun c => decide (c = (m.toNat : Int)) := List.countP_pos_iff.2 ⟨m, h1, by simp; omega⟩
    omega

theorem take_next {α : Type} (l : List α) (k : Nat) (h : k < l.length) : l.take (k + 1) = l.take k ++ [l[k]] := by
  rw [List.take_succ_eq_append_getElem h]
theorem basics_take_small (l : List Int) (k : Nat) (h : k < l.length) (hs : l[k] < 128) : basics (l.take (k + 1)) = basics (l.take k) ++ [UInt8.ofNat l[k].toNat] := by
  rw [take_next l k h, basics_snoc, if_pos hs]
theorem basics_take_big (l : List Int) (k : Nat) (h : k < l.length) (hs : ¬ l[k] < 128) : basics (l.take (k + 1)) = basics (l.take k) := by
  rw [take_next l k h, basics_snoc, if_neg hs, List.append_nil]
theorem below_len (n : Nat) (l : List Int) : below n l ≤ l.length := List.countP_le_length
theorem basics_below (l : List Int) : (basics l).length = below 128 l := by
  unfold basics below
  rw [List.length_map, List.countP_eq_length_filter]
  rfl

theorem head_len (l : List Int) : (head l).length ≤ l.length + 1 := by
  have := basics_len l
  unfold head
  split
  · simp
  · simp; omega
theorem leastE_take (n : Nat) (l : List Int) (k : Nat) (h : k < l.length) : leastE n (l.take (k + 1)) = stepL n (leastE n (l.take k)) l[k] := by
  rw [take_next l k h, leastE_snoc]
theorem passE_take (basic n : Nat) (l : List Int) (s : St) (k : Nat) (h : k < l.length) : passE basic n (l.take (k + 1)) s = stepE basic n (passE basic n (l.take k) s) l[k] := by
  rw [take_next l k h, passE_snoc]

theorem encE_done (f : Nat) (l : List Int) (b n : Nat) (s : St) (h : ¬ s.h < l.length) : encE f l b n s = s.out := by
  cases f with
  | zero => rfl
  | succ f => rw [encE, if_neg h]
theorem encE_next (f : Nat) (l : List Int) (b n D : Nat) (s t : St) (h : s.h < l.length) (hD : D = s.d + ((leastE n l).toNat - n) * (s.h + 1)) (ht : t = passE b (leastE n l).toNat l { s with d := D }) :
    encE (f + 1) l b n s = encE f l b ((leastE n l).toNat + 1) { t with d := t.d + 1 } := by
  subst hD
  subst ht
  rw [encE, if_pos h]

end Go.Proofs.YtpoopgifikcneaaDoor.PunyP
