/- Punycode read back, in plain words: what the walks of package puny's Decode compute, with no program in sight; nothing is assumed. -/
import Derived.Test.YtpoopgifikcneaaDoorPunyP
set_option linter.unusedVariables false
set_option linter.unusedSimpArgs false
namespace Go.Proofs.YtpoopgifikcneaaDoor.PunyP

/-- A byte's digit. -/
def val (c : UInt8) : Option Nat :=
  if 97 ≤ c.toNat ∧ c.toNat ≤ 122 then some (c.toNat - 97)
  else if 65 ≤ c.toNat ∧ c.toNat ≤ 90 then some (c.toNat - 65)
  else if 48 ≤ c.toNat ∧ c.toNat ≤ 57 then some (c.toNat - 22)
  else none
theorem val_lt (c : UInt8) (d : Nat) (h : val c = some d) : d < 36 := by
  unfold val at h
  split at h
  · injection h with h; omega
  · split at h
    · injection h with h; omega
    · split at h
      · injection h with h; omega
      · cases h

def MOST : Nat := 1099511627776

/-- A number with which a text begins, and how many bytes it has; (0, 0): there is none. -/
def rd : List UInt8 → Nat → Nat → Nat → Nat → Nat × Nat
  | [], _, _, _, _ => (0, 0)
  | c :: r, at_, i, w, bias =>
    match val c with
    | none => (0, 0)
    | some d =>
      if MOST < i + d * w then (0, 0)
      else if d < thr ((at_ + 1) * 36) bias then (i + d * w, at_ + 1)
      else if MOST < w * (36 - thr ((at_ + 1) * 36) bias) then (0, 0)
      else rd r (at_ + 1) (i + d * w) (w * (36 - thr ((at_ + 1) * 36) bias)) bias

/-- The digit as a whole number; -1: there is none. -/
def valZ (c : UInt8) : Int := match val c with | some d => (d : Int) | none => -1

theorem rd_done (l : List UInt8) (k i w bias : Nat) (h : l = []) : rd l k i w bias = (0, 0) := by subst h; rfl
theorem rd_none (c : UInt8) (r : List UInt8) (k i w bias : Nat) (h : val c = none) : rd (c :: r) k i w bias = (0, 0) := by simp only [rd, h]
theorem rd_many (c : UInt8) (r : List UInt8) (k i w bias d : Nat) (h : val c = some d) (h1 : MOST < i + d * w) : rd (c :: r) k i w bias = (0, 0) := by simp only [rd, h]; rw [if_pos h1]
theorem rd_end (c : UInt8) (r : List UInt8) (k i w bias d : Nat) (h : val c = some d) (h1 : ¬ MOST < i + d * w) (h2 : d < thr ((k + 1) * 36) bias) : rd (c :: r) k i w bias = (i + d * w, k + 1) := by simp only [rd, h]; rw [if_neg h1, if_pos h2]
theorem rd_big (c : UInt8) (r : List UInt8) (k i w bias d : Nat) (h : val c = some d) (h1 : ¬ MOST < i + d * w) (h2 : ¬ d < thr ((k + 1) * 36) bias) (h3 : MOST < w * (36 - thr ((k + 1) * 36) bias)) : rd (c :: r) k i w bias = (0, 0) := by simp only [rd, h]; rw [if_neg h1, if_neg h2, if_pos h3]
theorem rd_on (c : UInt8) (r : List UInt8) (k i w bias d : Nat) (h : val c = some d) (h1 : ¬ MOST < i + d * w) (h2 : ¬ d < thr ((k + 1) * 36) bias) (h3 : ¬ MOST < w * (36 - thr ((k + 1) * 36) bias)) : rd (c :: r) k i w bias = rd r (k + 1) (i + d * w) (w * (36 - thr ((k + 1) * 36) bias)) bias := by
  conv => lhs; unfold rd
  simp only [h]
  rw [if_neg h1, if_neg h2, if_neg h3]

theorem rd_bounds (l : List UInt8) : ∀ (k i w bias : Nat), (rd l k i w bias).1 ≤ MOST ∧ (rd l k i w bias).2 ≤ k + l.length ∧ ((rd l k i w bias).2 = 0 ∨ k < (rd l k i w bias).2) := by
  induction l with
  | nil => intro k i w bias; simp [rd]
  | cons c r ih =>
    intro k i w bias
    rcases hv : val c with _ | d
    · rw [rd_none c r k i w bias hv]; simp
    · by_cases h1 : MOST < i + d * w
      · rw [rd_many c r k i w bias d hv h1]; simp
      · by_cases h2 : d < thr ((k + 1) * 36) bias
        · rw [rd_end c r k i w bias d hv h1 h2]
          simp only [List.length_cons]
          omega
        · by_cases h3 : MOST < w * (36 - thr ((k + 1) * 36) bias)
          · rw [rd_big c r k i w bias d hv h1 h2 h3]; simp
          · rw [rd_on c r k i w bias d hv h1 h2 h3]
            have := ih (k + 1) (i + d * w) (w * (36 - thr ((k + 1) * 36) bias)) bias
            simp only [List.length_cons]
            omega

/-- A code point. -/
def scalar (c : Int) : Bool := decide ((0 ≤ c ∧ c < 55296) ∨ (57343 < c ∧ c ≤ 1114111))
/-- A list with one more at a place. -/
def put (l : List Int) (i : Nat) (x : Int) : List Int := l.take i ++ x :: l.drop i
theorem put_length (l : List Int) (i : Nat) (x : Int) (h : i ≤ l.length) : (put l i x).length = l.length + 1 := by
  unfold put
  simp
  omega

/-- The rounds of 'Decode', with fuel. -/
def decG : Nat → List UInt8 → Nat → Nat → Nat → List Int → Option (List Int)
  | 0, _, _, _, _, _ => none
  | f + 1, s, n, i, bias, l =>
    if s = [] then some l
    else if (rd s 0 0 1 bias).2 = 0 ∨ MOST < i + (rd s 0 0 1 bias).1 then none
    else if 1114111 < n + (i + (rd s 0 0 1 bias).1) / (l.length + 1) ∨ scalar (n + (i + (rd s 0 0 1 bias).1) / (l.length + 1) : Nat) = false then none
    else decG f (s.drop (rd s 0 0 1 bias).2) (n + (i + (rd s 0 0 1 bias).1) / (l.length + 1)) ((i + (rd s 0 0 1 bias).1) % (l.length + 1) + 1) (adapt (rd s 0 0 1 bias).1 (l.length + 1) (i == 0)) (put l ((i + (rd s 0 0 1 bias).1) % (l.length + 1)) (n + (i + (rd s 0 0 1 bias).1) / (l.length + 1) : Nat))

/-- The place of the last hyphen among the first k; -1: there is none. -/
def lastH (s : List UInt8) : Nat → Int
  | 0 => -1
  | k + 1 => if s[k]? = some 45 then (k : Int) else lastH s k
def hyphen (s : List UInt8) : Int := lastH s s.length
theorem lastH_lt (s : List UInt8) : ∀ k : Nat, -1 ≤ lastH s k ∧ lastH s k < k
  | 0 => by simp [lastH]
  | k + 1 => by
    have := lastH_lt s k
    unfold lastH
    split <;> omega

def asInts (s : List UInt8) : List Int := s.map fun c => (c.toNat : Int)
/-- The code points that a text tells; none: it has none. -/
def decP (s : List UInt8) : Option (List Int) :=
  if s.any (fun c => decide (128 ≤ c.toNat)) then none
  else if 0 < hyphen s then decG (s.length + 1) (s.drop ((hyphen s).toNat + 1)) 128 0 72 (asInts (s.take (hyphen s).toNat))
  else decG (s.length + 1) s 128 0 72 []

theorem decG_done (f : Nat) (n i b : Nat) (l : List Int) : decG (f + 1) [] n i b l = some l := by rw [decG, if_pos rfl]
theorem decG_stop (f : Nat) (s : List UInt8) (n i b q m : Nat) (l : List Int) (h : s ≠ []) (hr : rd s 0 0 1 b = (q, m)) (h2 : m = 0 ∨ MOST < i + q) : decG (f + 1) s n i b l = none := by
  rw [decG, if_neg h, hr, if_pos h2]
theorem decG_high (f : Nat) (s : List UInt8) (n i b q m : Nat) (l : List Int) (h : s ≠ []) (hr : rd s 0 0 1 b = (q, m)) (h2 : ¬ (m = 0 ∨ MOST < i + q)) (h3 : 1114111 < n + (i + q) / (l.length + 1) ∨ scalar (n + (i + q) / (l.length + 1) : Nat) = false) : decG (f + 1) s n i b l = none := by
  rw [decG, if_neg h, hr, if_neg h2, if_pos h3]
theorem decG_on (f : Nat) (s : List UInt8) (n i b q m : Nat) (l : List Int) (h : s ≠ []) (hr : rd s 0 0 1 b = (q, m)) (h2 : ¬ (m = 0 ∨ MOST < i + q)) (h3 : ¬ (1114111 < n + (i + q) / (l.length + 1) ∨ scalar (n + (i + q) / (l.length + 1) : Nat) = false)) :
    decG (f + 1) s n i b l = decG f (s.drop m) (n + (i + q) / (l.length + 1)) ((i + q) % (l.length + 1) + 1) (adapt q (l.length + 1) (i == 0)) (put l ((i + q) % (l.length + 1)) (n + (i + q) / (l.length + 1) : Nat)) := by
  rw [decG, if_neg h, hr, if_neg h2, if_neg h3]

end Go.Proofs.YtpoopgifikcneaaDoor.PunyP
