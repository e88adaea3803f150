/- Plain facts on numbers in hexadecimal. No program stands here. -/
import Derived.Laws.Bits64
import Derived.Laws.BitsAllLaws
namespace Go.Proofs.YtkinlobfdkeamaaGreatDoor
open Go

/-- The digit with a value below 16. -/
def hexDig (n : Nat) : UInt8 := UInt8.ofNat (if n < 10 then 48 + n else 87 + n)

/-- The digits of a number. -/
def hexL (n : Nat) : List UInt8 := if n < 16 then [hexDig n] else hexL (n / 16) ++ [hexDig (n % 16)]
termination_by n
decreasing_by omega

theorem hexL_small {n : Nat} (h : n < 16) : hexL n = [hexDig n] := by rw [hexL, if_pos h]
theorem hexL_great {n : Nat} (h : ¬ n < 16) : hexL n = hexL (n / 16) ++ [hexDig (n % 16)] := by rw [hexL, if_neg h]

theorem hexDig_nat (n : Nat) (h : n < 16) : (hexDig n).toNat = if n < 10 then 48 + n else 87 + n := by
  unfold hexDig
  split <;> simp <;> omega

/-- The number that digits from the value a on come to. -/
def hexV : Nat → List UInt8 → Nat
  | a, [] => a
  | a, c :: r => hexV (a * 16 + (if c.toNat < 58 then c.toNat - 48 else c.toNat - 87)) r

theorem hexV_append (a : Nat) (l r : List UInt8) : hexV a (l ++ r) = hexV (hexV a l) r := by
  induction l generalizing a with
  | nil => rfl
  | cons c l ih => simp only [List.cons_append, hexV]; exact ih _

theorem hexV_dig (a n : Nat) (h : n < 16) : hexV a [hexDig n] = a * 16 + n := by
  simp only [hexV, hexDig_nat n h]
  split <;> split <;> omega

theorem hexV_hexL (n : Nat) : hexV 0 (hexL n) = n := by
  induction n using Nat.strongRecOn with
  | ind n ih =>
    by_cases h : n < 16
    · rw [hexL_small h, hexV_dig 0 n h]; omega
    · rw [hexL_great h, hexV_append, ih (n / 16) (by omega), hexV_dig _ _ (by omega)]; omega

theorem hexL_inj {a b : Nat} (h : hexL a = hexL b) : a = b := by
  have := congrArg (hexV 0) h
  rwa [hexV_hexL, hexV_hexL] at this

theorem hexL_ne (n : Nat) : hexL n ≠ [] := by
  by_cases h : n < 16
  · rw [hexL_small h]; simp
  · rw [hexL_great h]; simp

theorem hexL_pos (n : Nat) : 0 < (hexL n).length := List.length_pos_iff.2 (hexL_ne n)

/-- Longer texts are greater numbers. -/
theorem hexL_len (n : Nat) : ∀ k, n < 16 ^ (k + 1) → (hexL n).length ≤ k + 1 := by
  induction n using Nat.strongRecOn with
  | ind n ih =>
    intro k hk
    by_cases h : n < 16
    · rw [hexL_small h]; simp
    · rw [hexL_great h]
      cases k with
      | zero => simp at hk; omega
      | succ k =>
        have := ih (n / 16) (by omega) k (by rw [Nat.div_lt_iff_lt_mul (by omega)]; rwa [← Nat.pow_succ])
        simp; omega

theorem hexL_lo (n : Nat) : n ≠ 0 → 16 ^ ((hexL n).length - 1) ≤ n := by
  induction n using Nat.strongRecOn with
  | ind n ih =>
    intro h0
    by_cases h : n < 16
    · rw [hexL_small h]; simp; omega
    · rw [hexL_great h]
      have h1 := ih (n / 16) (by omega) (by omega)
      have hp := hexL_pos (n / 16)
      have e : ((hexL (n / 16) ++ [hexDig (n % 16)]).length - 1) = ((hexL (n / 16)).length - 1) + 1 := by simp; omega
      rw [e, Nat.pow_succ]
      omega

/-- The first digit of a number above 0 is not 0. -/
theorem hexL_head (n : Nat) : n ≠ 0 → ∃ d r, 0 < d ∧ d < 16 ∧ hexL n = hexDig d :: r := by
  induction n using Nat.strongRecOn with
  | ind n ih =>
    intro h0
    by_cases h : n < 16
    · exact ⟨n, [], by omega, h, hexL_small h⟩
    · obtain ⟨d, r, h1, h2, h3⟩ := ih (n / 16) (by omega) (by omega)
      exact ⟨d, r ++ [hexDig (n % 16)], h1, h2, by rw [hexL_great h, h3]; rfl⟩

/-- What a text of hexadecimal digits is made of. -/
def isHex (c : UInt8) : Prop := (48 ≤ c.toNat ∧ c.toNat ≤ 57) ∨ (97 ≤ c.toNat ∧ c.toNat ≤ 102)

theorem hexDig_isHex (n : Nat) (h : n < 16) : isHex (hexDig n) := by
  unfold isHex
  rw [hexDig_nat n h]
  split <;> omega

theorem hexL_isHex (n : Nat) : ∀ c, c ∈ hexL n → isHex c := by
  induction n using Nat.strongRecOn with
  | ind n ih =>
    intro c hc
    by_cases h : n < 16
    · rw [hexL_small h] at hc
      obtain rfl : c = hexDig n := by simpa using hc
      exact hexDig_isHex n h
    · rw [hexL_great h, List.mem_append] at hc
      rcases hc with hc | hc
      · exact ih (n / 16) (by omega) c hc
      · obtain rfl : c = hexDig (n % 16) := by simpa using hc
        exact hexDig_isHex _ (by omega)

end Go.Proofs.YtkinlobfdkeamaaGreatDoor
