/- Plain facts: what a text says as a hexadecimal number. No program stands here. -/
import Derived.Test.YtkinlobfdkeamaaGreatDoorHexPlain
namespace Go.Proofs.YtkinlobfdkeamaaGreatDoor
open Go

/-- The value of a hexadecimal digit. -/
def digOf (c : UInt8) : Option Nat :=
  if 48 ≤ c.toNat ∧ c.toNat ≤ 57 then some (c.toNat - 48) else if 65 ≤ c.toNat ∧ c.toNat ≤ 70 then some (c.toNat - 55) else if 97 ≤ c.toNat ∧ c.toNat ≤ 102 then some (c.toNat - 87) else none

theorem digOf_lt {c : UInt8} {d : Nat} (h : digOf c = some d) : d < 16 := by
  unfold digOf at h
  split at h
  · injection h with h; omega
  · split at h
    · injection h with h; omega
    · split at h
      · injection h with h; omega
      · cases h

/-- What a text of digits comes to. -/
inductive PR where
  | ok (n : Nat)
  | nodig
  | range

def hexP : Nat → List UInt8 → PR
  | a, [] => .ok a
  | a, c :: r => match digOf c with
    | none => .nodig
    | some d => if 1152921504606846976 ≤ a then .range else hexP (a * 16 + d) r

theorem hexP_lt (l : List UInt8) : ∀ a n, a < 18446744073709551616 → hexP a l = .ok n → n < 18446744073709551616 := by
  induction l with
  | nil => intro a n h e; simp only [hexP] at e; injection e with e; omega
  | cons c r ih =>
    intro a n h e
    simp only [hexP] at e
    split at e
    · cases e
    · rename_i d hd
      split at e
      · cases e
      · exact ih _ n (by have := digOf_lt hd; omega) e

theorem digOf_dig (n : Nat) (h : n < 16) : digOf (hexDig n) = some n := by
  unfold digOf
  rw [hexDig_nat n h]
  split
  · rw [if_pos (by omega)]; congr 1; omega
  · rw [if_neg (by omega), if_neg (by omega), if_pos (by omega)]; congr 1; omega

theorem hexP_append (l r : List UInt8) : ∀ a n, hexP a l = .ok n → hexP a (l ++ r) = hexP n r := by
  induction l with
  | nil => intro a n e; simp only [hexP] at e; injection e with e; rw [e]; rfl
  | cons c l ih =>
    intro a n e
    simp only [hexP, List.cons_append] at e ⊢
    split at e
    · cases e
    · split at e
      · cases e
      · rename_i hlt; rw [if_neg hlt]; exact ih _ n e

theorem hexP_hexL (n : Nat) : n < 18446744073709551616 → hexP 0 (hexL n) = .ok n := by
  induction n using Nat.strongRecOn with
  | ind n ih =>
    intro hn
    by_cases h : n < 16
    · rw [hexL_small h]; simp [hexP, digOf_dig n h]
    · rw [hexL_great h, hexP_append _ _ 0 (n / 16) (ih _ (by omega) (by omega))]
      simp only [hexP, digOf_dig (n % 16) (by omega)]
      rw [if_neg (by omega)]
      congr 1; omega

theorem hexP_zero (n : Nat) (hn : n < 18446744073709551616) : hexP 0 (48 :: hexL n) = .ok n := by
  have : hexP 0 (48 :: hexL n) = hexP 0 (hexL n) := by simp [hexP, digOf]
  rw [this, hexP_hexL n hn]

end Go.Proofs.YtkinlobfdkeamaaGreatDoor
