/- Plain facts on numbers in hexadecimal. No program stands here. Plain facts: what a text says as a hexadecimal number. No program stands here. What the library's own variables hold, as the walks need it, and that it stays so. -/
import Derived.Laws.Bits64
import Derived.Laws.BitsAllLaws
import Derived.Test.YtkinlobfdkeamaaGreatDoorRows
import Derived.WalkKit
import Derived.Deep.Draws
namespace Go.Proofs.YtkinlobfdkeamaaGreatDoor
open Go

/-- The digit with a value below 16. -/
def hexDig (n : Nat) : UInt8 := UInt8.ofNat (if n < 10 then 48 + n else 87 + n)

/-- The digits of a number. -/
def hexL (n : Nat) : List UInt8 := if n < 16 then [hexDig n] else hexL (n / 16) ++ [hexDig (n % 16)]
termination_by n
decreasing_by omega

theorem hexL_small {n : Nat} (h : n < 16) : hexL n = [hexDig n] := by rw [hexL, if_pos h]
theorem hexL_great {n : Nat} (h : ¬ n < 16) : hexL n = hexL (n / 16) ++ [hexDig (n % 16)] := by rw [hexL, if_neg h]

theorem hexDig_nat (n : Nat) (h : n < 16) : (hexDig n).toNat = if n < 10 then 48 + n else 87 + n := by
  unfold hexDig
  split <;> simp <;> omega

/-- The number that digits from the value a on come to. -/
def hexV : Nat → List UInt8 → Nat
  | a, [] => a
  | a, c :: r => hexV (a * 16 + (if c.toNat < 58 then c.toNat - 48 else c.toNat - 87)) r

theorem hexV_append (a : Nat) (l r : List UInt8) : hexV a (l ++ r) = hexV (hexV a l) r := by
  induction l generalizing a with
  | nil => rfl
  | cons c l ih => simp only [List.cons_append, hexV]; exact ih _

theorem hexV_dig (a n : Nat) (h : n < 16) : hexV a [hexDig n] = a * 16 + n := by
  simp only [hexV, hexDig_nat n h]
  split <;> split <;> omega

theorem hexV_hexL (n : Nat) : hexV 0 (hexL n) = n := by
  induction n using Nat.strongRecOn with
  | ind n ih =>
    by_cases h : n < 16
    · rw [hexL_small h, hexV_dig 0 n h]; omega
    · rw [hexL_great h, hexV_append, ih (n / 16) (by omega), hexV_dig _ _ (by omega)]; omega

theorem hexL_inj {a b : Nat} (h : hexL a = hexL b) : a = b := by
  have := congrArg (hexV 0) h
  rwa [hexV_hexL, hexV_hexL] at this

theorem hexL_ne (n : Nat) : hexL n ≠ [] := by
  by_cases h : n < 16
  · rw [hexL_small h]; simp
  · rw [hexL_great h]; simp

theorem hexL_pos (n : Nat) : 0 < (hexL n).length := List.length_pos_iff.2 (hexL_ne n)

/-- Longer texts are greater numbers. -/
theorem hexL_len (n : Nat) : ∀ k, n < 16 ^ (k + 1) → (hexL n).length ≤ k + 1 := by
  induction n using Nat.strongRecOn with
  | ind n ih =>
    intro k hk
    by_cases h : n < 16
    · rw [hexL_small h]; simp
    · rw [hexL_great h]
      cases k with
      | zero => simp at hk; omega
      | succ k =>
        have := ih (n / 16) (by omega) k (by rw [Nat.div_lt_iff_lt_mul (by omega)]; rwa [← Nat.pow_succ])
        simp; omega

theorem hexL_lo (n : Nat) : n ≠ 0 → 16 ^ ((hexL n).length - 1) ≤ n := by
  induction n using Nat.strongRecOn with
  | ind n ih =>
    intro h0
    by_cases h : n < 16
    · rw [hexL_small h]; simp; omega
    · rw [hexL_great h]
      have h1 := ih (n / 16) (by omega) (by omega)
      have hp := hexL_pos (n / 16)
      have e : ((hexL (n / 16) ++ [hexDig (n % 16)]).length - 1) = ((hexL (n / 16)).length - 1) + 1 := by simp; omega
      rw [e, Nat.pow_succ]
      omega

/-- The first digit of a number above 0 is not 0. -/
theorem hexL_head (n : Nat) : n ≠ 0 → ∃ d r, 0 < d ∧ d < 16 ∧ hexL n = hexDig d :: r := by
  induction n using Nat.strongRecOn with
  | ind n ih =>
    intro h0
    by_cases h : n < 16
    · exact ⟨n, [], by omega, h, hexL_small h⟩
    · obtain ⟨d, r, h1, h2, h3⟩ := ih (n / 16) (by omega) (by omega)
      exact ⟨d, r ++ [hexDig (n % 16)], h1, h2, by rw [hexL_great h, h3]; rfl⟩

/-- What a text of hexadecimal digits is made of. -/
def isHex (c : UInt8) : Prop := (48 ≤ c.toNat ∧ c.toNat ≤ 57) ∨ (97 ≤ c.toNat ∧ c.toNat ≤ 102)

theorem hexDig_isHex (n : Nat) (h : n < 16) : isHex (hexDig n) := by
  unfold isHex
  rw [hexDig_nat n h]
  split <;> omega

theorem hexL_isHex (n : Nat) : ∀ c, c ∈ hexL n → isHex c := by
  induction n using Nat.strongRecOn with
  | ind n ih =>
    intro c hc
    by_cases h : n < 16
    · rw [hexL_small h] at hc
      obtain rfl : c = hexDig n := by simpa using hc
      exact hexDig_isHex n h
    · rw [hexL_great h, List.mem_append] at hc
      rcases hc with hc | hc
      · exact ih (n / 16) (by omega) c hc
      · obtain rfl : c = hexDig (n % 16) := by simpa using hc
        exact hexDig_isHex _ (by omega)

end Go.Proofs.YtkinlobfdkeamaaGreatDoor

namespace Go.Proofs.YtkinlobfdkeamaaGreatDoor
open Go

/-- The value of a hexadecimal digit. -/
def digOf (c : UInt8) : Option Nat :=
  if 48 ≤ c.toNat ∧ c.toNat ≤ 57 then some (c.toNat - 48) else if 65 ≤ c.toNat ∧ c.toNat ≤ 70 then some (c.toNat - 55) else if 97 ≤ c.toNat ∧ c.toNat ≤ 102 then some (c.toNat - 87) else none

theorem digOf_lt {c : UInt8} {d : Nat} (h : digOf c = some d) : d < 16 := by
  unfold digOf at h
  split at h
  · injection h with h; omega
  · split at h
    · injection h with h; omega
    · split at h
      · injection h with h; omega
      · cases h

/-- What a text of digits comes to. -/
inductive PR where
  | ok (n : Nat)
  | nodig
  | range

def hexP : Nat → List UInt8 → PR
  | a, [] => .ok a
  | a, c :: r => match digOf c with
    | none => .nodig
    | some d => if 1152921504606846976 ≤ a then .range else hexP (a * 16 + d) r

theorem hexP_lt (l : List UInt8) : ∀ a n, a < 18446744073709551616 → hexP a l = .ok n → n < 18446744073709551616 := by
  induction l with
  | nil => intro a n h e; simp only [hexP] at e; injection e with e; omega
  | cons c r ih =>
    intro a n h e
    simp only [hexP] at e
    split at e
    · cases e
    · rename_i d hd
      split at e
      · cases e
      · exact ih _ n (by have := digOf_lt hd; omega) e

theorem digOf_dig (n : Nat) (h : n < 16) : digOf (hexDig n) = some n := by
  unfold digOf
  rw [hexDig_nat n h]
  split
  · rw [if_pos (by omega)]; congr 1; omega
  · rw [if_neg (by omega), if_neg (by omega), if_pos (by omega)]; congr 1; omega

theorem hexP_append (l r : List UInt8) : ∀ a n, hexP a l = .ok n → hexP a (l ++ r) = hexP n r := by
  induction l with
  | nil => intro a n e; simp only [hexP] at e; injection e with e; rw [e]; rfl
  | cons c l ih =>
    intro a n e
    simp only [hexP, List.cons_append] at e ⊢
    split at e
    · cases e
    · split at e
      · cases e
      · rename_i hlt; rw [if_neg hlt]; exact ih _ n e

theorem hexP_hexL (n : Nat) : n < 18446744073709551616 → hexP 0 (hexL n) = .ok n := by
  induction n using Nat.strongRecOn with
  | ind n ih =>
    intro hn
    by_cases h : n < 16
    · rw [hexL_small h]; simp [hexP, digOf_dig n h]
    · rw [hexL_great h, hexP_append _ _ 0 (n / 16) (ih _ (by omega) (by omega))]
      simp only [hexP, digOf_dig (n % 16) (by omega)]
      rw [if_neg (by omega)]
      congr 1; omega

theorem hexP_zero (n : Nat) (hn : n < 18446744073709551616) : hexP 0 (48 :: hexL n) = .ok n := by
  have : hexP 0 (48 :: hexL n) = hexP 0 (hexL n) := by simp [hexP, digOf]
  rw [this, hexP_hexL n hn]

end Go.Proofs.YtkinlobfdkeamaaGreatDoor

namespace Go.Proofs.YtkinlobfdkeamaaGreatDoor
open Go.RowKit

def bruijn64 : List Int := [0, 1, 56, 2, 57, 49, 28, 3, 61, 58, 42, 50, 38, 29, 17, 4, 62, 47, 59, 36, 45, 43, 51, 22, 53, 39, 33, 30, 24, 18, 12, 5, 63, 55, 48, 27, 60, 41, 37, 16, 46, 35, 44, 21, 52, 32, 23, 11, 54, 26, 40, 15, 34, 20, 31, 10, 25, 14, 19, 9, 13, 8, 7, 6]

/-- What the library's variables hold. -/
structure Glob (w : World) : Prop where
  br64 : ∀ j, j < 64 → w.cell? ⟨4, j, none⟩ = some (.int .u8 (bruijn64.getD j 0))

theorem cellLater {w wx : World} {a : Addr} {v : Value} (hb : Below w.heap.size w wx) (h : w.cell? a = some v) : wx.cell? a = some v := (hb.cell (World.block_lt_of_cell? _ _ h)).trans h

theorem Glob.later {w wx : World} (hG : Glob w) (hb : Below w.heap.size w wx) : Glob wx :=
  ⟨fun j hj => cellLater hb (hG.br64 j hj)⟩

theorem Glob.alloc {w : World} (hG : Glob w) (o : Obj) : Glob (w.alloc o) := hG.later ((Below.refl _ _).alloc (Nat.le_refl _) o)
theorem Glob.drew {w : World} (hG : Glob w) : Glob w.drew := hG.later ((Below.refl _ _).drew)
theorem below_drewN {B : Nat} {a w : World} (h : Below B a w) (n : Nat) : Below B a (w.drewN n) := ⟨h.os, h.tape, h.output, h.size, h.block⟩
theorem Glob.drewN {w : World} (hG : Glob w) (n : Nat) : Glob (w.drewN n) := hG.later (below_drewN (Below.refl _ _) n)

theorem size_alloc (w : World) (o : Obj) : (w.alloc o).heap.size = w.heap.size + 1 := by simp
/-- What was there when w began is there in w'. -/
theorem ext_trans {a b c : World} (h : Below a.heap.size a b) (k : Below b.heap.size b c) : Below a.heap.size a c := h.trans (k.mono h.size)
theorem ext_alloc (w : World) (o : Obj) : Below w.heap.size w (w.alloc o) := (Below.refl _ _).alloc (Nat.le_refl _) o
theorem ext_drewN {a b : World} (h : Below a.heap.size a b) (n : Nat) : Below a.heap.size a (b.drewN n) := below_drewN h n

end Go.Proofs.YtkinlobfdkeamaaGreatDoor

