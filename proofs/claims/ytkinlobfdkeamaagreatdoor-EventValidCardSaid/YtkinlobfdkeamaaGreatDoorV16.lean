/- The walk of the law EventHex. The dice of the kit, and what stays while they are thrown. SHA-256 of a byte list in plain Lean: the fold over the padded blocks. -/
import Derived.Test.YtkinlobfdkeamaaGreatDoorV03
import Derived.StillTailTactics
import Derived.Test.YtkinlobfdkeamaaGreatDoorV06
namespace Go.Proofs.YtkinlobfdkeamaaGreatDoor
open Go.RowKit

theorem mod_plain (n m : Int) (h : 1 ≤ m) : (n.tmod m + m).tmod m = n % m := by
  have h1 : -m < n.tmod m := by have := Int.lt_tmod_of_pos n (show 0 < m by omega); omega
  have h2 : n.tmod m < m := Int.tmod_lt_of_pos n (by omega)
  rw [Int.tmod_eq_emod_of_nonneg (by omega), Int.add_emod_right]
  have h3 : n = m * n.tdiv m + n.tmod m := (Int.mul_tdiv_add_tmod n m).symm
  conv => rhs; rw [h3, Int.add_comm, Int.add_mul_emod_self_left]

theorem Mod_any (n m : Int) (h : 1 ≤ m) (hm : m ≤ 4611686018427387904) (_hn0 : -9223372036854775808 ≤ n) (_hn1 : n ≤ 9223372036854775807) (w : World) :
    Calls Tryz.prog 5 #[.int .i64 n, .int .i64 m] w fun e w' => e = .returned (.int .i64 (n % m)) ∧ w = w' := by
  have e1 := mod_plain n m h
  have h1 : -m < n.tmod m := by have := Int.lt_tmod_of_pos n (show 0 < m by omega); omega
  have h2 : n.tmod m < m := Int.tmod_lt_of_pos n (by omega)
  go_enter Tryz.func5, Tryz.ntmps5
  go_wp2
  go_ret
  exact ⟨rfl, rfl⟩

theorem hexS_size (n : Nat) : (hexS n).size = (hexL n).length := by simp [hexS, ByteArray.size]
theorem hexS_toList (n : Nat) : (hexS n).toList = hexL n := by
  rw [ByteArray.toList_eq]
  simp [hexS]

/-- A number's own text. -/
theorem digits_hexS (n : Nat) (hn : n < 1152921504606846976) : Digits (hexS n) n where
  ne := by rw [hexS_size]; have := hexL_pos n; omega
  small := by rw [hexS_size]; have := hexL_len n 15 (by omega); omega
  head := fun h => by
    have hl : 0 < (hexL n).length := by rw [hexS_size] at h; exact h
    exact hexL_isHex n _ (List.getElem_mem hl)
  val := by show hexP 0 (hexL n).toArray.toList = _; exact hexP_hexL n (by omega)
  lt := by omega

/-- The same with a zero ahead. -/
theorem digits_zero (n : Nat) (hn : n < 1152921504606846976) : Digits ⟨(48 :: hexL n).toArray⟩ n where
  ne := by simp [ByteArray.size]
  small := by have := hexL_len n 15 (by omega); simp [ByteArray.size]; omega
  head := fun h => by show isHex 48; unfold isHex; left; decide
  val := by show hexP 0 (48 :: hexL n).toArray.toList = _; exact hexP_zero n (by omega)
  lt := by omega

theorem hexS_eq (x y : Nat) : ((hexS x).toList == (hexS y).toList) = ((x : Int) == (y : Int)) := by
  rw [hexS_toList, hexS_toList, Bool.eq_iff_iff, beq_iff_eq, beq_iff_eq]
  exact ⟨fun h => by rw [hexL_inj h], fun h => by rw [Int.ofNat.inj h]⟩

theorem hexL_mono (x : Nat) : ∀ y, x ≤ y → (hexL x).length ≤ (hexL y).length := by
  induction x using Nat.strongRecOn with
  | ind x ih =>
    intro y h
    by_cases hx : x < 16
    · rw [hexL_small hx]; exact hexL_pos y
    · rw [hexL_great hx, hexL_great (n := y) (by omega), List.length_append, List.length_append]
      have := ih (x / 16) (by omega) (y / 16) (by omega)
      simp; omega

/-- A longer text is a greater number's. -/
theorem hexS_longer {x y : Nat} (h : (hexS y).size < (hexS x).size) : y < x := by
  rw [hexS_size, hexS_size] at h
  rcases Nat.lt_or_ge y x with h1 | h1
  · exact h1
  · have := hexL_mono x y h1
    omega

theorem hexS_head {x : Nat} (h : 1 < (hexS x).size) (h0 : 0 < (hexS x).size) : ((hexS x)[0]'h0).toNat ≠ 48 := by
  have hx : x ≠ 0 := by
    rintro rfl
    rw [hexS_size, hexL_small (by omega)] at h
    simp at h
  obtain ⟨d, r, h1, h2, h3⟩ := hexL_head x hx
  have e : (hexS x)[0]'h0 = hexDig d := by
    have hl : 0 < (hexL x).length := by rw [h3]; simp
    show (hexL x)[0]'hl = _
    simp only [h3, List.getElem_cons_zero]
  rw [e, hexDig_nat d h2]
  split <;> omega

theorem hexLaw (a b : Int) (h0 : -9223372036854775808 ≤ a) (h1 : a ≤ 9223372036854775807) (h2 : -9223372036854775808 ≤ b) (h3 : b ≤ 9223372036854775807) (w : World) (hG : Glob w) :
    Calls Tryz.prog 3 #[.int .i64 a, .int .i64 b] w fun e w' => e = .returned (.bool true) ∧ Below w.heap.size w w' := by
  obtain ⟨x, hx, hx1⟩ : ∃ x : Nat, a % 1099511627777 = (x : Int) ∧ x ≤ 1099511627776 := ⟨(a % 1099511627777).toNat, by omega, by omega⟩
  obtain ⟨y, hy, hy1⟩ : ∃ y : Nat, b % 1099511627777 = (y : Int) ∧ y ≤ 1099511627776 := ⟨(b % 1099511627777).toNat, by omega, by omega⟩
  have ca := Mod_any a 1099511627777 (by omega) (by omega) h0 h1
  have cb := Mod_any b 1099511627777 (by omega) (by omega) h2 h3
  rw [hx] at ca
  rw [hy] at cb
  clear hx hy
  have CA := Lib.hid ca
  have CB := Lib.hid cb
  clear ca cb
  go_enter Tryz.func3, Tryz.ntmps3
  go_wp2_with fail
  refine (CA.out _).mono ?_
  rintro e w' ⟨rfl, rfl⟩
  go_wp2_with fail
  refine (CB.out _).mono ?_
  rintro e w' ⟨rfl, rfl⟩
  go_wp2_with fail
  refine (Hex_nat x (by omega) _ hG).mono ?_
  rintro e w1 ⟨rfl, b1⟩
  have g1 := hG.later b1
  go_wp2_with fail
  refine (Hex_nat y (by omega) _ g1).mono ?_
  rintro e w2 ⟨rfl, b2⟩
  have g2 := g1.later b2
  go_wp2_with fail
  refine (ParseHex_yes _ x (digits_hexS x (by omega)) rfl hx1 _ g2).mono ?_
  rintro e w3 ⟨rfl, b3⟩
  have g3 := g2.later b3
  have q1 := hexS_eq x y
  have q2 : 0 < (hexS x).size := by rw [hexS_size]; exact hexL_pos x
  have q6 : (hexS x).size ≤ 16 := by rw [hexS_size]; exact hexL_len x 15 (by omega)
  have q3 := fun h => hexS_head (x := x) h q2
  have q4 := hexS_longer (x := x) (y := y)
  have c4 : ∀ w, Glob w → Calls Tryz.prog 7 #[.string (⟨#[48]⟩ ++ hexS x)] w fun e w' => e = .returned (.tuple #[.int .i64 0, .bool false]) ∧ Below w.heap.size w w' := fun w hG => by
    have e : (⟨#[48]⟩ ++ hexS x : ByteArray) = ⟨(48 :: hexL x).toArray⟩ := by
      apply ByteArray.ext
      simp [hexS]
    rw [e]
    refine ParseHex_other _ x (digits_zero x (by omega)) ?_ hx1 w hG
    rw [hexS_toList, ByteArray.toList_eq]
    simp only [beq_eq_false_iff_ne, ne_eq]
    intro h
    have := congrArg List.length h
    simp at this
  have C4 := Lib.hid c4
  clear c4
  generalize hexS x = s at q1 q2 q3 q4 q6 C4 ⊢
  generalize hexS y = u at q1 q4 ⊢
  have q5 : 1 < s.size → (((s[0]'q2).toNat : Int) == 48) = false := fun h => by have := q3 h; simp; omega
  clear q3
  have q7 : (1 < s.size ∧ (((s[0]'q2).toNat : Int) == 48) = false) ∨ s.size ≤ 1 := by
    by_cases k1 : 1 < s.size
    · exact .inl ⟨k1, q5 k1⟩
    · exact .inr (by omega)
  have q8 : (u.size < s.size ∧ y < x) ∨ s.size ≤ u.size := by
    by_cases k3 : u.size < s.size
    · exact .inl ⟨k3, q4 k3⟩
    · exact .inr (by omega)
  clear q4 q5
  rcases q7 with ⟨k1, k2⟩ | k1 <;> rcases q8 with ⟨k3, k4⟩ | k3
  all_goals
    go_wp2_with fail
    refine (C4.out _ g3).mono ?_
    rintro e w4 ⟨rfl, b4⟩
    have g4 := g3.later b4
    go_wp2_with fail
    refine (Hex_nat 1099511627777 (by omega) _ g4).mono ?_
    rintro e w5 ⟨rfl, b5⟩
    have g5 := g4.later b5
    go_wp2_with fail
    refine (ParseHex_great _ 1099511627777 (digits_hexS _ (by omega)) (by omega) _).mono ?_
    rintro e w6 ⟨rfl, b6⟩
    have g6 := g5.later b6
    go_wp2_with fail
    refine (Hex_neg (-1) (by omega) _).mono ?_
    rintro e w' ⟨rfl, rfl⟩
    go_wp2_with fail
    refine (awake_true _ g6).mono ?_
    rintro e w7 ⟨rfl, b7⟩
    go_wp2_with fail
    go_ret
    exact ⟨rfl, ((((((b1.trans (b2.mono b1.size)).trans (b3.mono (Nat.le_trans b1.size b2.size))).trans (b4.mono (Nat.le_trans b1.size (Nat.le_trans b2.size b3.size)))).trans (b5.mono (Nat.le_trans b1.size (Nat.le_trans b2.size (Nat.le_trans b3.size b4.size))))).trans (b6.mono (Nat.le_trans b1.size (Nat.le_trans b2.size (Nat.le_trans b3.size (Nat.le_trans b4.size b5.size)))))).trans (b7.mono (Nat.le_trans b1.size (Nat.le_trans b2.size (Nat.le_trans b3.size (Nat.le_trans b4.size (Nat.le_trans b5.size b6.size)))))))⟩

end Go.Proofs.YtkinlobfdkeamaaGreatDoor

namespace Go.Proofs.YtkinlobfdkeamaaGreatDoor
open Go.RowKit

/-- Between w and w' nothing has turned but the block D. -/
structure KitB (D : Nat) (w w' : World) : Prop where
  os : w'.os = w.os
  tape : w'.tape = w.tape
  output : w'.output = w.output
  size : w.heap.size ≤ w'.heap.size
  block : ∀ k, k < w.heap.size → k ≠ D → w'.heap[k]? = w.heap[k]?
theorem KitB.refl (D : Nat) (w : World) : KitB D w w := ⟨rfl, rfl, rfl, Nat.le_refl _, fun _ _ _ => rfl⟩
theorem KitB.trans {D : Nat} {a b c : World} (h : KitB D a b) (k : KitB D b c) : KitB D a c :=
  ⟨k.os.trans h.os, k.tape.trans h.tape, k.output.trans h.output, Nat.le_trans h.size k.size, fun i hi hD => (k.block i (Nat.lt_of_lt_of_le hi h.size) hD).trans (h.block i hi hD)⟩
theorem KitB.of {D : Nat} {w w' : World} (h : Below w.heap.size w w') : KitB D w w' := ⟨h.os, h.tape, h.output, h.size, fun k hk _ => h.block k hk⟩
theorem KitB.below {D : Nat} {w0 w w' : World} (h : KitB D w w') (h0 : Below w0.heap.size w0 w) (hD : w0.heap.size ≤ D) : Below w0.heap.size w0 w' :=
  ⟨h.os.trans h0.os, h.tape.trans h0.tape, h.output.trans h0.output, Nat.le_trans h0.size h.size, fun k hk => (h.block k (Nat.lt_of_lt_of_le hk h0.size) (by omega)).trans (h0.block k hk)⟩
theorem KitB.cell {D : Nat} {w w' : World} (h : KitB D w w') {a : Addr} {v : Value} (ha : a.block ≠ D) (hc : w.cell? a = some v) : w'.cell? a = some v := by
  rw [World.cell?_of_block (w := w) (h.block a.block (World.block_lt_of_cell? _ _ hc) ha)]; exact hc
theorem KitB.row {D : Nat} {w w' : World} (h : KitB D w w') {k : Nat} {o : Obj} (hk : k ≠ D) (hr : w.heap[k]? = some o) : w'.heap[k]? = some o := by
  rw [h.block k (Array.getElem?_eq_some_iff.1 hr).1 hk]; exact hr

theorem KitB.store {D : Nat} {a w : World} (h : KitB D a w) (j : Nat) (v : Value) : KitB D a (w.setCell ⟨D, j, none⟩ v) :=
  h.trans ⟨rfl, rfl, rfl, by simp [World.setCell], fun k _ hD => Below.heap_setCell _ _ _ _ hD⟩

/-- It holds, and will whatever the dice do. -/
def Firm (D : Nat) (w : World) (φ : World → Prop) : Prop := ∀ w', KitB D w w' → φ w'
theorem Firm.now {D : Nat} {w : World} {φ : World → Prop} (h : Firm D w φ) : φ w := h w (KitB.refl _ _)
theorem Firm.kit {D : Nat} {w w' : World} {φ : World → Prop} (h : Firm D w φ) (b : KitB D w w') : Firm D w' φ := fun w2 b2 => h w2 (b.trans b2)
theorem Firm.later {D : Nat} {w w' : World} {φ : World → Prop} (h : Firm D w φ) (b : Below w.heap.size w w') : Firm D w' φ := h.kit (.of b)

/-- The dice: their numbers, and how many have been thrown. -/
structure Dice (D : Nat) (A : Option Addr) (n c : Nat) (w : World) : Prop where
  row : ∃ t : Nat, w.heap[D]? = some (.cells #[.slice A n c, .int .i64 (t : Int)] 58 (0, 0)) ∧ t ≤ n
  cap : n ≤ c
  few : n ≤ 1000000
  ints : ∀ i, i < n → ∃ ad z, A = some ad ∧ (ad.add i).block ≠ D ∧ w.cell? (ad.add i) = some (.int .i64 z) ∧ -9223372036854775808 ≤ z ∧ z ≤ 9223372036854775807
theorem Dice.later {D : Nat} {A : Option Addr} {n c : Nat} {w w' : World} (h : Dice D A n c w) (b : Below w.heap.size w w') : Dice D A n c w' := by
  obtain ⟨t, hr, ht⟩ := h.row
  exact ⟨⟨t, rowLater b hr, ht⟩, h.cap, h.few, fun i hi => by obtain ⟨ad, z, h1, h2, h3, h4⟩ := h.ints i hi; exact ⟨ad, z, h1, h2, cellLater b h3, h4⟩⟩

/-- What a function of the kit does to the memory. -/
structure KitW (D : Nat) (A : Option Addr) (n c : Nat) (w w' : World) : Prop where
  b : KitB D w w'
  d : Dice D A n c w'
theorem KitW.refl {D : Nat} {A : Option Addr} {n c : Nat} {w : World} (h : Dice D A n c w) : KitW D A n c w w := ⟨KitB.refl _ _, h⟩
theorem KitW.trans {D : Nat} {A : Option Addr} {n c : Nat} {a b e : World} (h : KitW D A n c a b) (k : KitW D A n c b e) : KitW D A n c a e := ⟨h.b.trans k.b, k.d⟩
theorem KitW.later {D : Nat} {A : Option Addr} {n c : Nat} {a b e : World} (h : KitW D A n c a b) (k : Below b.heap.size b e) : KitW D A n c a e := ⟨h.b.trans (.of k), h.d.later k⟩

set_option maxHeartbeats 4000000 in
set_option maxRecDepth 100000 in
theorem next_any (D : Nat) (A : Option Addr) (n c : Nat) (m : Int) (h1 : 1 ≤ m) (h2 : m ≤ 1000000) (w : World) (hd : Dice D A n c w) : Calls Tryz.prog 27 #[.pointer (some ⟨D, 0, none⟩), .int .i64 m] w fun e w' => (∃ z : Int, e = .returned (.int .i64 z) ∧ 0 ≤ z ∧ z < m) ∧ KitW D A n c w w' := by
  obtain ⟨⟨t, hrow, ht⟩, hcap, hfew, hints⟩ := id hd
  have HD : PLift _ := PLift.up hd
  have c0 := cell_of_row _ _ 0 _ _ _ hrow
  have c1 := cell_of_row _ _ 1 _ _ _ hrow
  have HI : PLift _ := PLift.up hints
  clear hints hd
  go_enter Tryz.func27, Tryz.ntmps27
  by_cases hlt : t < n
  · have j0 : decide ((n : Int) ≤ (t : Int)) = false := by simp; omega
    have j1 : ¬ ((n : Int) ≤ (t : Int)) := by omega
    have hfr : w.frozen? ⟨D, 1, none⟩ = false := Go.frozen_of_row w D 1 _ _ hrow
    obtain ⟨ad, z, rfl, hblk, hz, z1, z2⟩ := HI.down t hlt
    go_wp2_with fail
    go_quiet (fail)
    go_wp2_with fail
    have hrow1 : ((w.drewN nq).setCell ⟨D, 1, none⟩ (.int .i64 ((t : Int) + 1))).heap[D]? = some (.cells #[.slice (some ad) n c, .int .i64 ((t : Int) + 1)] 58 (0, 0)) := heap_setCell_same (w.drewN nq) D 1 _ _ _ hrow
    have hK1 : KitB D w ((w.drewN nq).setCell ⟨D, 1, none⟩ (.int .i64 ((t : Int) + 1))) := (KitB.of (below_drewN (Below.refl _ _) _)).store 1 _
    have hz1 := hK1.cell hblk hz
    clear hz hrow c0 c1 hfr
    generalize (w.drewN nq).setCell ⟨D, 1, none⟩ (.int .i64 ((t : Int) + 1)) = W1 at hrow1 hK1 hz1 ⊢
    have c0 := cell_of_row _ _ 0 _ _ _ hrow1
    have c1 := cell_of_row _ _ 1 _ _ _ hrow1
    have hwr : IntKind.i64.wrap ((t : Int) + 1 - 1) = (t : Int) := by rw [IntKind.wrap_i64]; omega
    have k0 : (t : Int) < (n : Int) := by omega
    have k1 : 0 ≤ (t : Int) := by omega
    have k2 : (t : Int) + 1 - 1 = (t : Int) := by omega
    have hm0 := Int.emod_nonneg z (show m ≠ 0 by omega)
    have hm1 := Int.emod_lt_of_pos z (show 0 < m by omega)
    have hD1 : Dice D (some ad) n c W1 := ⟨⟨t + 1, by rw [hrow1]; rfl, by omega⟩, hcap, hfew, fun i hi => by
      obtain ⟨ad', y, e1, e2, e3, e4⟩ := HI.down i hi
      exact ⟨ad', y, e1, e2, hK1.cell e2 e3, e4⟩⟩
    have HK : PLift _ := PLift.up (show KitW D (some ad) n c w W1 from ⟨hK1, hD1⟩)
    have HM : PLift _ := PLift.up (fun w => Mod_any z m h1 (by omega) z1 z2 w)
    clear hD1 hK1 hrow1
    generalize z % m = y at hm0 hm1 HM
    go_quiet ((go_at_call 5; exact Calls.quiet_of_same ((HM.down _).mono (fun e w' h => ⟨h.1, h.2.symm⟩))))
    go_wp2_with fail
    go_ret
    exact ⟨⟨y, rfl, hm0, hm1⟩, HK.down.later (below_drewN (Below.refl _ _) _)⟩
  · have j0 : decide ((n : Int) ≤ (t : Int)) = true := by simp; omega
    have j1 : (n : Int) ≤ (t : Int) := by omega
    go_wp2_with fail
    go_quiet (fail)
    go_wp2_with fail
    go_ret
    exact ⟨⟨0, rfl, by omega, by omega⟩, (KitW.refl HD.down).later (below_drewN (Below.refl _ _) _)⟩

end Go.Proofs.YtkinlobfdkeamaaGreatDoor

namespace Go.Proofs.YtkinlobfdkeamaaGreatDoor
open Go

theorem shaW_congr {g g' : Nat → Int} (h : ∀ t, t < 16 → g t = g' t) (t : Nat) : shaW g t = shaW g' t := by
  induction t using Nat.strongRecOn with
  | ind t ih =>
    by_cases ht : t < 16
    · rw [shaW_lo g ht, shaW_lo g' ht, h t ht]
    · rw [shaW_hi g ht, shaW_hi g' ht, ih (t - 2) (by omega), ih (t - 7) (by omega), ih (t - 15) (by omega), ih (t - 16) (by omega)]

theorem shaB_congr {k : Nat → Int} {b b' : ByteArray} (h : ∀ i, i < 64 → bAt b i = bAt b' i) (x : S8) : shaB k b x = shaB k b' x := by
  have e : shaW (wordAt b) = shaW (wordAt b') := by
    funext t
    refine shaW_congr ?_ t
    intro t ht
    unfold wordAt
    rw [h (4 * t) (by omega), h (4 * t + 1) (by omega), h (4 * t + 2) (by omega), h (4 * t + 3) (by omega)]
  unfold shaB
  rw [e]

theorem bAt_mk (l : List UInt8) (i : Nat) : bAt ⟨l.toArray⟩ i = ((l.getD i 0).toNat : Int) := rfl

/-- Block i of a list. -/
def blk (l : List UInt8) (i : Nat) : ByteArray := ⟨(l.drop (64 * i)).toArray⟩

theorem bAt_blk (l : List UInt8) (i j : Nat) : bAt (blk l i) j = ((l.getD (64 * i + j) 0).toNat : Int) := by
  unfold blk
  rw [bAt_mk, List.getD_eq_getElem?_getD, List.getElem?_drop, ← List.getD_eq_getElem?_getD]

/-- The state behind i blocks. -/
def shaTo (k : Nat → Int) (l : List UInt8) (x : S8) : Nat → S8
  | 0 => x
  | i + 1 => shaB k (blk l i) (shaTo k l x i)

/-- The state's bytes. -/
def wB (y : Int) : List UInt8 := [UInt8.ofNat (y / 16777216 % 256).toNat, UInt8.ofNat (y / 65536 % 256).toNat, UInt8.ofNat (y / 256 % 256).toNat, UInt8.ofNat (y % 256).toNat]
def digL (y : S8) : List UInt8 := wB y.a ++ wB y.b ++ wB y.c ++ wB y.d ++ wB y.e ++ wB y.f ++ wB y.g ++ wB y.h
def digTo (y : S8) (i : Nat) : List UInt8 := (digL y).take (4 * i)

theorem digTo_succ (y : S8) {i : Nat} (h : i < 8) : digTo y (i + 1) = digTo y i ++ wB (y.at i) := by
  rcases lt8 h with rfl | rfl | rfl | rfl | rfl | rfl | rfl | rfl <;> rfl
theorem digTo_8 (y : S8) : digTo y 8 = digL y := rfl

/-- The four cells of a word. -/
def wC (y : Int) : List Value := [.int .u8 (y / 16777216 % 256), .int .u8 (y / 65536 % 256), .int .u8 (y / 256 % 256), .int .u8 (y % 256)]
/-- The digest's row when i words stand in it. -/
def outA (y : S8) (i : Nat) : Array Value := #[.int .u8 (if 0 < i then y.a / 16777216 % 256 else 0), .int .u8 (if 0 < i then y.a / 65536 % 256 else 0), .int .u8 (if 0 < i then y.a / 256 % 256 else 0), .int .u8 (if 0 < i then y.a % 256 else 0), .int .u8 (if 1 < i then y.b / 16777216 % 256 else 0), .int .u8 (if 1 < i then y.b / 65536 % 256 else 0), .int .u8 (if 1 < i then y.b / 256 % 256 else 0), .int .u8 (if 1 < i then y.b % 256 else 0), .int .u8 (if 2 < i then y.c / 16777216 % 256 else 0), .int .u8 (if 2 < i then y.c / 65536 % 256 else 0), .int .u8 (if 2 < i then y.c / 256 % 256 else 0), .int .u8 (if 2 < i then y.c % 256 else 0), .int .u8 (if 3 < i then y.d / 16777216 % 256 else 0), .int .u8 (if 3 < i then y.d / 65536 % 256 else 0), .int .u8 (if 3 < i then y.d / 256 % 256 else 0), .int .u8 (if 3 < i then y.d % 256 else 0), .int .u8 (if 4 < i then y.e / 16777216 % 256 else 0), .int .u8 (if 4 < i then y.e / 65536 % 256 else 0), .int .u8 (if 4 < i then y.e / 256 % 256 else 0), .int .u8 (if 4 < i then y.e % 256 else 0), .int .u8 (if 5 < i then y.f / 16777216 % 256 else 0), .int .u8 (if 5 < i then y.f / 65536 % 256 else 0), .int .u8 (if 5 < i then y.f / 256 % 256 else 0), .int .u8 (if 5 < i then y.f % 256 else 0), .int .u8 (if 6 < i then y.g / 16777216 % 256 else 0), .int .u8 (if 6 < i then y.g / 65536 % 256 else 0), .int .u8 (if 6 < i then y.g / 256 % 256 else 0), .int .u8 (if 6 < i then y.g % 256 else 0), .int .u8 (if 7 < i then y.h / 16777216 % 256 else 0), .int .u8 (if 7 < i then y.h / 65536 % 256 else 0), .int .u8 (if 7 < i then y.h / 256 % 256 else 0), .int .u8 (if 7 < i then y.h % 256 else 0)]
theorem outA_set (y : S8) {i : Nat} (h : i < 8) :
    (((((outA y i).setIfInBounds (4 * i) (.int .u8 (y.at i / 16777216 % 256))).setIfInBounds (4 * i + 1) (.int .u8 (y.at i / 65536 % 256))).setIfInBounds (4 * i + 2) (.int .u8 (y.at i / 256 % 256))).setIfInBounds (4 * i + 3) (.int .u8 (y.at i % 256))) = outA y (i + 1) := by
  rcases lt8 h with rfl | rfl | rfl | rfl | rfl | rfl | rfl | rfl <;> kernel_rfl
theorem outA_at (y : S8) {i : Nat} (h : i < 8) {j : Nat} (hj : j < 4) : ∃ v, (outA y i)[4 * i + j]? = some (.int .u8 v) := by
  have e : j = 0 ∨ j = 1 ∨ j = 2 ∨ j = 3 := by omega
  rcases lt8 h with rfl | rfl | rfl | rfl | rfl | rfl | rfl | rfl <;> rcases e with rfl | rfl | rfl | rfl <;> exact ⟨_, rfl⟩
theorem byte_int (y : Int) : ((UInt8.ofNat (y % 256).toNat).toNat : Int) = y % 256 := by
  rw [UInt8.toNat_ofNat', Nat.mod_eq_of_lt (by omega)]
  omega
theorem wB_cells (y : Int) : Lib.byteCells (wB y) = wC y := by
  unfold wB wC Lib.byteCells
  simp only [List.map_cons, List.map_nil, byte_int]
theorem digL_cells (y : S8) : Lib.byteCells (digL y) = (outA y 8).toList := by
  unfold digL
  simp only [Lib.byteCells_append, wB_cells]
  rfl
theorem digL_len (y : S8) : (digL y).length = 32 := rfl

def shaIv : S8 := ⟨1779033703, 3144134277, 1013904242, 2773480762, 1359893119, 2600822924, 528734635, 1541459225⟩
def shaK : List Int := [1116352408, 1899447441, 3049323471, 3921009573, 961987163, 1508970993, 2453635748, 2870763221, 3624381080, 310598401, 607225278, 1426881987, 1925078388, 2162078206, 2614888103, 3248222580, 3835390401, 4022224774, 264347078, 604807628, 770255983, 1249150122, 1555081692, 1996064986, 2554220882, 2821834349, 2952996808, 3210313671, 3336571891, 3584528711, 113926993, 338241895, 666307205, 773529912, 1294757372, 1396182291, 1695183700, 1986661051, 2177026350, 2456956037, 2730485921, 2820302411, 3259730800, 3345764771, 3516065817, 3600352804, 4094571909, 275423344, 430227734, 506948616, 659060556, 883997877, 958139571, 1322822218, 1537002063, 1747873779, 1955562222, 2024104815, 2227730452, 2361852424, 2428436474, 2756734187, 3204031479, 3329325298]
def shaKf (t : Nat) : Int := shaK.getD t 0

/-- The padded message. -/
def padL (l : List UInt8) : List UInt8 := restL l l.length
theorem padL_len (l : List UInt8) : (padL l).length = l.length + 9 + zeros l.length := by
  unfold padL restL
  simp only [List.length_append, List.length_replicate, List.length_cons, List.length_nil]
  have : (lenL l.length).length = 8 := rfl
  rw [this]; omega
/-- SHA-256. -/
def shaL (l : List UInt8) : List UInt8 := digL (shaTo shaKf (padL l) shaIv ((padL l).length / 64))

theorem restL_drop (l : List UInt8) (q n : Nat) (h : 64 * q ≤ l.length) : l.take (64 * q) ++ restL (l.drop (64 * q)) n = restL l n := by
  unfold restL
  have : zeros (l.drop (64 * q)).length = zeros l.length := by rw [List.length_drop]; unfold zeros; omega
  rw [this, ← List.append_assoc, ← List.append_assoc, ← List.append_assoc, List.take_append_drop]

theorem restL_len (l : List UInt8) (n : Nat) : (restL l n).length = l.length + 9 + zeros l.length := by
  unfold restL
  simp only [List.length_append, List.length_replicate, List.length_cons, List.length_nil]
  have : (lenL n).length = 8 := rfl
  rw [this]; omega

/-- The blocks of the first part. -/
theorem blk_left (k : Nat → Int) (a b : List UInt8) (x : S8) (i : Nat) (h : 64 * (i + 1) ≤ a.length) : shaB k (blk a i) x = shaB k (blk (a ++ b) i) x := by
  refine shaB_congr (fun j hj => ?_) x
  rw [bAt_blk, bAt_blk, List.getD_eq_getElem?_getD, List.getD_eq_getElem?_getD, List.getElem?_append_left (by omega)]
/-- .. and of the second. -/
theorem blk_right (k : Nat → Int) (a b : List UInt8) (x : S8) (q i : Nat) (h : a.length = 64 * q) : shaB k (blk b i) x = shaB k (blk (a ++ b) (q + i)) x := by
  refine shaB_congr (fun j hj => ?_) x
  rw [bAt_blk, bAt_blk, List.getD_eq_getElem?_getD, List.getD_eq_getElem?_getD, List.getElem?_append_right (by omega)]
  have e : 64 * (q + i) + j - a.length = 64 * i + j := by omega
  rw [e]

end Go.Proofs.YtkinlobfdkeamaaGreatDoor

