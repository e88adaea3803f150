/- The walk of the law EventHex. -/
import Derived.Test.YtkinlobfdkeamaaGreatDoorAwake
namespace Go.Proofs.YtkinlobfdkeamaaGreatDoor
open Go.RowKit

theorem mod_plain (n m : Int) (h : 1 ≤ m) : (n.tmod m + m).tmod m = n % m := by
  have h1 : -m < n.tmod m := by have := Int.lt_tmod_of_pos n (show 0 < m by omega); omega
  have h2 : n.tmod m < m := Int.tmod_lt_of_pos n (by omega)
  rw [Int.tmod_eq_emod_of_nonneg (by omega), Int.add_emod_right]
  have h3 : n = m * n.tdiv m + n.tmod m := (Int.mul_tdiv_add_tmod n m).symm
  conv => rhs; rw [h3, Int.add_comm, Int.add_mul_emod_self_left]

theorem Mod_any (n m : Int) (h : 1 ≤ m) (hm : m ≤ 4611686018427387904) (_hn0 : -9223372036854775808 ≤ n) (_hn1 : n ≤ 9223372036854775807) (w : World) :
    Calls Tryz.prog 5 #[.int .i64 n, .int .i64 m] w fun e w' => e = .returned (.int .i64 (n % m)) ∧ w = w' := by
  have e1 := mod_plain n m h
  have h1 : -m < n.tmod m := by have := Int.lt_tmod_of_pos n (show 0 < m by omega); omega
  have h2 : n.tmod m < m := Int.tmod_lt_of_pos n (by omega)
  go_enter Tryz.func5, Tryz.ntmps5
  go_wp2
  go_ret
  exact ⟨rfl, rfl⟩

theorem hexS_size (n : Nat) : (hexS n).size = (hexL n).length := by simp [hexS, ByteArray.size]
theorem hexS_toList (n : Nat) : (hexS n).toList = hexL n := by
  rw [ByteArray.toList_eq]
  simp [hexS]

/-- A number's own text. -/
theorem digits_hexS (n : Nat) (hn : n < 1152921504606846976) : Digits (hexS n) n where
  ne := by rw [hexS_size]; have := hexL_pos n; omega
  small := by rw [hexS_size]; have := hexL_len n 15 (by omega); omega
  head := fun h => by
    have hl : 0 < (hexL n).length := by rw [hexS_size] at h; exact h
    exact hexL_isHex n _ (List.getElem_mem hl)
  val := by show hexP 0 (hexL n).toArray.toList = _; exact hexP_hexL n (by omega)
  lt := by omega

/-- The same with a zero ahead. -/
theorem digits_zero (n : Nat) (hn : n < 1152921504606846976) : Digits ⟨(48 :: hexL n).toArray⟩ n where
  ne := by simp [ByteArray.size]
  small := by have := hexL_len n 15 (by omega); simp [ByteArray.size]; omega
  head := fun h => by show isHex 48; unfold isHex; left; decide
  val := by show hexP 0 (48 :: hexL n).toArray.toList = _; exact hexP_zero n (by omega)
  lt := by omega

theorem hexS_eq (x y : Nat) : ((hexS x).toList == (hexS y).toList) = ((x : Int) == (y : Int)) := by
  rw [hexS_toList, hexS_toList, Bool.eq_iff_iff, beq_iff_eq, beq_iff_eq]
  exact ⟨fun h => by rw [hexL_inj h], fun h => by rw [Int.ofNat.inj h]⟩

theorem hexL_mono (x : Nat) : ∀ y, x ≤ y → (hexL x).length ≤ (hexL y).length := by
  induction x using Nat.strongRecOn with
  | ind x ih =>
    intro y h
    by_cases hx : x < 16
    · rw [hexL_small hx]; exact hexL_pos y
    · rw [hexL_great hx, hexL_great (n := y) (by omega), List.length_append, List.length_append]
      have := ih (x / 16) (by omega) (y / 16) (by omega)
      simp; omega

/-- A longer text is a greater number's. -/
theorem hexS_longer {x y : Nat} (h : (hexS y).size < (hexS x).size) : y < x := by
  rw [hexS_size, hexS_size] at h
  rcases Nat.lt_or_ge y x with h1 | h1
  · exact h1
  · have := hexL_mono x y h1
    omega

theorem hexS_head {x : Nat} (h : 1 < (hexS x).size) (h0 : 0 < (hexS x).size) : ((hexS x)[0]'h0).toNat ≠ 48 := by
  have hx : x ≠ 0 := by
    rintro rfl
    rw [hexS_size, hexL_small (by omega)] at h
    simp at h
  obtain ⟨d, r, h1, h2, h3⟩ := hexL_head x hx
  have e : (hexS x)[0]'h0 = hexDig d := by
    have hl : 0 < (hexL x).length := by rw [h3]; simp
    show (hexL x)[0]'hl = _
    simp only [h3, List.getElem_cons_zero]
  rw [e, hexDig_nat d h2]
  split <;> omega

theorem hexLaw (a b : Int) (h0 : -9223372036854775808 ≤ a) (h1 : a ≤ 9223372036854775807) (h2 : -9223372036854775808 ≤ b) (h3 : b ≤ 9223372036854775807) (w : World) (hG : Glob w) :
    Calls Tryz.prog 3 #[.int .i64 a, .int .i64 b] w fun e w' => e = .returned (.bool true) ∧ Below w.heap.size w w' := by
  obtain ⟨x, hx, hx1⟩ : ∃ x : Nat, a % 1099511627777 = (x : Int) ∧ x ≤ 1099511627776 := ⟨(a % 1099511627777).toNat, by omega, by omega⟩
  obtain ⟨y, hy, hy1⟩ : ∃ y : Nat, b % 1099511627777 = (y : Int) ∧ y ≤ 1099511627776 := ⟨(b % 1099511627777).toNat, by omega, by omega⟩
  have ca := Mod_any a 1099511627777 (by omega) (by omega) h0 h1
  have cb := Mod_any b 1099511627777 (by omega) (by omega) h2 h3
  rw [hx] at ca
  rw [hy] at cb
  clear hx hy
  have CA := Lib.hid ca
  have CB := Lib.hid cb
  clear ca cb
  go_enter Tryz.func3, Tryz.ntmps3
  go_wp2_with fail
  refine (CA.out _).mono ?_
  rintro e w' ⟨rfl, rfl⟩
  go_wp2_with fail
  refine (CB.out _).mono ?_
  rintro e w' ⟨rfl, rfl⟩
  go_wp2_with fail
  refine (Hex_nat x (by omega) _ hG).mono ?_
  rintro e w1 ⟨rfl, b1⟩
  have g1 := hG.later b1
  go_wp2_with fail
  refine (Hex_nat y (by omega) _ g1).mono ?_
  rintro e w2 ⟨rfl, b2⟩
  have g2 := g1.later b2
  go_wp2_with fail
  refine (ParseHex_yes _ x (digits_hexS x (by omega)) rfl hx1 _ g2).mono ?_
  rintro e w3 ⟨rfl, b3⟩
  have g3 := g2.later b3
  have q1 := hexS_eq x y
  have q2 : 0 < (hexS x).size := by rw [hexS_size]; exact hexL_pos x
  have q6 : (hexS x).size ≤ 16 := by rw [hexS_size]; exact hexL_len x 15 (by omega)
  have q3 := fun h => hexS_head (x := x) h q2
  have q4 := hexS_longer (x := x) (y := y)
  have c4 : ∀ w, Glob w → Calls Tryz.prog 7 #[.string (⟨#[48]⟩ ++ hexS x)] w fun e w' => e = .returned (.tuple #[.int .i64 0, .bool false]) ∧ Below w.heap.size w w' := fun w hG => by
    have e : (⟨#[48]⟩ ++ hexS x : ByteArray) = ⟨(48 :: hexL x).toArray⟩ := by
      apply ByteArray.ext
      simp [hexS]
    rw [e]
    refine ParseHex_other _ x (digits_zero x (by omega)) ?_ hx1 w hG
    rw [hexS_toList, ByteArray.toList_eq]
    simp only [beq_eq_false_iff_ne, ne_eq]
    intro h
    have := congrArg List.length h
    simp at this
  have C4 := Lib.hid c4
  clear c4
  generalize hexS x = s at q1 q2 q3 q4 q6 C4 ⊢
  generalize hexS y = u at q1 q4 ⊢
  have q5 : 1 < s.size → (((s[0]'q2).toNat : Int) == 48) = false := fun h => by have := q3 h; simp; omega
  clear q3
  have q7 : (1 < s.size ∧ (((s[0]'q2).toNat : Int) == 48) = false) ∨ s.size ≤ 1 := by
    by_cases k1 : 1 < s.size
    · exact .inl ⟨k1, q5 k1⟩
    · exact .inr (by omega)
  have q8 : (u.size < s.size ∧ y < x) ∨ s.size ≤ u.size := by
    by_cases k3 : u.size < s.size
    · exact .inl ⟨k3, q4 k3⟩
    · exact .inr (by omega)
  clear q4 q5
  rcases q7 with ⟨k1, k2⟩ | k1 <;> rcases q8 with ⟨k3, k4⟩ | k3
  all_goals
    go_wp2_with fail
    refine (C4.out _ g3).mono ?_
    rintro e w4 ⟨rfl, b4⟩
    have g4 := g3.later b4
    go_wp2_with fail
    refine (Hex_nat 1099511627777 (by omega) _ g4).mono ?_
    rintro e w5 ⟨rfl, b5⟩
    have g5 := g4.later b5
    go_wp2_with fail
    refine (ParseHex_great _ 1099511627777 (digits_hexS _ (by omega)) (by omega) _).mono ?_
    rintro e w6 ⟨rfl, b6⟩
    have g6 := g5.later b6
    go_wp2_with fail
    refine (Hex_neg (-1) (by omega) _).mono ?_
    rintro e w' ⟨rfl, rfl⟩
    go_wp2_with fail
    refine (awake_true _ g6).mono ?_
    rintro e w7 ⟨rfl, b7⟩
    go_wp2_with fail
    go_ret
    exact ⟨rfl, ((((((b1.trans (b2.mono b1.size)).trans (b3.mono (Nat.le_trans b1.size b2.size))).trans (b4.mono (Nat.le_trans b1.size (Nat.le_trans b2.size b3.size)))).trans (b5.mono (Nat.le_trans b1.size (Nat.le_trans b2.size (Nat.le_trans b3.size b4.size))))).trans (b6.mono (Nat.le_trans b1.size (Nat.le_trans b2.size (Nat.le_trans b3.size (Nat.le_trans b4.size b5.size)))))).trans (b7.mono (Nat.le_trans b1.size (Nat.le_trans b2.size (Nat.le_trans b3.size (Nat.le_trans b4.size (Nat.le_trans b5.size b6.size)))))))⟩

end Go.Proofs.YtkinlobfdkeamaaGreatDoor
