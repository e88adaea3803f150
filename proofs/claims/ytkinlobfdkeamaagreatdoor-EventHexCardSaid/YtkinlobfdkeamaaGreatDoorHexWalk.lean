/- Walks: numbers written in hexadecimal by strconv.FormatInt and event.Hex. No condition of ours. -/
import Derived.Test.YtkinlobfdkeamaaGreatDoorHexPlain
import Derived.Test.YtkinlobfdkeamaaGreatDoorGlob
import Derived.WalkKit
import Derived.WalkSpells
import Derived.WalkLawsBesides
import Derived.Lib.Hide
import Derived.Laws.BitsAllLaws
import Derived.Laws.IdiomStrings
namespace Go.Proofs.YtkinlobfdkeamaaGreatDoor
open Go.RowKit

theorem isPow_16 (w : World) : Calls Tryz.prog 131 #[.int .i64 16] w fun e w' => e = .returned (.bool true) ∧ w' = w := by
  go_enter Tryz.func131, Tryz.ntmps131
  go_wp2
  go_ret
  exact ⟨rfl, rfl⟩

theorem and_neg16 : bits BinOp.and IntKind.u64 16 (IntKind.u64.wrap (-16)) = 16 := by decide +kernel
theorem mul_bruijn : IntKind.u64.wrap (16 * 285870213051353865) = 4573923408821661840 := by decide +kernel

theorem tz64_16 (w : World) (hG : Glob w) :
    Calls Tryz.prog 160 #[.int .u64 16] w fun e w' => e = .returned (.int .i64 4) ∧ w' = w := by
  have h : w.cell? ⟨4, 15, none⟩ = some (.int .u8 4) := hG.br64 15 (by omega)
  have e1 := and_neg16
  have e2 := mul_bruijn
  go_enter Tryz.func160, Tryz.ntmps160
  go_wp2
  go_ret
  exact ⟨rfl, rfl⟩

theorem tz_16 (w : World) (hG : Glob w) :
    Calls Tryz.prog 132 #[.int .u64 16] w fun e w' => e = .returned (.int .i64 4) ∧ w' = w := by
  go_enter Tryz.func132, Tryz.ntmps132
  go_wp2_with (go_at_call 160; refine (tz64_16 _ hG).mono ?_; rintro e w' ⟨rfl, rfl⟩)
  go_ret
  exact ⟨rfl, rfl⟩


/-- The buffer when some digits stand at its end. -/
def hexBuf (l : List UInt8) : Array Value := (List.replicate (65 - l.length) (Value.int .u8 0) ++ l.map fun c => Value.int .u8 (c.toNat : Int)).toArray

theorem hexBuf_nil : hexBuf [] = Tryz.zeroCells140 := by kernel_rfl
theorem hexBuf_at (l : List UInt8) (i : Nat) (h : i + l.length = 65) (h0 : 1 ≤ i) : (hexBuf l)[i - 1]? = some (.int .u8 0) := by
  unfold hexBuf
  rw [List.getElem?_toArray, List.getElem?_append_left (by simp; omega), List.getElem?_replicate, if_pos (by omega)]
theorem hexBuf_set (l : List UInt8) (i : Nat) (h : i + l.length = 65) (h0 : 1 ≤ i) (c : UInt8) : (hexBuf l).setIfInBounds (i - 1) (.int .u8 (c.toNat : Int)) = hexBuf (c :: l) := by
  unfold hexBuf
  obtain ⟨k, rfl⟩ : ∃ k, i = k + 1 := ⟨i - 1, by omega⟩
  have e1 : 65 - l.length = k + 1 := by omega
  have e2 : 65 - (c :: l).length = k := by simp; omega
  rw [e1, e2, List.setIfInBounds_toArray, Nat.add_sub_cancel, List.set_append_left _ _ (by simp), List.replicate_succ']
  simp
theorem digits_at (n : Nat) (hn : n < 16) (hs : n < (⟨#[48, 49, 50, 51, 52, 53, 54, 55, 56, 57, 97, 98, 99, 100, 101, 102, 103, 104, 105, 106, 107, 108, 109, 110, 111, 112, 113, 114, 115, 116, 117, 118, 119, 120, 121, 122]⟩ : ByteArray).size) : (⟨#[48, 49, 50, 51, 52, 53, 54, 55, 56, 57, 97, 98, 99, 100, 101, 102, 103, 104, 105, 106, 107, 108, 109, 110, 111, 112, 113, 114, 115, 116, 117, 118, 119, 120, 121, 122]⟩ : ByteArray)[n]'hs = hexDig n := by
  have h : ∀ n : Fin 16, (#[48, 49, 50, 51, 52, 53, 54, 55, 56, 57, 97, 98, 99, 100, 101, 102, 103, 104, 105, 106, 107, 108, 109, 110, 111, 112, 113, 114, 115, 116, 117, 118, 119, 120, 121, 122] : Array UInt8)[n.val]? = some (hexDig n.val) := by decide +kernel
  exact (Array.getElem?_eq_some_iff.1 (h ⟨n, hn⟩)).2
theorem u64_and15 (v : Nat) (h : v < 18446744073709551616) : bits BinOp.and IntKind.u64 (v : Int) 15 = ((v % 16 : Nat) : Int) := by
  have := u64_and_nat v 15 h (by omega)
  rw [show ((15 : Nat) : Int) = 15 from rfl] at this
  rw [this, Nat.and_two_pow_sub_one_eq_mod v 4]

theorem buf_slice (b i : Nat) (h0 : 1 ≤ i) (h1 : i ≤ 65) (W : World) :
    (Instr.sliceAt 140 (.pointer (some ⟨b, 0, none⟩)) (some (.int .i64 ((i : Int) - 1))) none none).run Tryz.prog W = .ok (.slice (some ⟨b, i - 1, none⟩) (65 - (i - 1)) (65 - (i - 1))) W := by
  have hal : Tryz.prog.arrayLen 140 = 65 := by kernel_rfl
  have hel : Tryz.prog.elem 140 = 5 := by kernel_rfl
  have hsz : (sizeOf 5).run Tryz.prog W = .ok 1 W := by kernel_rfl
  rw [run_sliceAt_array_l W 140 _ (by rw [hal, hel]; exact Tryz.underlying140) .i64 ((i : Int) - 1) (by omega) (by rw [hal]; omega), hel, hsz, hal]
  have e : ((i : Int) - 1).toNat = i - 1 := by omega
  simp only [Result.andThen, slicedAt, e, Nat.mul_one]
  rw [if_neg (by omega)]
  simp [Addr.add]
  omega

theorem buf_string (b i : Nat) (l : List UInt8) (h : i + l.length = 65) (w : World) (hb : b = w.heap.size) :
    (convert 90 9 (.slice (some ⟨b, i, none⟩) (65 - i) (65 - i))).run Tryz.prog (w.alloc (.cells (hexBuf l) 140)) = .ok (.string ⟨l.toArray⟩) (w.alloc (.cells (hexBuf l) 140)) := by
  subst hb
  have e : 65 - i = l.length := by omega
  rw [e]
  refine run_convert_bytes_back (P := Tryz.prog) _ 90 9 5 _ _ l Tryz.underlying90 Tryz.underlying5 Tryz.underlying9 fun j hj => ?_
  have e2 : (⟨w.heap.size, i, none⟩ : Addr).add j = ⟨w.heap.size, i + j, none⟩ := by unfold Addr.add; split <;> simp_all
  rw [e2, World.cell?_alloc_new]
  unfold hexBuf
  rw [List.getElem?_toArray, List.getElem?_append_right (by simp; omega), List.length_replicate, List.getElem?_map, List.getElem?_eq_getElem (by omega)]
  have e3 : i + j - (65 - l.length) = j := by omega
  simp only [Option.map_some, e3]

set_option maxRecDepth 100000 in
theorem fbits (u : Nat) (hu : u < 18446744073709551616) (w : World) (hG : Glob w) :
    Calls Tryz.prog 96 #[.slice none 0 0, .int .u64 u, .int .i64 16, .bool false, .bool false] w fun e w' =>
      e = .returned (.tuple #[.slice none 0 0, .string ⟨(hexL u).toArray⟩]) ∧ w' = w.alloc (.cells (hexBuf (hexL u)) 140) := by
  go_enter Tryz.func96, Tryz.ntmps96
  go_wp2_with (first | (go_at_call 131; refine (isPow_16 _).mono ?_; rintro e w' ⟨rfl, rfl⟩) | (go_at_call 132; refine (tz_16 _ (by exact hG.alloc _)).mono ?_; rintro e w' ⟨rfl, rfl⟩))
  go_loopw [1, 13] (fun vu vi wr => ∃ (v i : Nat) (l : List UInt8), vu = .int .u64 v ∧ vi = .int .i64 i ∧ v < 18446744073709551616 ∧ 49 ≤ i ∧ i ≤ 65 ∧ Hid (i + l.length = 65 ∧ hexL u = hexL v ++ l ∧ v * 16 ^ l.length ≤ u) ∧ wr = w.alloc (.cells (hexBuf l) 140)) (fun vu _ _ => (intOf vu).toNat)
  case atStart => exact ⟨u, 65, [], rfl, rfl, hu, by omega, by omega, ⟨rfl, by simp, by simp⟩, by rw [hexBuf_nil]⟩
  case round =>
    obtain ⟨v, i, l, rfl, rfl, hv, hi0, hi1, HH, rfl⟩ := hrel
    by_cases hlt : 16 ≤ v
    · have e1 : bits BinOp.and IntKind.u64 (v : Int) 15 = ((v % 16 : Nat) : Int) := u64_and15 v hv
      have hcell : (hexBuf l)[i - 1]? = some (.int .u8 0) := hexBuf_at l i HH.out.1 (by omega)
      go_wp2
      obtain ⟨q1, q2, q3⟩ := HH.out
      have hl : l.length < 16 := by
        rcases Nat.lt_or_ge l.length 16 with h | h
        · exact h
        · have := Nat.mul_le_mul hlt (Nat.pow_le_pow_right (show 0 < 16 by omega) h)
          omega
      refine ⟨⟨v / 16, i - 1, hexDig (v % 16) :: l, by go_num, by go_num, by omega, by omega, by omega, ⟨by simp; omega, by rw [q2, hexL_great (by omega)]; simp, ?_⟩, ?_⟩, by simp [intOf]; omega⟩
      · rw [List.length_cons, Nat.pow_succ]
        have : v / 16 * (16 ^ l.length * 16) ≤ v * 16 ^ l.length := by
          rw [Nat.mul_comm (16 ^ l.length) 16, ← Nat.mul_assoc]
          exact Nat.mul_le_mul_right _ (by omega)
        omega
      · rw [digits_at _ (by omega), hexBuf_set l i q1 (by omega)]
    · have hcell : (hexBuf l)[i - 1]? = some (.int .u8 0) := hexBuf_at l i HH.out.1 (by omega)
      have hlt' : v < 16 := by omega
      clear hlt
      have hsl := buf_slice w.heap.size i (by omega) hi1
      have hdig := digits_at v hlt'
      have hset := hexBuf_set l i HH.out.1 (by omega) (hexDig v)
      have hstr := buf_string w.heap.size (i - 1) (hexDig v :: l) (by have := HH.out.1; simp; omega) w rfl
      go_wp2
      go_ret2
      obtain ⟨q1, q2, q3⟩ := HH.out
      rw [hexL_small hlt'] at q2
      exact ⟨by rw [q2]; rfl, by rw [q2]; rfl⟩

/-- A non-negative number's text. -/
def hexS (n : Nat) : ByteArray := ⟨(hexL n).toArray⟩

theorem iformat (n : Nat) (hn : n < 9223372036854775808) (w : World) (hG : Glob w) :
    Calls Tryz.prog 66 #[.int .i64 n, .int .i64 16] w fun e w' => e = .returned (.string (hexS n)) ∧ Below w.heap.size w w' := by
  go_enter Tryz.func66, Tryz.ntmps66
  go_wp2_with (go_at_call 96; refine (fbits n (by omega) _ hG).mono ?_; rintro e w' ⟨rfl, rfl⟩)
  go_ret
  exact ⟨rfl, (Below.refl _ _).alloc (Nat.le_refl _) _⟩

theorem format (n : Nat) (hn : n < 9223372036854775808) (w : World) (hG : Glob w) :
    Calls Tryz.prog 25 #[.int .i64 n, .int .i64 16] w fun e w' => e = .returned (.string (hexS n)) ∧ Below w.heap.size w w' := by
  go_enter Tryz.func25, Tryz.ntmps25
  go_wp2_with (go_at_call 66; refine (iformat n hn _ hG).mono ?_; rintro e w' ⟨rfl, hb⟩)
  go_ret
  exact ⟨rfl, hb⟩

/-- The program's Hex. -/
def hexI (n : Int) : ByteArray := if n < 0 then ⟨#[]⟩ else hexS n.toNat

theorem Hex_neg (n : Int) (hn : n < 0) (w : World) : Calls Tryz.prog 6 #[.int .i64 n] w fun e w' => e = .returned (.string ⟨#[]⟩) ∧ w = w' := by
  go_enter Tryz.func6, Tryz.ntmps6
  go_wp2
  go_ret
  exact ⟨rfl, rfl⟩

theorem Hex_nat (n : Nat) (hn : n < 9223372036854775808) (w : World) (hG : Glob w) :
    Calls Tryz.prog 6 #[.int .i64 n] w fun e w' => e = .returned (.string (hexS n)) ∧ Below w.heap.size w w' := by
  go_enter Tryz.func6, Tryz.ntmps6
  go_wp2_with (go_at_call 25; refine (format n hn _ hG).mono ?_; rintro e w' ⟨rfl, hb⟩)
  go_ret
  exact ⟨rfl, hb⟩

end Go.Proofs.YtkinlobfdkeamaaGreatDoor
