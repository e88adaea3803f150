/- strconv.ParseInt and event.ParseHex at texts of digits. -/
import Derived.Test.YtkinlobfdkeamaaGreatDoorParseWalk
import Derived.BigQuiet
import Derived.Deep.QuietTactic
namespace Go.Proofs.YtkinlobfdkeamaaGreatDoor
open Go.RowKit

/-- A text that begins with a digit, and comes to a number below 2^63. -/
structure Digits (t : ByteArray) (n : Nat) : Prop where
  ne : t.size ≠ 0
  small : t.size ≤ 1000
  head : ∀ h : 0 < t.size, isHex (t[0]'h)
  val : hexP 0 t.data.toList = .ok n
  lt : n < 9223372036854775808

theorem puint_ok (t : ByteArray) (n : Nat) (ht : Digits t n) (w : World) :
    Calls Tryz.prog 97 #[.string t, .int .i64 16, .int .i64 64] w fun e w' => e = .returned (.tuple #[.int .u64 n, .nilIface]) ∧ Below w.heap.size w w' :=
  (puint t ht.ne (by have := ht.small; omega) w).mono fun e w' ⟨h1, h2⟩ => ⟨by rw [h1, ht.val]; rfl, h2⟩

theorem wrap_i64_in (a : Int) (h0 : 0 ≤ a) (h1 : a < 9223372036854775808) : IntKind.i64.wrap a = a := by rw [IntKind.wrap_i64]; omega

set_option maxRecDepth 100000 in
theorem ipint (t : ByteArray) (n : Nat) (ht : Digits t n) (w : World) :
    Calls Tryz.prog 67 #[.string t, .int .i64 16, .int .i64 64] w fun e w' => e = .returned (.tuple #[.int .i64 n, .nilIface]) ∧ Below w.heap.size w w' := by
  have hemp : t.toList.isEmpty = false := by
    rw [← decide_eq_emptyBytes]
    exact decide_eq_false (fun h => ht.ne (by rw [h]; rfl))
  have hpos : 0 < t.size := by have := ht.ne; omega
  have hh := ht.head hpos
  have hsm := ht.small
  have hlt := ht.lt
  generalize hc : t[0]'hpos = c at hh
  have h43 : c.toNat ≠ 43 := by unfold isHex at hh; omega
  have h45 : c.toNat ≠ 45 := by unfold isHex at hh; omega
  clear hh
  go_enter Tryz.func67, Tryz.ntmps67
  have hcall := puint_ok t n ht w
  have a0 : 0 ≤ (n : Int) := by omega
  have a1 : (n : Int) < 9223372036854775808 := by omega
  have hw := wrap_i64_in n a0 a1
  clear hlt
  generalize (n : Int) = a at hcall a0 a1 hw ⊢
  have HC := Lib.hid hcall
  clear hcall
  go_wp2_with (go_at_call 97; refine HC.out.mono ?_; rintro e w1 ⟨rfl, hb⟩)
  go_ret2
  exact ⟨rfl, hb⟩

theorem pint (t : ByteArray) (n : Nat) (ht : Digits t n) (w : World) :
    Calls Tryz.prog 26 #[.string t, .int .i64 16, .int .i64 64] w fun e w' => e = .returned (.tuple #[.int .i64 n, .nilIface]) ∧ Below w.heap.size w w' := by
  go_enter Tryz.func26, Tryz.ntmps26
  go_wp2_with (go_at_call 67; refine (ipint t n ht _).mono ?_; rintro e w1 ⟨rfl, hb⟩)
  go_ret2
  exact ⟨rfl, hb⟩

/-- A text that is its number's own, and the number is not too great. -/
theorem ParseHex_yes (t : ByteArray) (n : Nat) (ht : Digits t n) (hs : t = hexS n) (hn : n ≤ 1099511627776) (w : World) (hG : Glob w) :
    Calls Tryz.prog 7 #[.string t] w fun e w' => e = .returned (.tuple #[.int .i64 n, .bool true]) ∧ Below w.heap.size w w' := by
  have hlt := ht.lt
  have HS := Lib.hid hs
  clear hs
  go_enter Tryz.func7, Tryz.ntmps7
  go_wp2_with fail
  refine (pint t n ht _).mono ?_
  rintro e w1 ⟨rfl, hb⟩
  go_wp2_with fail
  refine (Hex_nat n hlt _ (hG.later hb)).mono ?_
  rintro e w2 ⟨rfl, hb2⟩
  rw [← HS.out]
  go_wp2_with fail
  go_ret2
  exact ⟨rfl, hb.trans (hb2.mono hb.size)⟩

/-- The number is too great. -/
theorem ParseHex_great (t : ByteArray) (n : Nat) (ht : Digits t n) (hn : 1099511627776 < n) (w : World) :
    Calls Tryz.prog 7 #[.string t] w fun e w' => e = .returned (.tuple #[.int .i64 0, .bool false]) ∧ Below w.heap.size w w' := by
  have hlt := ht.lt
  go_enter Tryz.func7, Tryz.ntmps7
  go_wp2_with (go_at_call 26; refine (pint t n ht _).mono ?_; rintro e w1 ⟨rfl, hb⟩)
  go_ret2
  exact ⟨rfl, hb⟩

/-- The text is not its number's own. -/
theorem ParseHex_other (t : ByteArray) (n : Nat) (ht : Digits t n) (hs : ((hexS n).toList == t.toList) = false) (hn : n ≤ 1099511627776) (w : World) (hG : Glob w) :
    Calls Tryz.prog 7 #[.string t] w fun e w' => e = .returned (.tuple #[.int .i64 0, .bool false]) ∧ Below w.heap.size w w' := by
  have hlt := ht.lt
  go_enter Tryz.func7, Tryz.ntmps7
  go_wp2_with fail
  refine (pint t n ht _).mono ?_
  rintro e w1 ⟨rfl, hb⟩
  go_wp2_with fail
  refine (Hex_nat n hlt _ (hG.later hb)).mono ?_
  rintro e w2 ⟨rfl, hb2⟩
  go_wp2_with fail
  go_ret2
  exact ⟨rfl, hb.trans (hb2.mono hb.size)⟩

end Go.Proofs.YtkinlobfdkeamaaGreatDoor
