/- Walks: numbers written in hexadecimal by strconv.FormatInt and event.Hex. No condition of ours. The walks of strconv.ParseInt at base 16. strconv.ParseInt and event.ParseHex at texts of digits. -/
import Derived.Test.YtkinlobfdkeamaaGreatDoorV01
import Derived.WalkKit
import Derived.WalkSpells
import Derived.WalkLawsBesides
import Derived.Lib.Hide
import Derived.Laws.BitsAllLaws
import Derived.Laws.IdiomStrings
import Derived.Lib.ConvBytes
import Derived.Lib.Strings
import Derived.BigQuiet
import Derived.Deep.QuietTactic
namespace Go.Proofs.YtkinlobfdkeamaaGreatDoor
open Go.RowKit

theorem isPow_16 (w : World) : Calls Tryz.prog 131 #[.int .i64 16] w fun e w' => e = .returned (.bool true) ∧ w' = w := by
  go_enter Tryz.func131, Tryz.ntmps131
  go_wp2
  go_ret
  exact ⟨rfl, rfl⟩

theorem and_neg16 : bits BinOp.and IntKind.u64 16 (IntKind.u64.wrap (-16)) = 16 := by decide +kernel
theorem mul_bruijn : IntKind.u64.wrap (16 * 285870213051353865) = 4573923408821661840 := by decide +kernel

theorem tz64_16 (w : World) (hG : Glob w) :
    Calls Tryz.prog 160 #[.int .u64 16] w fun e w' => e = .returned (.int .i64 4) ∧ w' = w := by
  have h : w.cell? ⟨4, 15, none⟩ = some (.int .u8 4) := hG.br64 15 (by omega)
  have e1 := and_neg16
  have e2 := mul_bruijn
  go_enter Tryz.func160, Tryz.ntmps160
  go_wp2
  go_ret
  exact ⟨rfl, rfl⟩

theorem tz_16 (w : World) (hG : Glob w) :
    Calls Tryz.prog 132 #[.int .u64 16] w fun e w' => e = .returned (.int .i64 4) ∧ w' = w := by
  go_enter Tryz.func132, Tryz.ntmps132
  go_wp2_with (go_at_call 160; refine (tz64_16 _ hG).mono ?_; rintro e w' ⟨rfl, rfl⟩)
  go_ret
  exact ⟨rfl, rfl⟩


/-- The buffer when some digits stand at its end. -/
def hexBuf (l : List UInt8) : Array Value := (List.replicate (65 - l.length) (Value.int .u8 0) ++ l.map fun c => Value.int .u8 (c.toNat : Int)).toArray

theorem hexBuf_nil : hexBuf [] = Tryz.zeroCells140 := by kernel_rfl
theorem hexBuf_at (l : List UInt8) (i : Nat) (h : i + l.length = 65) (h0 : 1 ≤ i) : (hexBuf l)[i - 1]? = some (.int .u8 0) := by
  unfold hexBuf
  rw [List.getElem?_toArray, List.getElem?_append_left (by simp; omega), List.getElem?_replicate, if_pos (by omega)]
theorem hexBuf_set (l : List UInt8) (i : Nat) (h : i + l.length = 65) (h0 : 1 ≤ i) (c : UInt8) : (hexBuf l).setIfInBounds (i - 1) (.int .u8 (c.toNat : Int)) = hexBuf (c :: l) := by
  unfold hexBuf
  obtain ⟨k, rfl⟩ : ∃ k, i = k + 1 := ⟨i - 1, by omega⟩
  have e1 : 65 - l.length = k + 1 := by omega
  have e2 : 65 - (c :: l).length = k := by simp; omega
  rw [e1, e2, List.setIfInBounds_toArray, Nat.add_sub_cancel, List.set_append_left _ _ (by simp), List.replicate_succ']
  simp
theorem digits_at (n : Nat) (hn : n < 16) (hs : n < (⟨#[48, 49, 50, 51, 52, 53, 54, 55, 56, 57, 97, 98, 99, 100, 101, 102, 103, 104, 105, 106, 107, 108, 109, 110, 111, 112, 113, 114, 115, 116, 117, 118, 119, 120, 121, 122]⟩ : ByteArray).size) : (⟨#[48, 49, 50, 51, 52, 53, 54, 55, 56, 57, 97, 98, 99, 100, 101, 102, 103, 104, 105, 106, 107, 108, 109, 110, 111, 112, 113, 114, 115, 116, 117, 118, 119, 120, 121, 122]⟩ : ByteArray)[n]'hs = hexDig n := by
  have h : ∀ n : Fin 16, (#[48, 49, 50, 51, 52, 53, 54, 55, 56, 57, 97, 98, 99, 100, 101, 102, 103, 104, 105, 106, 107, 108, 109, 110, 111, 112, 113, 114, 115, 116, 117, 118, 119, 120, 121, 122] : Array UInt8)[n.val]? = some (hexDig n.val) := by decide +kernel
  exact (Array.getElem?_eq_some_iff.1 (h ⟨n, hn⟩)).2
theorem u64_and15 (v : Nat) (h : v < 18446744073709551616) : bits BinOp.and IntKind.u64 (v : Int) 15 = ((v % 16 : Nat) : Int) := by
  have := u64_and_nat v 15 h (by omega)
  rw [show ((15 : Nat) : Int) = 15 from rfl] at this
  rw [this, Nat.and_two_pow_sub_one_eq_mod v 4]

theorem buf_slice (b i : Nat) (h0 : 1 ≤ i) (h1 : i ≤ 65) (W : World) :
    (Instr.sliceAt 140 (.pointer (some ⟨b, 0, none⟩)) (some (.int .i64 ((i : Int) - 1))) none none).run Tryz.prog W = .ok (.slice (some ⟨b, i - 1, none⟩) (65 - (i - 1)) (65 - (i - 1))) W := by
  have hal : Tryz.prog.arrayLen 140 = 65 := by kernel_rfl
  have hel : Tryz.prog.elem 140 = 5 := by kernel_rfl
  have hsz : (sizeOf 5).run Tryz.prog W = .ok 1 W := by kernel_rfl
  rw [run_sliceAt_array_l W 140 _ (by rw [hal, hel]; exact Tryz.underlying140) .i64 ((i : Int) - 1) (by omega) (by rw [hal]; omega), hel, hsz, hal]
  have e : ((i : Int) - 1).toNat = i - 1 := by omega
  simp only [Result.andThen, slicedAt, e, Nat.mul_one]
  rw [if_neg (by omega)]
  simp [Addr.add]
  omega

theorem buf_string (b i : Nat) (l : List UInt8) (h : i + l.length = 65) (w : World) (hb : b = w.heap.size) :
    (convert 90 9 (.slice (some ⟨b, i, none⟩) (65 - i) (65 - i))).run Tryz.prog (w.alloc (.cells (hexBuf l) 140)) = .ok (.string ⟨l.toArray⟩) (w.alloc (.cells (hexBuf l) 140)) := by
  subst hb
  have e : 65 - i = l.length := by omega
  rw [e]
  refine run_convert_bytes_back (P := Tryz.prog) _ 90 9 5 _ _ l Tryz.underlying90 Tryz.underlying5 Tryz.underlying9 fun j hj => ?_
  have e2 : (⟨w.heap.size, i, none⟩ : Addr).add j = ⟨w.heap.size, i + j, none⟩ := by unfold Addr.add; split <;> simp_all
  rw [e2, World.cell?_alloc_new]
  unfold hexBuf
  rw [List.getElem?_toArray, List.getElem?_append_right (by simp; omega), List.length_replicate, List.getElem?_map, List.getElem?_eq_getElem (by omega)]
  have e3 : i + j - (65 - l.length) = j := by omega
  simp only [Option.map_some, e3]

set_option maxRecDepth 100000 in
theorem fbits (u : Nat) (hu : u < 18446744073709551616) (w : World) (hG : Glob w) :
    Calls Tryz.prog 96 #[.slice none 0 0, .int .u64 u, .int .i64 16, .bool false, .bool false] w fun e w' =>
      e = .returned (.tuple #[.slice none 0 0, .string ⟨(hexL u).toArray⟩]) ∧ w' = w.alloc (.cells (hexBuf (hexL u)) 140) := by
  go_enter Tryz.func96, Tryz.ntmps96
  go_wp2_with (first | (go_at_call 131; refine (isPow_16 _).mono ?_; rintro e w' ⟨rfl, rfl⟩) | (go_at_call 132; refine (tz_16 _ (by exact hG.alloc _)).mono ?_; rintro e w' ⟨rfl, rfl⟩))
  go_loopw [1, 13] (fun vu vi wr => ∃ (v i : Nat) (l : List UInt8), vu = .int .u64 v ∧ vi = .int .i64 i ∧ v < 18446744073709551616 ∧ 49 ≤ i ∧ i ≤ 65 ∧ Hid (i + l.length = 65 ∧ hexL u = hexL v ++ l ∧ v * 16 ^ l.length ≤ u) ∧ wr = w.alloc (.cells (hexBuf l) 140)) (fun vu _ _ => (intOf vu).toNat)
  case atStart => exact ⟨u, 65, [], rfl, rfl, hu, by omega, by omega, ⟨rfl, by simp, by simp⟩, by rw [hexBuf_nil]⟩
  case round =>
    obtain ⟨v, i, l, rfl, rfl, hv, hi0, hi1, HH, rfl⟩ := hrel
    by_cases hlt : 16 ≤ v
    · have e1 : bits BinOp.and IntKind.u64 (v : Int) 15 = ((v % 16 : Nat) : Int) := u64_and15 v hv
      have hcell : (hexBuf l)[i - 1]? = some (.int .u8 0) := hexBuf_at l i HH.out.1 (by omega)
      go_wp2
      obtain ⟨q1, q2, q3⟩ := HH.out
      have hl : l.length < 16 := by
        rcases Nat.lt_or_ge l.length 16 with h | h
        · exact h
        · have := Nat.mul_le_mul hlt (Nat.pow_le_pow_right (show 0 < 16 by omega) h)
          omega
      refine ⟨⟨v / 16, i - 1, hexDig (v % 16) :: l, by go_num, by go_num, by omega, by omega, by omega, ⟨by simp; omega, by rw [q2, hexL_great (by omega)]; simp, ?_⟩, ?_⟩, by simp [intOf]; omega⟩
      · rw [List.length_cons, Nat.pow_succ]
        have : v / 16 * (16 ^ l.length * 16) ≤ v * 16 ^ l.length := by
          rw [Nat.mul_comm (16 ^ l.length) 16, ← Nat.mul_assoc]
          exact Nat.mul_le_mul_right _ (by omega)
        omega
      · rw [digits_at _ (by omega), hexBuf_set l i q1 (by omega)]
    · have hcell : (hexBuf l)[i - 1]? = some (.int .u8 0) := hexBuf_at l i HH.out.1 (by omega)
      have hlt' : v < 16 := by omega
      clear hlt
      have hsl := buf_slice w.heap.size i (by omega) hi1
      have hdig := digits_at v hlt'
      have hset := hexBuf_set l i HH.out.1 (by omega) (hexDig v)
      have hstr := buf_string w.heap.size (i - 1) (hexDig v :: l) (by have := HH.out.1; simp; omega) w rfl
      go_wp2
      go_ret2
      obtain ⟨q1, q2, q3⟩ := HH.out
      rw [hexL_small hlt'] at q2
      exact ⟨by rw [q2]; rfl, by rw [q2]; rfl⟩

/-- A non-negative number's text. -/
def hexS (n : Nat) : ByteArray := ⟨(hexL n).toArray⟩

theorem iformat (n : Nat) (hn : n < 9223372036854775808) (w : World) (hG : Glob w) :
    Calls Tryz.prog 66 #[.int .i64 n, .int .i64 16] w fun e w' => e = .returned (.string (hexS n)) ∧ Below w.heap.size w w' := by
  go_enter Tryz.func66, Tryz.ntmps66
  go_wp2_with (go_at_call 96; refine (fbits n (by omega) _ hG).mono ?_; rintro e w' ⟨rfl, rfl⟩)
  go_ret
  exact ⟨rfl, (Below.refl _ _).alloc (Nat.le_refl _) _⟩

theorem format (n : Nat) (hn : n < 9223372036854775808) (w : World) (hG : Glob w) :
    Calls Tryz.prog 25 #[.int .i64 n, .int .i64 16] w fun e w' => e = .returned (.string (hexS n)) ∧ Below w.heap.size w w' := by
  go_enter Tryz.func25, Tryz.ntmps25
  go_wp2_with (go_at_call 66; refine (iformat n hn _ hG).mono ?_; rintro e w' ⟨rfl, hb⟩)
  go_ret
  exact ⟨rfl, hb⟩

/-- The program's Hex. -/
def hexI (n : Int) : ByteArray := if n < 0 then ⟨#[]⟩ else hexS n.toNat

theorem Hex_neg (n : Int) (hn : n < 0) (w : World) : Calls Tryz.prog 6 #[.int .i64 n] w fun e w' => e = .returned (.string ⟨#[]⟩) ∧ w = w' := by
  go_enter Tryz.func6, Tryz.ntmps6
  go_wp2
  go_ret
  exact ⟨rfl, rfl⟩

theorem Hex_nat (n : Nat) (hn : n < 9223372036854775808) (w : World) (hG : Glob w) :
    Calls Tryz.prog 6 #[.int .i64 n] w fun e w' => e = .returned (.string (hexS n)) ∧ Below w.heap.size w w' := by
  go_enter Tryz.func6, Tryz.ntmps6
  go_wp2_with (go_at_call 25; refine (format n hn _ hG).mono ?_; rintro e w' ⟨rfl, hb⟩)
  go_ret
  exact ⟨rfl, hb⟩

end Go.Proofs.YtkinlobfdkeamaaGreatDoor

namespace Go.Proofs.YtkinlobfdkeamaaGreatDoor
open Go.RowKit

theorem low_up : ∀ c : Nat, c < 256 → 65 ≤ c → c ≤ 90 → c ||| 32 = c + 32 := by decide +kernel
theorem low_lo : ∀ c : Nat, c < 256 → 97 ≤ c → c ≤ 122 → c ||| 32 = c := by decide +kernel
theorem low_no : ∀ c : Nat, c < 256 → ¬ (65 ≤ c ∧ c ≤ 90) → ¬ (97 ≤ c ∧ c ≤ 122) → c ||| 32 < 97 ∨ 122 < c ||| 32 := by decide +kernel
theorem low_u8 (c : Nat) (h : c < 256) : bits BinOp.or IntKind.u8 (c : Int) 32 = ((c ||| 32 : Nat) : Int) := u8_or_nat c 32 h (by omega)

theorem lower_any (c : Int) (w : World) : Calls Tryz.prog 133 #[.int .u8 c] w fun e w' => e = .returned (.int .u8 (bits BinOp.or IntKind.u8 c 32)) ∧ w = w' := by
  go_enter Tryz.func133, Tryz.ntmps133
  go_wp2
  go_ret
  exact ⟨rfl, rfl⟩

def uTuple : PR → Value
  | .ok n => .tuple #[.int .u64 n, .nilIface]
  | .nodig => .tuple #[.int .u64 0, .iface 113 (.int .i64 2)]
  | .range => .tuple #[.int .u64 18446744073709551615, .iface 113 (.int .i64 1)]

theorem or_95_32 : bits BinOp.or IntKind.u8 95 32 = 127 := by decide +kernel
theorem max_u64 : IntKind.u64.wrap (IntKind.u64.wrap 18446744073709551616 - 1) = 18446744073709551615 := by decide +kernel

set_option maxHeartbeats 4000000 in
set_option maxRecDepth 100000 in
theorem puint (t : ByteArray) (hne : t.size ≠ 0) (hmax : t.size ≤ 9223372036854775806) (w : World) :
    Calls Tryz.prog 97 #[.string t, .int .i64 16, .int .i64 64] w fun e w' => e = .returned (uTuple (hexP 0 t.data.toList)) ∧ Below w.heap.size w w' := by
  have hemp : t.toList.isEmpty = false := by
    rw [← decide_eq_emptyBytes]
    exact decide_eq_false (fun h => hne (by rw [h]; rfl))
  have hcv := Lib.run_convert_string_bytes (P := Tryz.prog) w 9 90 5 t Tryz.underlying9 Tryz.underlying90 Tryz.underlying5
  have hB : ∀ j, j < t.size → (Lib.bytesWorld w 5 t).cell? ⟨w.heap.size, j, none⟩ = some (.int .u8 (t.data.toList.getD j 0).toNat) := fun j hj => Lib.bytesWorld_cell w 5 t j hj
  have hlow : Below w.heap.size w (Lib.bytesWorld w 5 t) := ⟨rfl, rfl, rfl, by rw [Lib.bytesWorld_size]; omega, fun j hj => Lib.bytesWorld_at_old w _ t j hj⟩
  obtain ⟨W1, hW1⟩ : ∃ W1, W1 = Lib.bytesWorld w 5 t := ⟨_, rfl⟩
  rw [← hW1] at hcv hB hlow
  clear hW1
  obtain ⟨bs, hL⟩ : ∃ bs, bs = t.data.toList := ⟨_, rfl⟩
  have hLn : bs.length = t.size := by rw [hL, Lib.size_eq]
  rw [← hL] at hB ⊢
  clear hL
  have hmv := max_u64
  go_enter Tryz.func97, Tryz.ntmps97
  go_wp2
  go_loop [12, 13, 101] (fun vu vn vi => ∃ (k acc : Nat) (a : Int), vu = .bool false ∧ vn = .int .u64 a ∧ vi = .int .i64 k ∧ k ≤ t.size ∧ Hid (a = (acc : Int) ∧ acc < 18446744073709551616 ∧ hexP 0 bs = hexP acc (bs.drop k)))
    (fun _ _ vi => t.size - (intOf vi).toNat)
  case atStart => exact ⟨0, 0, 0, rfl, rfl, rfl, by omega, rfl, by omega, rfl⟩
  case round =>
    obtain ⟨k, acc, a, rfl, rfl, rfl, hk, hh⟩ := hrel
    obtain ⟨ha, hacc, hdec⟩ := hh.out
    clear hh
    have a0 : 0 ≤ a := by omega
    have a1 : a < 18446744073709551616 := by omega
    by_cases hkn : k < t.size
    · have hc := hB k hkn
      have hdrop : bs.drop k = bs[k]'(by omega) :: bs.drop (k + 1) := List.drop_eq_getElem_cons (by omega)
      have hget : bs.getD k 0 = bs[k]'(by omega) := by simp [List.getD, List.getElem?_eq_getElem (show k < bs.length by omega)]
      rw [hdrop] at hdec
      rw [hget] at hc
      generalize bs[k]'(by omega) = c at hc hdec
      have hc256 : c.toNat < 256 := c.toNat_lt
      clear hB hdrop hget
      obtain ⟨d, hdig⟩ | hdig : (∃ d, digOf c = some d) ∨ digOf c = none := by cases h : digOf c with
        | none => exact .inr rfl
        | some d => exact .inl ⟨d, rfl⟩
      · have hd16 := digOf_lt hdig
        have hF : hexP acc (c :: bs.drop (k + 1)) = if 1152921504606846976 ≤ acc then .range else hexP (acc * 16 + d) (bs.drop (k + 1)) := by simp [hexP, hdig]
        rw [hF] at hdec
        unfold digOf at hdig
        have hl := low_u8 c.toNat hc256
        have hv : (48 ≤ c.toNat ∧ c.toNat ≤ 57 ∧ d = c.toNat - 48) ∨ ((97 ≤ c.toNat ||| 32 ∧ c.toNat ||| 32 ≤ 102 ∧ d = (c.toNat ||| 32) - 87) ∧ ¬ c.toNat ≤ 57 ∧ c.toNat ≠ 95) := by
          split at hdig
          · injection hdig with hdig; omega
          · split at hdig
            · injection hdig with hdig
              have := low_up c.toNat hc256 (by omega) (by omega)
              omega
            · split at hdig
              · injection hdig with hdig
                have := low_lo c.toNat hc256 (by omega) (by omega)
                omega
              · cases hdig
        clear hdig hF
        generalize hz : c.toNat ||| 32 = z at hl hv
        clear hz
        by_cases hcut : 1152921504606846976 ≤ acc
        · rw [if_pos hcut] at hdec
          have icut : 1152921504606846976 ≤ a := by omega
          clear hcut hacc ha
          rcases hv with ⟨h1, h2, h3⟩ | ⟨⟨h1, h2, h3⟩, h4, h5⟩
          · clear hl h3
            go_wp2
            go_ret2
            exact ⟨rfl, hlow⟩
          · clear h3
            go_wp2_with (go_at_call 133; refine (lower_any _ _).mono ?_; rintro e w' ⟨rfl, rfl⟩)
            all_goals go_ret2
            all_goals first | exact ⟨rfl, hlow⟩ | exact ⟨by rw [hdec]; rfl, hlow⟩
        · rw [if_neg hcut] at hdec
          have icut : a < 1152921504606846976 := by omega
          have HN : Hid (a * 16 + (d : Int) = ((acc * 16 + d : Nat) : Int) ∧ acc * 16 + d < 18446744073709551616 ∧ hexP 0 bs = hexP (acc * 16 + d) (bs.drop (k + 1))) := Lib.hid ⟨by omega, by omega, hdec⟩
          clear hcut hacc ha hdec
          rcases hv with ⟨h1, h2, h3⟩ | ⟨⟨h1, h2, h3⟩, h4, h5⟩
          · clear hl
            have H3 := Lib.hid h3
            clear h3
            go_wp2
            refine ⟨⟨k + 1, acc * 16 + d, a * 16 + (d : Int), rfl, ?_, (by first | rfl | (congr 1; omega)), by omega, HN⟩, by simp [intOf]; omega⟩
            have := H3.out
            congr 1; omega
          · have H3 := Lib.hid h3
            clear h3
            go_wp2_with (go_at_call 133; refine (lower_any _ _).mono ?_; rintro e w' ⟨rfl, rfl⟩)
            refine ⟨⟨k + 1, acc * 16 + d, a * 16 + (d : Int), rfl, ?_, (by first | rfl | (congr 1; omega)), by omega, HN⟩, by simp [intOf]; omega⟩
            have := H3.out
            congr 1; omega
      · have hF : hexP acc (c :: bs.drop (k + 1)) = .nodig := by simp [hexP, hdig]
        rw [hF] at hdec
        clear hF hacc ha
        unfold digOf at hdig
        have hn : ¬ (48 ≤ c.toNat ∧ c.toNat ≤ 57) ∧ (c.toNat ||| 32 < 97 ∨ 102 < c.toNat ||| 32) := by
          split at hdig
          · cases hdig
          · split at hdig
            · cases hdig
            · split at hdig
              · cases hdig
              · refine ⟨by omega, ?_⟩
                by_cases h1 : 65 ≤ c.toNat ∧ c.toNat ≤ 90
                · have := low_up c.toNat hc256 h1.1 h1.2; omega
                · by_cases h2 : 97 ≤ c.toNat ∧ c.toNat ≤ 122
                  · have := low_lo c.toNat hc256 h2.1 h2.2; omega
                  · have := low_no c.toNat hc256 h1 h2; omega
        clear hdig
        have hl := low_u8 c.toNat hc256
        have hz256 : c.toNat ||| 32 < 256 := Nat.or_lt_two_pow (n := 8) hc256 (by omega)
        generalize hz : c.toNat ||| 32 = z at hl hn hz256
        clear hz
        obtain ⟨hn1, hn2⟩ := hn
        by_cases hu : c.toNat = 95
        · have e127 := or_95_32
          obtain rfl : c = 95 := UInt8.toNat_inj.1 hu
          clear hl hn1 hn2 hu hz256
          go_wp2_with (go_at_call 133; refine (lower_any _ _).mono ?_; rintro e w' ⟨rfl, rfl⟩)
          all_goals go_ret2
          all_goals first | exact ⟨rfl, hlow⟩ | exact ⟨by rw [hdec]; rfl, hlow⟩
        · by_cases h7 : 97 ≤ z
          · have h8 : 102 < z := by omega
            by_cases h9 : z ≤ 122
            · go_wp2_with (go_at_call 133; refine (lower_any _ _).mono ?_; rintro e w' ⟨rfl, rfl⟩)
              all_goals go_ret2
              all_goals first | exact ⟨rfl, hlow⟩ | exact ⟨by rw [hdec]; rfl, hlow⟩
            · go_wp2_with (go_at_call 133; refine (lower_any _ _).mono ?_; rintro e w' ⟨rfl, rfl⟩)
              all_goals go_ret2
              all_goals first | exact ⟨rfl, hlow⟩ | exact ⟨by rw [hdec]; rfl, hlow⟩
          · go_wp2_with (go_at_call 133; refine (lower_any _ _).mono ?_; rintro e w' ⟨rfl, rfl⟩)
            all_goals go_ret2
            all_goals first | exact ⟨rfl, hlow⟩ | exact ⟨by rw [hdec]; rfl, hlow⟩
    · have hkk : k = t.size := by omega
      subst hkk
      have hF : hexP acc (bs.drop t.size) = .ok acc := by rw [List.drop_eq_nil_of_le (by omega)]; rfl
      rw [hF] at hdec
      subst ha
      clear hacc hF a0 a1
      go_wp2
      go_ret2
      exact ⟨rfl, hlow⟩
end Go.Proofs.YtkinlobfdkeamaaGreatDoor

namespace Go.Proofs.YtkinlobfdkeamaaGreatDoor
open Go.RowKit

/-- A text that begins with a digit, and comes to a number below 2^63. -/
structure Digits (t : ByteArray) (n : Nat) : Prop where
  ne : t.size ≠ 0
  small : t.size ≤ 1000
  head : ∀ h : 0 < t.size, isHex (t[0]'h)
  val : hexP 0 t.data.toList = .ok n
  lt : n < 9223372036854775808

theorem puint_ok (t : ByteArray) (n : Nat) (ht : Digits t n) (w : World) :
    Calls Tryz.prog 97 #[.string t, .int .i64 16, .int .i64 64] w fun e w' => e = .returned (.tuple #[.int .u64 n, .nilIface]) ∧ Below w.heap.size w w' :=
  (puint t ht.ne (by have := ht.small; omega) w).mono fun e w' ⟨h1, h2⟩ => ⟨by rw [h1, ht.val]; rfl, h2⟩

theorem wrap_i64_in (a : Int) (h0 : 0 ≤ a) (h1 : a < 9223372036854775808) : IntKind.i64.wrap a = a := by rw [IntKind.wrap_i64]; omega

set_option maxRecDepth 100000 in
theorem ipint (t : ByteArray) (n : Nat) (ht : Digits t n) (w : World) :
    Calls Tryz.prog 67 #[.string t, .int .i64 16, .int .i64 64] w fun e w' => e = .returned (.tuple #[.int .i64 n, .nilIface]) ∧ Below w.heap.size w w' := by
  have hemp : t.toList.isEmpty = false := by
    rw [← decide_eq_emptyBytes]
    exact decide_eq_false (fun h => ht.ne (by rw [h]; rfl))
  have hpos : 0 < t.size := by have := ht.ne; omega
  have hh := ht.head hpos
  have hsm := ht.small
  have hlt := ht.lt
  generalize hc : t[0]'hpos = c at hh
  have h43 : c.toNat ≠ 43 := by unfold isHex at hh; omega
  have h45 : c.toNat ≠ 45 := by unfold isHex at hh; omega
  clear hh
  go_enter Tryz.func67, Tryz.ntmps67
  have hcall := puint_ok t n ht w
  have a0 : 0 ≤ (n : Int) := by omega
  have a1 : (n : Int) < 9223372036854775808 := by omega
  have hw := wrap_i64_in n a0 a1
  clear hlt
  generalize (n : Int) = a at hcall a0 a1 hw ⊢
  have HC := Lib.hid hcall
  clear hcall
  go_wp2_with (go_at_call 97; refine HC.out.mono ?_; rintro e w1 ⟨rfl, hb⟩)
  go_ret2
  exact ⟨rfl, hb⟩

theorem pint (t : ByteArray) (n : Nat) (ht : Digits t n) (w : World) :
    Calls Tryz.prog 26 #[.string t, .int .i64 16, .int .i64 64] w fun e w' => e = .returned (.tuple #[.int .i64 n, .nilIface]) ∧ Below w.heap.size w w' := by
  go_enter Tryz.func26, Tryz.ntmps26
  go_wp2_with (go_at_call 67; refine (ipint t n ht _).mono ?_; rintro e w1 ⟨rfl, hb⟩)
  go_ret2
  exact ⟨rfl, hb⟩

/-- A text that is its number's own, and the number is not too great. -/
theorem ParseHex_yes (t : ByteArray) (n : Nat) (ht : Digits t n) (hs : t = hexS n) (hn : n ≤ 1099511627776) (w : World) (hG : Glob w) :
    Calls Tryz.prog 7 #[.string t] w fun e w' => e = .returned (.tuple #[.int .i64 n, .bool true]) ∧ Below w.heap.size w w' := by
  have hlt := ht.lt
  have HS := Lib.hid hs
  clear hs
  go_enter Tryz.func7, Tryz.ntmps7
  go_wp2_with fail
  refine (pint t n ht _).mono ?_
  rintro e w1 ⟨rfl, hb⟩
  go_wp2_with fail
  refine (Hex_nat n hlt _ (hG.later hb)).mono ?_
  rintro e w2 ⟨rfl, hb2⟩
  rw [← HS.out]
  go_wp2_with fail
  go_ret2
  exact ⟨rfl, hb.trans (hb2.mono hb.size)⟩

/-- The number is too great. -/
theorem ParseHex_great (t : ByteArray) (n : Nat) (ht : Digits t n) (hn : 1099511627776 < n) (w : World) :
    Calls Tryz.prog 7 #[.string t] w fun e w' => e = .returned (.tuple #[.int .i64 0, .bool false]) ∧ Below w.heap.size w w' := by
  have hlt := ht.lt
  go_enter Tryz.func7, Tryz.ntmps7
  go_wp2_with (go_at_call 26; refine (pint t n ht _).mono ?_; rintro e w1 ⟨rfl, hb⟩)
  go_ret2
  exact ⟨rfl, hb⟩

/-- The text is not its number's own. -/
theorem ParseHex_other (t : ByteArray) (n : Nat) (ht : Digits t n) (hs : ((hexS n).toList == t.toList) = false) (hn : n ≤ 1099511627776) (w : World) (hG : Glob w) :
    Calls Tryz.prog 7 #[.string t] w fun e w' => e = .returned (.tuple #[.int .i64 0, .bool false]) ∧ Below w.heap.size w w' := by
  have hlt := ht.lt
  go_enter Tryz.func7, Tryz.ntmps7
  go_wp2_with fail
  refine (pint t n ht _).mono ?_
  rintro e w1 ⟨rfl, hb⟩
  go_wp2_with fail
  refine (Hex_nat n hlt _ (hG.later hb)).mono ?_
  rintro e w2 ⟨rfl, hb2⟩
  go_wp2_with fail
  go_ret2
  exact ⟨rfl, hb.trans (hb2.mono hb.size)⟩

end Go.Proofs.YtkinlobfdkeamaaGreatDoor

