/- The walks of strconv.ParseInt at base 16. -/
import Derived.Test.YtkinlobfdkeamaaGreatDoorHexWalk
import Derived.Test.YtkinlobfdkeamaaGreatDoorHexParse
import Derived.Lib.ConvBytes
import Derived.Lib.Strings
namespace Go.Proofs.YtkinlobfdkeamaaGreatDoor
open Go.RowKit

theorem low_up : ∀ c : Nat, c < 256 → 65 ≤ c → c ≤ 90 → c ||| 32 = c + 32 := by decide +kernel
theorem low_lo : ∀ c : Nat, c < 256 → 97 ≤ c → c ≤ 122 → c ||| 32 = c := by decide +kernel
theorem low_no : ∀ c : Nat, c < 256 → ¬ (65 ≤ c ∧ c ≤ 90) → ¬ (97 ≤ c ∧ c ≤ 122) → c ||| 32 < 97 ∨ 122 < c ||| 32 := by decide +kernel
theorem low_u8 (c : Nat) (h : c < 256) : bits BinOp.or IntKind.u8 (c : Int) 32 = ((c ||| 32 : Nat) : Int) := u8_or_nat c 32 h (by omega)

theorem lower_any (c : Int) (w : World) : Calls Tryz.prog 133 #[.int .u8 c] w fun e w' => e = .returned (.int .u8 (bits BinOp.or IntKind.u8 c 32)) ∧ w = w' := by
  go_enter Tryz.func133, Tryz.ntmps133
  go_wp2
  go_ret
  exact ⟨rfl, rfl⟩

def uTuple : PR → Value
  | .ok n => .tuple #[.int .u64 n, .nilIface]
  | .nodig => .tuple #[.int .u64 0, .iface 113 (.int .i64 2)]
  | .range => .tuple #[.int .u64 18446744073709551615, .iface 113 (.int .i64 1)]

theorem or_95_32 : bits BinOp.or IntKind.u8 95 32 = 127 := by decide +kernel
theorem max_u64 : IntKind.u64.wrap (IntKind.u64.wrap 18446744073709551616 - 1) = 18446744073709551615 := by decide +kernel

set_option maxHeartbeats 4000000 in
set_option maxRecDepth 100000 in
theorem puint (t : ByteArray) (hne : t.size ≠ 0) (hmax : t.size ≤ 9223372036854775806) (w : World) :
    Calls Tryz.prog 97 #[.string t, .int .i64 16, .int .i64 64] w fun e w' => e = .returned (uTuple (hexP 0 t.data.toList)) ∧ Below w.heap.size w w' := by
  have hemp : t.toList.isEmpty = false := by
    rw [← decide_eq_emptyBytes]
    exact decide_eq_false (fun h => hne (by rw [h]; rfl))
  have hcv := Lib.run_convert_string_bytes (P := Tryz.prog) w 9 90 5 t Tryz.underlying9 Tryz.underlying90 Tryz.underlying5
  have hB : ∀ j, j < t.size → (Lib.bytesWorld w 5 t).cell? ⟨w.heap.size, j, none⟩ = some (.int .u8 (t.data.toList.getD j 0).toNat) := fun j hj => Lib.bytesWorld_cell w 5 t j hj
  have hlow : Below w.heap.size w (Lib.bytesWorld w 5 t) := ⟨rfl, rfl, rfl, by rw [Lib.bytesWorld_size]; omega, fun j hj => Lib.bytesWorld_at_old w _ t j hj⟩
  obtain ⟨W1, hW1⟩ : ∃ W1, W1 = Lib.bytesWorld w 5 t := ⟨_, rfl⟩
  rw [← hW1] at hcv hB hlow
  clear hW1
  obtain ⟨bs, hL⟩ : ∃ bs, bs = t.data.toList := ⟨_, rfl⟩
  have hLn : bs.length = t.size := by rw [hL, Lib.size_eq]
  rw [← hL] at hB ⊢
  clear hL
  have hmv := max_u64
  go_enter Tryz.func97, Tryz.ntmps97
  go_wp2
  go_loop [12, 13, 101] (fun vu vn vi => ∃ (k acc : Nat) (a : Int), vu = .bool false ∧ vn = .int .u64 a ∧ vi = .int .i64 k ∧ k ≤ t.size ∧ Hid (a = (acc : Int) ∧ acc < 18446744073709551616 ∧ hexP 0 bs = hexP acc (bs.drop k)))
    (fun _ _ vi => t.size - (intOf vi).toNat)
  case atStart => exact ⟨0, 0, 0, rfl, rfl, rfl, by omega, rfl, by omega, rfl⟩
  case round =>
    obtain ⟨k, acc, a, rfl, rfl, rfl, hk, hh⟩ := hrel
    obtain ⟨ha, hacc, hdec⟩ := hh.out
    clear hh
    have a0 : 0 ≤ a := by omega
    have a1 : a < 18446744073709551616 := by omega
    by_cases hkn : k < t.size
    · have hc := hB k hkn
      have hdrop : bs.drop k = bs[k]'(by omega) :: bs.drop (k + 1) := List.drop_eq_getElem_cons (by omega)
      have hget : bs.getD k 0 = bs[k]'(by omega) := by simp [List.getD, List.getElem?_eq_getElem (show k < bs.length by omega)]
      rw [hdrop] at hdec
      rw [hget] at hc
      generalize bs[k]'(by omega) = c at hc hdec
      have hc256 : c.toNat < 256 := c.toNat_lt
      clear hB hdrop hget
      obtain ⟨d, hdig⟩ | hdig : (∃ d, digOf c = some d) ∨ digOf c = none := by cases h : digOf c with
        | none => exact .inr rfl
        | some d => exact .inl ⟨d, rfl⟩
      · have hd16 := digOf_lt hdig
        have hF : hexP acc (c :: bs.drop (k + 1)) = if 1152921504606846976 ≤ acc then .range else hexP (acc * 16 + d) (bs.drop (k + 1)) := by simp [hexP, hdig]
        rw [hF] at hdec
        unfold digOf at hdig
        have hl := low_u8 c.toNat hc256
        have hv : (48 ≤ c.toNat ∧ c.toNat ≤ 57 ∧ d = c.toNat - 48) ∨ ((97 ≤ c.toNat ||| 32 ∧ c.toNat ||| 32 ≤ 102 ∧ d = (c.toNat ||| 32) - 87) ∧ ¬ c.toNat ≤ 57 ∧ c.toNat ≠ 95) := by
          split at hdig
          · injection hdig with hdig; omega
          · split at hdig
            · injection hdig with hdig
              have := low_up c.toNat hc256 (by omega) (by omega)
              omega
            · split at hdig
              · injection hdig with hdig
                have := low_lo c.toNat hc256 (by omega) (by omega)
                omega
              · cases hdig
        clear hdig hF
        generalize hz : c.toNat ||| 32 = z at hl hv
        clear hz
        by_cases hcut : 1152921504606846976 ≤ acc
        · rw [if_pos hcut] at hdec
          have icut : 1152921504606846976 ≤ a := by omega
          clear hcut hacc ha
          rcases hv with ⟨h1, h2, h3⟩ | ⟨⟨h1, h2, h3⟩, h4, h5⟩
          · clear hl h3
            go_wp2
            go_ret2
            exact ⟨rfl, hlow⟩
          · clear h3
            go_wp2_with (go_at_call 133; refine (lower_any _ _).mono ?_; rintro e w' ⟨rfl, rfl⟩)
            all_goals go_ret2
            all_goals first | exact ⟨rfl, hlow⟩ | exact ⟨by rw [hdec]; rfl, hlow⟩
        · rw [if_neg hcut] at hdec
          have icut : a < 1152921504606846976 := by omega
          have HN : Hid (a * 16 + (d : Int) = ((acc * 16 + d : Nat) : Int) ∧ acc * 16 + d < 18446744073709551616 ∧ hexP 0 bs = hexP (acc * 16 + d) (bs.drop (k + 1))) := Lib.hid ⟨by omega, by omega, hdec⟩
          clear hcut hacc ha hdec
          rcases hv with ⟨h1, h2, h3⟩ | ⟨⟨h1, h2, h3⟩, h4, h5⟩
          · clear hl
            have H3 := Lib.hid h3
            clear h3
            go_wp2
            refine ⟨⟨k + 1, acc * 16 + d, a * 16 + (d : Int), rfl, ?_, (by first | rfl | (congr 1; omega)), by omega, HN⟩, by simp [intOf]; omega⟩
            have := H3.out
            congr 1; omega
          · have H3 := Lib.hid h3
            clear h3
            go_wp2_with (go_at_call 133; refine (lower_any _ _).mono ?_; rintro e w' ⟨rfl, rfl⟩)
            refine ⟨⟨k + 1, acc * 16 + d, a * 16 + (d : Int), rfl, ?_, (by first | rfl | (congr 1; omega)), by omega, HN⟩, by simp [intOf]; omega⟩
            have := H3.out
            congr 1; omega
      · have hF : hexP acc (c :: bs.drop (k + 1)) = .nodig := by simp [hexP, hdig]
        rw [hF] at hdec
        clear hF hacc ha
        unfold digOf at hdig
        have hn : ¬ (48 ≤ c.toNat ∧ c.toNat ≤ 57) ∧ (c.toNat ||| 32 < 97 ∨ 102 < c.toNat ||| 32) := by
          split at hdig
          · cases hdig
          · split at hdig
            · cases hdig
            · split at hdig
              · cases hdig
              · refine ⟨by omega, ?_⟩
                by_cases h1 : 65 ≤ c.toNat ∧ c.toNat ≤ 90
                · have := low_up c.toNat hc256 h1.1 h1.2; omega
                · by_cases h2 : 97 ≤ c.toNat ∧ c.toNat ≤ 122
                  · have := low_lo c.toNat hc256 h2.1 h2.2; omega
                  · have := low_no c.toNat hc256 h1 h2; omega
        clear hdig
        have hl := low_u8 c.toNat hc256
        have hz256 : c.toNat ||| 32 < 256 := Nat.or_lt_two_pow (n := 8) hc256 (by omega)
        generalize hz : c.toNat ||| 32 = z at hl hn hz256
        clear hz
        obtain ⟨hn1, hn2⟩ := hn
        by_cases hu : c.toNat = 95
        · have e127 := or_95_32
          obtain rfl : c = 95 := UInt8.toNat_inj.1 hu
          clear hl hn1 hn2 hu hz256
          go_wp2_with (go_at_call 133; refine (lower_any _ _).mono ?_; rintro e w' ⟨rfl, rfl⟩)
          all_goals go_ret2
          all_goals first | exact ⟨rfl, hlow⟩ | exact ⟨by rw [hdec]; rfl, hlow⟩
        · by_cases h7 : 97 ≤ z
          · have h8 : 102 < z := by omega
            by_cases h9 : z ≤ 122
            · go_wp2_with (go_at_call 133; refine (lower_any _ _).mono ?_; rintro e w' ⟨rfl, rfl⟩)
              all_goals go_ret2
              all_goals first | exact ⟨rfl, hlow⟩ | exact ⟨by rw [hdec]; rfl, hlow⟩
            · go_wp2_with (go_at_call 133; refine (lower_any _ _).mono ?_; rintro e w' ⟨rfl, rfl⟩)
              all_goals go_ret2
              all_goals first | exact ⟨rfl, hlow⟩ | exact ⟨by rw [hdec]; rfl, hlow⟩
          · go_wp2_with (go_at_call 133; refine (lower_any _ _).mono ?_; rintro e w' ⟨rfl, rfl⟩)
            all_goals go_ret2
            all_goals first | exact ⟨rfl, hlow⟩ | exact ⟨by rw [hdec]; rfl, hlow⟩
    · have hkk : k = t.size := by omega
      subst hkk
      have hF : hexP acc (bs.drop t.size) = .ok acc := by rw [List.drop_eq_nil_of_le (by omega)]; rfl
      rw [hF] at hdec
      subst ha
      clear hacc hF a0 a1
      go_wp2
      go_ret2
      exact ⟨rfl, hlow⟩
end Go.Proofs.YtkinlobfdkeamaaGreatDoor
