/- Small functions, and the sanity check. -/
import Derived.Test.YtkinlobfdkeamaaGreatDoorParseInt
import Derived.Deep.RegionWith
namespace Go.Proofs.YtkinlobfdkeamaaGreatDoor
open Go.RowKit

theorem inception_3 (w : World) : Calls Tryz.prog 44 #[.int .i64 3] w fun e w' => e = .returned (.bool false) ∧ w = w' := by
  go_enter Tryz.func44, Tryz.ntmps44
  go_wp2
  go_ret
  exact ⟨rfl, rfl⟩
theorem Established_2 (w : World) : Calls Tryz.prog 16 #[.int .i64 2] w fun e w' => e = .returned (.bool true) ∧ w = w' := by
  go_enter Tryz.func16, Tryz.ntmps16
  go_wp2
  go_ret
  exact ⟨rfl, rfl⟩
theorem Established_3 (w : World) : Calls Tryz.prog 16 #[.int .i64 3] w fun e w' => e = .returned (.bool false) ∧ w = w' := by
  go_enter Tryz.func16, Tryz.ntmps16
  go_wp2
  go_ret
  exact ⟨rfl, rfl⟩
theorem Delegated_4 (w : World) : Calls Tryz.prog 18 #[.int .i64 4] w fun e w' => e = .returned (.bool true) ∧ w = w' := by
  go_enter Tryz.func18, Tryz.ntmps18
  go_wp2
  go_ret
  exact ⟨rfl, rfl⟩

theorem begins_zero (w : World) : Calls Tryz.prog 42 #[.agg #[.int .i64 0, .int .i64 0, .string ⟨#[]⟩, .string ⟨#[]⟩, .int .i64 0, .string ⟨#[]⟩, .int .i64 0, .slice none 0 0, .slice none 0 0, .int .i64 0, .slice none 0 0, .slice none 0 0, .int .i64 0, .slice none 0 0, .slice none 0 0, .slice none 0 0, .slice none 0 0, .slice none 0 0, .string ⟨#[]⟩]] w fun e w' => e = .returned (.int .i64 2) ∧ Below w.heap.size w w' := by
  go_enter Tryz.func42, Tryz.ntmps42
  go_wp2
  go_ret
  exact ⟨rfl, (Below.refl _ _).alloc (Nat.le_refl _) _⟩
theorem Valid_zero (w : World) : Calls Tryz.prog 14 #[.agg #[.int .i64 0, .int .i64 0, .string ⟨#[]⟩, .string ⟨#[]⟩, .int .i64 0, .string ⟨#[]⟩, .int .i64 0, .slice none 0 0, .slice none 0 0, .int .i64 0, .slice none 0 0, .slice none 0 0, .int .i64 0, .slice none 0 0, .slice none 0 0, .slice none 0 0, .slice none 0 0, .slice none 0 0, .string ⟨#[]⟩]] w fun e w' => e = .returned (.int .i64 2) ∧ Below w.heap.size w w' := by
  go_enter Tryz.func14, Tryz.ntmps14
  go_wp2_with (first | (go_at_call 42; refine (begins_zero _).mono ?_; rintro e w1 ⟨rfl, hb⟩) | (refine wpList_load_row rfl 35 _ rfl w.heap.size rfl 35 _ _ _ (heap_alloc_new _ _) Tryz.underlying35 rfl (by kernel_rfl) ?_))
  go_ret
  exact ⟨rfl, ((Below.refl _ _).alloc (Nat.le_refl _) _).trans (hb.mono (by simp))⟩

theorem hexS_255 : hexS 255 = ⟨#[102, 102]⟩ := by
  unfold hexS
  rw [hexL_great (by omega), hexL_small (by omega)]
  decide +kernel

theorem Hex_255 (w : World) (hG : Glob w) : Calls Tryz.prog 6 #[.int .i64 255] w fun e w' => e = .returned (.string ⟨#[102, 102]⟩) ∧ Below w.heap.size w w' := by
  have := Hex_nat 255 (by omega) w hG
  rw [hexS_255] at this
  exact this

theorem awake_true (w : World) (hG : Glob w) : Calls Tryz.prog 8 #[] w fun e w' => e = .returned (.bool true) ∧ Below w.heap.size w w' := by
  go_enter Tryz.func8, Tryz.ntmps8
  go_wp2_with fail
  refine (Hex_255 _ hG).mono ?_
  rintro e w1 ⟨rfl, hb⟩
  go_wp2_with (first | (go_at_call_of 16 (Value.int .i64 2); refine (Established_2 _).mono ?_; rintro e w' ⟨rfl, rfl⟩) | (go_at_call 16; refine (Established_3 _).mono ?_; rintro e w' ⟨rfl, rfl⟩) | (go_at_call 18; refine (Delegated_4 _).mono ?_; rintro e w' ⟨rfl, rfl⟩))
  refine (Valid_zero _).mono ?_
  rintro e w2 ⟨rfl, hb2⟩
  go_wp2_with fail
  go_ret
  exact ⟨rfl, hb.trans (hb2.mono hb.size)⟩

end Go.Proofs.YtkinlobfdkeamaaGreatDoor
