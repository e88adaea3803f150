/- The compression of SHA-256, as the reference has it. The padding of SHA-256: the program's rest and the reference's pad. A []byte that grows byte by byte and may have begun as a converted string. -/
import Derived.Test.YtkinlobfdkeamaaGreatDoorV05
import Derived.Lib.Strings
import Derived.Lib.IndexBytes
import Derived.Test.YtkinlobfdkeamaaGreatDoorV04
import Derived.Test.YtkinlobfdkeamaaGreatDoorShelf
import Derived.Lib.UnsafeStr
import Derived.Lib.Repeat
import Derived.ArgAppend
import Derived.Lib.ConvBytes
import Derived.Lib.BufferRead
import Derived.Lib.SmallJoins
import Derived.Lib.BufferMore
namespace Go.Proofs.YtkinlobfdkeamaaGreatDoor
open Go.RowKit

theorem bAt_extract (s : ByteArray) (a i : Nat) (_h : a + i < s.size) : bAt (s.extract a s.size) i = bAt s (a + i) := by
  unfold bAt
  congr 2
  rw [Lib.extract_data]
  simp only [List.getD_eq_getElem?_getD]
  rw [List.getElem?_take_of_lt (by omega), List.getElem?_drop]

theorem word_any (s : ByteArray) (h : 4 ≤ s.size) (w : World) : Calls Tryz.prog 106 #[.string s] w fun e w' => e = .returned (.int .u32 (be4 (bAt s 0) (bAt s 1) (bAt s 2) (bAt s 3))) ∧ ∃ n, w' = w.drewN n := by
  have b0 := bAt_get s 0 (by omega)
  have b1 := bAt_get s 1 (by omega)
  have b2 := bAt_get s 2 (by omega)
  have b3 := bAt_get s 3 (by omega)
  have f0 : (0 : Int) < s.size := by omega
  have f1 : (1 : Int) < s.size := by omega
  have f2 : (2 : Int) < s.size := by omega
  have f3 : (3 : Int) < s.size := by omega
  go_enter Tryz.func106, Tryz.ntmps106
  go_wp2_with fail
  go_quiet (fail)
  go_wp2_with fail
  go_ret
  refine ⟨?_, nq, rfl⟩
  have m0 := bAt_lt s 0
  have m1 := bAt_lt s 1
  have m2 := bAt_lt s 2
  have m3 := bAt_lt s 3
  have p0 := bAt_pos s 0
  have p1 := bAt_pos s 1
  have p2 := bAt_pos s 2
  have p3 := bAt_pos s 3
  simp only [Array.getD_eq_getD_getElem?, List.getElem?_toArray, List.getElem?_cons_succ, List.getElem?_cons_zero, Option.getD_some]
  unfold be4
  rw [Int.emod_eq_of_lt (a := bAt s 0) (by omega) (by omega), Int.emod_eq_of_lt (a := bAt s 1) (by omega) (by omega), Int.emod_eq_of_lt (a := bAt s 2) (by omega) (by omega), Int.emod_eq_of_lt (a := bAt s 3) (by omega) (by omega),
    Int.emod_eq_of_lt (a := bAt s 0 * 16777216) (by omega) (by omega), Int.emod_eq_of_lt (a := bAt s 1 * 65536) (by omega) (by omega), Int.emod_eq_of_lt (a := bAt s 2 * 256) (by omega) (by omega)]

theorem word_at (s : ByteArray) (t : Nat) (h : 4 * t + 4 ≤ s.size) (w : World) : Calls Tryz.prog 106 #[.string (s.extract (4 * t) s.size)] w fun e w' => e = .returned (.int .u32 (wordAt s t)) ∧ ∃ n, w' = w.drewN n := by
  have := word_any (s.extract (4 * t) s.size) (by rw [ByteArray.size_extract]; omega) w
  rw [bAt_extract s _ 0 (by omega), bAt_extract s _ 1 (by omega), bAt_extract s _ 2 (by omega), bAt_extract s _ 3 (by omega)] at this
  exact this

/-- The blocks of the reference's call. -/
structure RefW (w wq : World) (n : Nat) (X K : Array Value) (g : Nat → Int) (t : Nat) : Prop where
  b0 : wq.heap[n]? = some (.cells X 85 (0, 0))
  b1 : wq.heap[n + 1]? = some (.cells K 87 (0, 0))
  b2 : wq.heap[n + 2]? = some (.cells #[.int .u32 0, .int .u32 0, .int .u32 0, .int .u32 0, .int .u32 0, .int .u32 0, .int .u32 0, .int .u32 0] 85 (0, 0))
  b3 : wq.heap[n + 3]? = some (.cells (schA g t) 87 (0, 0))
  low : Below n w wq
  sz : wq.heap.size = n + 4

theorem RefW.cell {w wr : World} {n : Nat} {X K : Array Value} {g : Nat → Int} {t : Nat} (h : RefW w wr n X K g t) (j : Nat) (hj : j < 64) : wr.cell? ⟨n + 3, j, none⟩ = some (.int .u32 (if j < t then shaW g j else 0)) := by
  rw [cell_of_row wr (n + 3) j _ _ _ h.b3, schA_at g t j hj]
theorem RefW.step {w wr : World} {n : Nat} {X K : Array Value} {g : Nat → Int} {t : Nat} (h : RefW w wr n X K g t) (ht : t < 64) (x : Int) (hx : x = shaW g t) : RefW w (wr.setCell ⟨n + 3, t, none⟩ (.int .u32 x)) n X K g (t + 1) := by
  subst hx
  exact ⟨by rw [Below.heap_setCell _ _ _ _ (by simp)]; exact h.b0, by rw [Below.heap_setCell _ _ _ _ (by simp)]; exact h.b1, by rw [Below.heap_setCell _ _ _ _ (by simp)]; exact h.b2,
    by rw [heap_setCell_same wr (n + 3) t _ _ _ h.b3, schA_set g t ht], h.low.setCell (by simp) _, by rw [size_setCell]; exact h.sz⟩
theorem RefW.drewN {w wr : World} {n : Nat} {X K : Array Value} {g : Nat → Int} {t : Nat} (h : RefW w wr n X K g t) (m : Nat) : RefW w (wr.drewN m) n X K g t := ⟨h.b0, h.b1, h.b2, h.b3, below_drewN h.low m, h.sz⟩
theorem RefW.drew {w wr : World} {n : Nat} {X K : Array Value} {g : Nat → Int} {t : Nat} (h : RefW w wr n X K g t) : RefW w wr.drew n X K g t := ⟨h.b0, h.b1, h.b2, h.b3, h.low.drew, h.sz⟩

theorem refNew (w : World) (X K : Array Value) (g : Nat → Int) : RefW w ((((w.alloc (.cells X 85)).alloc (.cells K 87)).alloc (.cells #[.int .u32 0, .int .u32 0, .int .u32 0, .int .u32 0, .int .u32 0, .int .u32 0, .int .u32 0, .int .u32 0] 85)).alloc (.cells (List.replicate 64 (Value.int .u32 0)).toArray 87)) w.heap.size X K g 0 := by
  refine ⟨?_, ?_, ?_, ?_, ?_, by simp⟩
  · rw [heap_alloc_old _ _ (by simp; omega), heap_alloc_old _ _ (by simp; omega), heap_alloc_old _ _ (by simp)]; exact heap_alloc_new _ _
  · rw [heap_alloc_old _ _ (by simp), heap_alloc_old _ _ (by simp)]; have := heap_alloc_new (w.alloc (.cells X 85)) (.cells K 87); simpa using this
  · rw [heap_alloc_old _ _ (by simp)]
    have := heap_alloc_new ((w.alloc (.cells X 85)).alloc (.cells K 87)) (.cells #[.int .u32 0, .int .u32 0, .int .u32 0, .int .u32 0, .int .u32 0, .int .u32 0, .int .u32 0, .int .u32 0] 85)
    simpa using this
  · have := heap_alloc_new (((w.alloc (.cells X 85)).alloc (.cells K 87)).alloc (.cells #[.int .u32 0, .int .u32 0, .int .u32 0, .int .u32 0, .int .u32 0, .int .u32 0, .int .u32 0, .int .u32 0] 85)) (.cells (schA g 0) 87)
    rw [schA_zero] at this
    rw [schA_zero]
    simpa using this
  · exact (((((Below.refl _ _).alloc (Nat.le_refl _) _).alloc (by simp) _).alloc (by simp; omega) _).alloc (by simp; omega) _)

set_option maxHeartbeats 8000000 in
set_option maxRecDepth 100000 in
theorem sha_block (s : ByteArray) (hs : s.size = 64) (w : World) (x0 x1 x2 x3 x4 x5 x6 x7 : Int) (K : Array Value) (kf : Nat → Int) (hK : ∀ t, t < 64 → K[t]? = some (.int .u32 (kf t))) :
    Calls Tryz.prog 73 #[.agg #[.int .u32 x0, .int .u32 x1, .int .u32 x2, .int .u32 x3, .int .u32 x4, .int .u32 x5, .int .u32 x6, .int .u32 x7], .agg K, .string s] w fun e w' =>
      e = .returned (.agg (shaB kf s ⟨x0, x1, x2, x3, x4, x5, x6, x7⟩).row) ∧ Below w.heap.size w w' := by
  go_enter Tryz.func73, Tryz.ntmps73
  go_wp2_with fail
  have hnew := refNew w #[.int .u32 x0, .int .u32 x1, .int .u32 x2, .int .u32 x3, .int .u32 x4, .int .u32 x5, .int .u32 x6, .int .u32 x7] K (wordAt s)
  rw [show w.heap.size + 1 + 1 = w.heap.size + 2 from rfl, show w.heap.size + 2 + 1 = w.heap.size + 3 from rfl]
  obtain ⟨n, hn⟩ : ∃ n, w.heap.size = n := ⟨_, rfl⟩
  rw [hn] at hnew ⊢
  have HN := Lib.hid hn
  clear hn
  go_loopw [21] (fun vt wq => ∃ t : Nat, t ≤ 16 ∧ vt = .int .i64 t ∧ RefW w wq n #[.int .u32 x0, .int .u32 x1, .int .u32 x2, .int .u32 x3, .int .u32 x4, .int .u32 x5, .int .u32 x6, .int .u32 x7] K (wordAt s) t) (fun vt _ => 16 - (intOf vt).toNat)
  case atStart => exact ⟨0, by omega, rfl, hnew⟩
  case round =>
    clear hnew
    obtain ⟨t, ht, rfl, hR⟩ := hrel
    by_cases hlt : t < 16
    · have f0 : (4 * (t : Int)) ≤ (s.size : Int) := by omega
      have hc := hR.cell t (by omega)
      rw [if_neg (by omega)] at hc
      have hf : wr.frozen? ⟨n + 3, t, none⟩ = false := frozen_of_row hR.b3
      have HS := Lib.hid hs
      clear hs
      go_wp2_with fail
      refine (word_at s t (by have := HS.out; omega) _).mono ?_
      rintro e w' ⟨rfl, m, rfl⟩
      have hc' : (wr.drewN m).cell? ⟨n + 3, t, none⟩ = _ := hc
      have hf' : (wr.drewN m).frozen? ⟨n + 3, t, none⟩ = _ := hf
      go_wp2_with fail
      refine ⟨⟨t + 1, by omega, by go_num, ?_⟩, by simp [intOf]; omega⟩
      exact (hR.drewN m).step (by omega) _ (shaW_lo _ hlt).symm
    · have ht16 : t = 16 := by omega
      subst ht16
      clear hlt hs
      rw [show ((16 : Nat) : Int) = 16 from rfl]
      go_wp2_with fail
      go_loopw [9] (fun vt wq => ∃ t : Nat, 16 ≤ t ∧ t ≤ 64 ∧ vt = .int .i64 t ∧ RefW w wq n #[.int .u32 x0, .int .u32 x1, .int .u32 x2, .int .u32 x3, .int .u32 x4, .int .u32 x5, .int .u32 x6, .int .u32 x7] K (wordAt s) t) (fun vt _ => 64 - (intOf vt).toNat)
      case atStart => exact ⟨16, by omega, by omega, rfl, hR⟩
      case round =>
        clear hR
        obtain ⟨t, ht0, ht, rfl, hQ⟩ := hrel
        by_cases hlt : t < 64
        · have c15 := hQ.cell (t - 15) (by omega)
          have c2 := hQ.cell (t - 2) (by omega)
          have c7 := hQ.cell (t - 7) (by omega)
          have c16 := hQ.cell (t - 16) (by omega)
          rw [if_pos (by omega)] at c15 c2 c7 c16
          have hc := hQ.cell t (by omega)
          rw [if_neg (by omega)] at hc
          have hf : wr.frozen? ⟨n + 3, t, none⟩ = false := frozen_of_row hQ.b3
          have w15 : IntKind.i64.wrap ((t : Int) - 15) = (t : Int) - 15 := IntWalk.i64_in _ (by omega)
          have w2 : IntKind.i64.wrap ((t : Int) - 2) = (t : Int) - 2 := IntWalk.i64_in _ (by omega)
          have w7 : IntKind.i64.wrap ((t : Int) - 7) = (t : Int) - 7 := IntWalk.i64_in _ (by omega)
          have w16 : IntKind.i64.wrap ((t : Int) - 16) = (t : Int) - 16 := IntWalk.i64_in _ (by omega)
          have n15 : ((t : Int) - 15).toNat = t - 15 := by omega
          have n2 : ((t : Int) - 2).toNat = t - 2 := by omega
          have n7 : ((t : Int) - 7).toNat = t - 7 := by omega
          have n16 : ((t : Int) - 16).toNat = t - 16 := by omega
          have p15 : 0 ≤ (t : Int) - 15 := by omega
          have p2 : 0 ≤ (t : Int) - 2 := by omega
          have p7 : 0 ≤ (t : Int) - 7 := by omega
          have p16 : 0 ≤ (t : Int) - 16 := by omega
          have l15 : (t : Int) - 15 < 64 := by omega
          have l2 : (t : Int) - 2 < 64 := by omega
          have l7 : (t : Int) - 7 < 64 := by omega
          have l16 : (t : Int) - 16 < 64 := by omega
          go_wp2_with fail
          go_quiet (fail)
          clear w15 w2 n15 n2 p15 p2 l15 l2 c15 c2
          have hQ' := hQ.drewN nq
          have c7' : (wr.drewN nq).cell? ⟨n + 3, t - 7, none⟩ = _ := c7
          have c16' : (wr.drewN nq).cell? ⟨n + 3, t - 16, none⟩ = _ := c16
          have hc' : (wr.drewN nq).cell? ⟨n + 3, t, none⟩ = _ := hc
          have hf' : (wr.drewN nq).frozen? ⟨n + 3, t, none⟩ = _ := hf
          clear c7 c16 hc hf
          generalize wr.drewN nq = w2 at hQ' c7' c16' hc' hf' ⊢
          go_wp2_with (go_at_call 107; refine (rref _ _ (by omega) (by omega) _).mono ?_; rintro e w' ⟨rfl, rfl⟩)
          have k7 : (⟨w2.heap, w2.tape, w2.drawn + 1, w2.os, w2.output⟩ : World).cell? ⟨n + 3, t - 7, none⟩ = _ := c7'
          have k16 : (⟨w2.heap, w2.tape, w2.drawn + 1, w2.os, w2.output⟩ : World).cell? ⟨n + 3, t - 16, none⟩ = _ := c16'
          have i7 : (7 : Int) ≤ t := by omega
          have i16 : (16 : Int) ≤ t := by omega
          have j7 : (t : Int) < 71 := by omega
          have j16 : (t : Int) < 80 := by omega
          have j0 : (t : Int) < 64 := by omega
          go_still_tail 14, (by kernel_rfl)
          change wpList _ _ _ _ _ w2.drew
          go_wp2_with fail
          refine ⟨⟨t + 1, by omega, by omega, by go_num, ?_⟩, by simp [intOf]; omega⟩
          refine (hQ'.step hlt _ ?_).drew
          exact (shaW_hi (wordAt s) (show ¬ t < 16 by omega)).symm
        · have ht64 : t = 64 := by omega
          subst ht64
          clear hlt
          rw [show ((64 : Nat) : Int) = 64 from rfl]
          obtain ⟨q0, q1, q2, q3, hlow, hsz⟩ := hQ
          go_wp2_with (refine wpList_load_row rfl 85 _ rfl n rfl 85 _ _ _ q0 Tryz.underlying85 rfl (by kernel_rfl) ?_)
          obtain ⟨wo, rfl⟩ : ∃ wo : World, wo = wr := ⟨_, rfl⟩
          go_loopw [76] (fun vt wq => ∃ (t : Nat) (z : S8), t ≤ 64 ∧ vt = .int .i64 t ∧ Hid (z = shaR rnd kf (shaW (wordAt s)) ⟨x0, x1, x2, x3, x4, x5, x6, x7⟩ t) ∧ wq.heap[n + 4]? = some (.cells z.row 85 (0, 0)) ∧ Below (n + 4) wo wq ∧ wq.heap.size = n + 5) (fun vt _ => 64 - (intOf vt).toNat)
          case atStart => exact ⟨0, ⟨x0, x1, x2, x3, x4, x5, x6, x7⟩, by omega, rfl, rfl, by rw [← hsz]; exact heap_alloc_new _ _, (Below.refl _ _).alloc (by omega) _, by simp; omega⟩
          case round =>
            obtain ⟨t, z, ht, rfl, hS, hv, hB, hZ⟩ := hrel
            obtain ⟨y0, y1, y2, y3, y4, y5, y6, y7⟩ := z
            simp only [S8.row] at hv
            by_cases hlt : t < 64
            · have hkt := hK t hlt
              have v0 : wr.cell? ⟨n + 4, 0, none⟩ = some (.int .u32 y0) := cell_of_row wr (n + 4) 0 _ _ _ hv
              have v1 : wr.cell? ⟨n + 4, 1, none⟩ = some (.int .u32 y1) := cell_of_row wr (n + 4) 1 _ _ _ hv
              have v2 : wr.cell? ⟨n + 4, 2, none⟩ = some (.int .u32 y2) := cell_of_row wr (n + 4) 2 _ _ _ hv
              have v3 : wr.cell? ⟨n + 4, 3, none⟩ = some (.int .u32 y3) := cell_of_row wr (n + 4) 3 _ _ _ hv
              have v4 : wr.cell? ⟨n + 4, 4, none⟩ = some (.int .u32 y4) := cell_of_row wr (n + 4) 4 _ _ _ hv
              have v5 : wr.cell? ⟨n + 4, 5, none⟩ = some (.int .u32 y5) := cell_of_row wr (n + 4) 5 _ _ _ hv
              have v6 : wr.cell? ⟨n + 4, 6, none⟩ = some (.int .u32 y6) := cell_of_row wr (n + 4) 6 _ _ _ hv
              have v7 : wr.cell? ⟨n + 4, 7, none⟩ = some (.int .u32 y7) := cell_of_row wr (n + 4) 7 _ _ _ hv
              have hfr : ∀ j, wr.frozen? ⟨n + 4, j, none⟩ = false := fun j => frozen_of_row hv
              have HV := Lib.hid hv
              have kc : wr.cell? ⟨n + 1, t, none⟩ = some (.int .u32 (kf t)) := by
                rw [cell_of_row wr (n + 1) t _ _ _ ((hB.block (n + 1) (by omega)).trans q1), hkt]
              have wc : wr.cell? ⟨n + 3, t, none⟩ = some (.int .u32 (shaW (wordAt s) t)) := by
                rw [cell_of_row wr (n + 3) t _ _ _ ((hB.block (n + 3) (by omega)).trans q3), schA_at _ _ t hlt, if_pos hlt]
              clear q0 q1 q2 q3 hlow hkt hv hsz
              have j0 : (t : Int) < 64 := by omega
              go_wp2_with fail
              go_quiet (fail)
              go_wp2_with fail
              go_quiet ((go_at_call 107; exact quietLeft (rref _ _ (by omega) (by omega) _)))
              go_wp2_with fail
              go_quiet ((go_at_call 107; exact quietLeft (rref _ _ (by omega) (by omega) _)))
              go_wp2_with fail
              refine ⟨⟨t + 1, rnd (kf t) (shaW (wordAt s) t) ⟨y0, y1, y2, y3, y4, y5, y6, y7⟩, by omega, by go_num, ?_, set8 (by exact HV.out), ?_, ?_⟩, by simp [intOf]; omega⟩
              · show _ = shaR rnd kf (shaW (wordAt s)) _ (t + 1)
                rw [shaR, ← hS.out]
              · exact (((((((((below_drewN hB _).setCell (by simp) _).setCell (by simp) _).setCell (by simp) _).setCell (by simp) _).setCell (by simp) _).setCell (by simp) _).setCell (by simp) _).setCell (by simp) _)
              · simp only [size_setCell]; exact hZ
            · have ht64 : t = 64 := by omega
              subst ht64
              clear hlt
              rw [show ((64 : Nat) : Int) = 64 from rfl]
              go_wp2_with fail
              obtain ⟨wo2, rfl⟩ : ∃ wo2 : World, wo2 = wr := ⟨_, rfl⟩
              go_loopw [156] (fun vi wq => ∃ i : Nat, i ≤ 8 ∧ vi = .int .i64 i ∧ wq.heap[n + 4]? = some (.cells (addA ⟨y0, y1, y2, y3, y4, y5, y6, y7⟩ ⟨x0, x1, x2, x3, x4, x5, x6, x7⟩ i) 85 (0, 0)) ∧ wo2.grownBy wq (some (n + 4))) (fun vi _ => 8 - (intOf vi).toNat)
              case atStart => exact ⟨0, by omega, rfl, hv, ⟨rfl, rfl, rfl, Nat.le_refl _, fun _ _ _ => rfl⟩⟩
              case round =>
                obtain ⟨i, hi, rfl, hA, hg⟩ := hrel
                have hX : wr.heap[n]? = _ := (hg.block n (by omega) (by simp)).trans ((hB.block n (by omega)).trans q0)
                by_cases hlt : i < 8
                · have hc := (cell_of_row wr (n + 4) i _ _ _ hA).trans (addA_at _ _ hlt)
                  have hx := (cell_of_row wr n i _ _ _ hX).trans (row_at ⟨x0, x1, x2, x3, x4, x5, x6, x7⟩ hlt)
                  have hf : wr.frozen? ⟨n + 4, i, none⟩ = false := frozen_of_row hA
                  have k0 : (⟨wr.heap, wr.tape, wr.drawn + 1, wr.os, wr.output⟩ : World).cell? ⟨n + 4, i, none⟩ = _ := hc
                  have k1 : (⟨wr.heap, wr.tape, wr.drawn + 1, wr.os, wr.output⟩ : World).cell? ⟨n, i, none⟩ = _ := hx
                  have j0 : (i : Int) < 8 := by omega
                  have HA := Lib.hid hA
                  clear hA hv hS q0 q1 q2 q3 hsz hZ hX
                  go_wp2_with fail
                  go_still_tail 7, (by kernel_rfl)
                  change wpList _ _ _ _ _ wr.drew
                  go_wp2_with fail
                  refine ⟨⟨i + 1, by omega, by go_num, ?_, ?_⟩, by simp [intOf]; omega⟩
                  · show (wr.setCell _ _).heap[n + 4]? = _
                    rw [heap_setCell_same wr (n + 4) i _ _ _ HA.out, addA_set _ _ hlt]
                  · exact grown_drew (grown_setCell hg _ _)
                · have hi8 : i = 8 := by omega
                  subst hi8
                  rw [addA_8] at hA
                  have hR : wr.heap[n + 2]? = _ := (hg.block (n + 2) (by omega) (by simp)).trans ((hB.block (n + 2) (by omega)).trans q2)
                  have hfr : ∀ j, wr.frozen? ⟨n + 2, j, none⟩ = false := fun j => frozen_of_row hR
                  have r0 : wr.cell? ⟨n + 2, 0, none⟩ = some (.int .u32 0) := cell_of_row wr (n + 2) 0 _ _ _ hR
                  have r1 : wr.cell? ⟨n + 2, 1, none⟩ = some (.int .u32 0) := cell_of_row wr (n + 2) 1 _ _ _ hR
                  have r2 : wr.cell? ⟨n + 2, 2, none⟩ = some (.int .u32 0) := cell_of_row wr (n + 2) 2 _ _ _ hR
                  have r3 : wr.cell? ⟨n + 2, 3, none⟩ = some (.int .u32 0) := cell_of_row wr (n + 2) 3 _ _ _ hR
                  have r4 : wr.cell? ⟨n + 2, 4, none⟩ = some (.int .u32 0) := cell_of_row wr (n + 2) 4 _ _ _ hR
                  have r5 : wr.cell? ⟨n + 2, 5, none⟩ = some (.int .u32 0) := cell_of_row wr (n + 2) 5 _ _ _ hR
                  have r6 : wr.cell? ⟨n + 2, 6, none⟩ = some (.int .u32 0) := cell_of_row wr (n + 2) 6 _ _ _ hR
                  have r7 : wr.cell? ⟨n + 2, 7, none⟩ = some (.int .u32 0) := cell_of_row wr (n + 2) 7 _ _ _ hR
                  have HR := Lib.hid hR
                  clear hR
                  clear hlt hX hv q0 q1 q2 q3 hsz
                  obtain ⟨V, hV⟩ : ∃ V, V = S8.plus ⟨y0, y1, y2, y3, y4, y5, y6, y7⟩ ⟨x0, x1, x2, x3, x4, x5, x6, x7⟩ := ⟨_, rfl⟩
                  rw [← hV] at hA
                  have HV := Lib.hid hV
                  clear hV
                  simp only [S8.row] at hA
                  go_wp2_with (refine wpList_load_row rfl 85 _ rfl (n + 4) rfl 85 _ _ _ hA Tryz.underlying85 rfl (by kernel_rfl) ?_)
                  have hfin := set8 (n0 := .int .u32 V.a) (n1 := .int .u32 V.b) (n2 := .int .u32 V.c) (n3 := .int .u32 V.d) (n4 := .int .u32 V.e) (n5 := .int .u32 V.f) (n6 := .int .u32 V.g) (n7 := .int .u32 V.h) HR.out
                  refine bodyPost_ret (results_cell_row rfl _ _ (n + 2) _ _ _ _ rfl hfin Tryz.underlying85 rfl (by kernel_rfl)) rfl ⟨?_, ?_⟩
                  · show _ = Ending.returned (.agg (shaB kf s _).row)
                    unfold shaB
                    rw [S8.plus_comm, ← hS.out, ← HV.out]
                    rfl
                  · have hb1 : Below n w wr := hlow.trans (((hB.mono (by omega)).trans ⟨hg.os, hg.tape, hg.output, hg.size, fun k hk => hg.block k (by omega) (by simp; omega)⟩))
                    rw [HN.out]
                    exact (((((((hb1.setCell (by simp) _).setCell (by simp) _).setCell (by simp) _).setCell (by simp) _).setCell (by simp) _).setCell (by simp) _).setCell (by simp) _).setCell (by simp) _

end Go.Proofs.YtkinlobfdkeamaaGreatDoor

namespace Go.Proofs.YtkinlobfdkeamaaGreatDoor
open Go.RowKit

/-- The last bytes of a padded string that has a length. -/
def lenB (n : Nat) (i : Nat) : UInt8 := UInt8.ofNat (8 * n / 2 ^ (8 * i) % 256)
def lenL (n : Nat) : List UInt8 := [lenB n 7, lenB n 6, lenB n 5, lenB n 4, lenB n 3, lenB n 2, lenB n 1, lenB n 0]
def zeros (m : Nat) : Nat := (119 - m % 64) % 64
def restL (l : List UInt8) (n : Nat) : List UInt8 := l ++ [128] ++ List.replicate (zeros l.length) 0 ++ lenL n

/-- The first k of the eight bytes. -/
def lenTo (n : Nat) (k : Nat) : List UInt8 := (lenL n).take k

theorem lenTo_succ (n k : Nat) (h : k < 8) : lenTo n (k + 1) = lenTo n k ++ [lenB n (7 - k)] := by
  unfold lenTo lenL
  rcases lt8 h with rfl | rfl | rfl | rfl | rfl | rfl | rfl | rfl <;> rfl

theorem padCells (s : ByteArray) : [] ++ Lib.strCells s ++ [Value.int .u8 128] ++ Lib.strCells ⟨(Lib.repeatL ([0] : List UInt8) (zeros s.size)).toArray⟩ = Lib.byteCells (s.data.toList ++ [128] ++ List.replicate (zeros s.size) 0) := by
  have h : ∀ c, Lib.repeatL ([0] : List UInt8) c = List.replicate c 0 := by
    intro c
    induction c with
    | zero => rfl
    | succ c ih => rw [Lib.repeatL, ih]; rfl
  rw [Lib.byteCells_append, Lib.byteCells_append, List.nil_append, Lib.strCells_eq, Lib.strCells_eq, h]
  rfl
theorem padCells_len (s : ByteArray) (hs : s.size ≤ 1000000000000) : ([] ++ Lib.strCells s ++ [Value.int .u8 128]).length + (⟨(Lib.repeatL ([0] : List UInt8) (zeros s.size)).toArray⟩ : ByteArray).size ≤ 140737488355328 := by
  have h1 : (⟨(Lib.repeatL ([0] : List UInt8) (zeros s.size)).toArray⟩ : ByteArray).size = zeros s.size := by
    show (Lib.repeatL ([0] : List UInt8) (zeros s.size)).length = _
    rw [Lib.repeatL_length]; simp
  have h2 : zeros s.size < 64 := by unfold zeros; omega
  rw [h1, List.nil_append, List.length_append, Lib.strCells_length]
  simp only [List.length_cons, List.length_nil]
  omega

theorem lenB_cell (n k : Nat) : Lib.byteCells [lenB n (7 - k)] = [Value.int .u8 ((n : Int) * 8 / 2 ^ (8 * (7 - k)) % 256)] := by
  have e : (UInt8.ofNat (8 * n / 2 ^ (8 * (7 - k)) % 256)).toNat = 8 * n / 2 ^ (8 * (7 - k)) % 256 := by
    rw [UInt8.toNat_ofNat']
    exact Nat.mod_mod _ _
  show [Value.int .u8 ((UInt8.ofNat (8 * n / 2 ^ (8 * (7 - k)) % 256)).toNat : Int)] = _
  rw [e, Nat.mul_comm 8 n]
  simp only [Int.natCast_emod, Int.natCast_ediv, Int.natCast_mul, Int.natCast_pow]
  rfl

theorem lenB_int (n k : Nat) : ((lenB n (7 - k)).toNat : Int) = (n : Int) * 8 / 2 ^ (8 * (7 - k)) % 256 := by
  have h := lenB_cell n k
  unfold Lib.byteCells at h
  simp only [List.map_cons, List.map_nil, List.cons.injEq, Value.int.injEq, true_and, and_true] at h
  exact h

set_option maxRecDepth 100000 in
theorem rest_any (s : ByteArray) (n : Nat) (hs : s.size ≤ 1000000000000) (hn : n ≤ 140737488355328) (w : World) :
    Calls Tryz.prog 168 #[.string s, .int .i64 n] w fun e w' => e = .returned (.string ⟨(restL s.data.toList n).toArray⟩) ∧ Below w.heap.size w w' := by
  have hz : (119 - (s.size : Int) % 64) % 64 = (zeros s.size : Int) := by unfold zeros; omega
  have hz1 : zeros s.size < 64 := by unfold zeros; omega
  have hbu := Lib.fresh_isBuilder 186 5 w
  go_enter Tryz.func168, Tryz.ntmps168
  go_wp2_with fail
  refine (writeString w.heap.size w.heap.size [] s _ hbu (by rw [List.length_nil]; omega) (by rw [size_alloc]; omega)).mono ?_
  rintro e w1 ⟨rfl, h1, b1⟩
  have z1 := b1.size
  rw [size_alloc] at z1
  go_wp2_with fail
  refine (writeByte w.heap.size w.heap.size _ 128 _ (.inr h1) (by rw [List.nil_append, Lib.strCells_length]; omega) (by omega)).mono ?_
  rintro e w2 ⟨rfl, h2, b2⟩
  have z2 := b2.size
  go_wp2_with fail
  refine (Tryz.strings_Repeat ⟨#[0]⟩ (zeros s.size) _ (by omega) (by rw [show (⟨#[0]⟩ : ByteArray).size = 1 from rfl]; omega)).mono ?_
  rintro e w3 ⟨rfl, b3⟩
  have h3 := builderLater h2 b3
  have z3 := b3.size
  go_wp2_with fail
  have hl := padCells s
  have hlen := padCells_len s (by omega)
  refine (writeString w.heap.size w.heap.size _ _ _ (.inr h3) hlen (by omega)).mono ?_
  rintro e w4 ⟨rfl, h4, b4⟩
  rw [hl] at h4
  have z4 := b4.size
  have hsz : w.heap.size ≤ w4.heap.size := by omega
  have hall : Below w.heap.size w w4 := ((((ext_alloc w _).trans b1).trans b2).trans (b3.mono (by omega))).trans b4
  clear b1 b2 b3 b4 h1 h2 h3 hbu z1 z2 z3 z4 hl hlen
  obtain ⟨l, hl⟩ : ∃ l : List UInt8, l = s.data.toList ++ [128] ++ List.replicate (zeros s.size) 0 := ⟨_, rfl⟩
  have hll : l.length ≤ 1000000000100 := by rw [hl, List.length_append, List.length_append, List.length_replicate]; have e : s.data.toList.length = s.size := by simp
                                            simp only [List.length_cons, List.length_nil]; omega
  rw [← hl] at h4
  have HL := Lib.hid hl
  clear hl
  go_wp2_with fail
  go_loopw [8] (fun vi wr => ∃ k : Nat, k ≤ 8 ∧ vi = .int .i64 (7 - (k : Int)) ∧ Lib.BuilderAt 186 5 w.heap.size w.heap.size (.pointer (some ⟨w.heap.size, 0, none⟩)) (Lib.byteCells (l ++ lenTo n k)) wr ∧ Below w.heap.size w wr) (fun vi _ => (intOf vi + 1).toNat)
  case atStart =>
    refine ⟨0, by omega, rfl, ?_, hall⟩
    rw [show lenTo n 0 = [] from rfl, List.append_nil]
    exact h4
  case round =>
    obtain ⟨k, hk, rfl, hB, hW⟩ := hrel
    have hsl : (Lib.byteCells (l ++ lenTo n k)).length + 1 ≤ 140737488355328 := by
      have e : (lenTo n k).length ≤ 8 := by unfold lenTo; rw [List.length_take]; omega
      rw [Lib.byteCells_length, List.length_append]; omega
    have hbw := hW.size
    by_cases hlt : k < 8
    · have hh : 0 ≤ 7 - (k : Int) := by omega
      go_wp2_with fail
      refine (writeByte w.heap.size w.heap.size _ _ _ (.inr hB) hsl hbw).mono ?_
      rintro e w5 ⟨rfl, h5, b5⟩
      go_wp2_with fail
      refine ⟨⟨k + 1, by omega, by congr 1; omega, ?_, hW.trans b5⟩, by simp only [intOf]; omega⟩
      rw [lenTo_succ n k hlt, ← List.append_assoc, Lib.byteCells_append, lenB_cell n k]
      exact h5
    · have hk8 : k = 8 := by omega
      subst hk8
      go_wp2_with fail
      refine (Tryz.Builder_String_any w.heap.size w.heap.size _ _ (.inr hB) hbw).mono ?_
      rintro e w6 ⟨rfl, b6⟩
      go_wp2_with fail
      go_ret
      refine ⟨?_, hW.trans b6⟩
      rw [HL.out]
      rfl

end Go.Proofs.YtkinlobfdkeamaaGreatDoor

namespace Go.Proofs.YtkinlobfdkeamaaGreatDoor
open Go.RowKit

/-- v is a []byte of bytes l in memory made since w0. -/
structure OutB (w0 w : World) (v : Value) (l : List UInt8) : Prop where
  own : ∃ g cap cur fz, v = .slice (some ⟨g, 0, none⟩) l.length cap ∧ w0.heap.size ≤ g ∧ w.heap[g]? = some (.cells cur 5 fz) ∧ (∀ j, j < cap → ¬ (fz.1 ≤ j ∧ j < fz.2)) ∧ l.length ≤ cap ∧ cur.size = cap ∧ cur.toList.take l.length = Lib.byteCells l
  low : Below w0.heap.size w0 w

theorem outB_alloc {w0 w : World} {v : Value} {l : List UInt8} (h : OutB w0 w v l) (o : Obj) : OutB w0 (w.alloc o) v l := by
  obtain ⟨⟨g, cap, cur, fz, h1, h2, h3, h4⟩, hl⟩ := h
  exact ⟨⟨g, cap, cur, fz, h1, h2, (Lib.alloc_old w o g (Array.getElem?_eq_some_iff.1 h3).1).trans h3, h4⟩, ext_trans hl (ext_alloc _ _)⟩

/-- '[]byte(s)'. -/
theorem outB_conv (w : World) (s : ByteArray) : OutB w (Lib.bytesWorld w 5 s) (.slice (some ⟨w.heap.size, 0, none⟩) s.size (grownCap w s.size 0 5)) s.data.toList := by
  have hl : s.data.toList.length = s.size := by simp
  have hc : s.size ≤ grownCap w s.size 0 5 := grownCap_ge _ _ _ _
  refine ⟨⟨w.heap.size, _, Lib.bytesCells w 5 s, _, by rw [hl], Nat.le_refl _, Lib.bytesWorld_at_new w _ s, ?_, by rw [hl]; exact hc, ?_, ?_⟩, Joins.below_bytesWorld _ w _ s (Nat.le_refl _)⟩
  · intro j hj
    have : (Lib.bytesCells w 5 s).size = grownCap w s.size 0 5 := by
      unfold Lib.bytesCells
      rw [Array.size_append, Array.size_map, Array.size_replicate, ← hl, Array.length_toList]
      rw [← hl, Array.length_toList] at hc; omega
    rw [this]
    simp only
    omega
  · unfold Lib.bytesCells
    rw [Array.size_append, Array.size_map, Array.size_replicate, ← hl, Array.length_toList]
    rw [← hl, Array.length_toList] at hc; omega
  · unfold Lib.bytesCells Lib.byteCells
    rw [Array.toList_append, Array.toList_map, List.take_append_of_le_length (by rw [List.length_map]; exact Nat.le_refl _), List.take_of_length_le (by rw [List.length_map]; exact Nat.le_refl _)]

/-- 'append(v, c)'. -/
theorem outB_append {ops : Array Oper} {rest : List Oper} {o : Oper} {a : Act} {Q : Exit → Act → World → Prop} (w0 w : World) (l : List UInt8) (c : UInt8) (v : Value) (hv : OutB w0 w v l)
    (hg : o.guard = none) (s x : Operand) (hop : o.op = Op.call { callee := Callee.builtin Builtin.append, args := #[s, x], argTypes := #[90, 90] })
    (hs : a.eval s = v) (b : Nat) (hx : a.eval x = .slice (some ⟨b, 0, none⟩) 1 1) (hb : w.heap[b]? = some (.cells #[.int .u8 c.toNat] 5 (0, 0))) (hlen : l.length + 1 ≤ 140737488355328)
    (h : ∀ v' w', OutB w0 w' v' (l ++ [c]) → wpList Tryz.prog ops Q rest (a.put o.dst v') w') : wpList Tryz.prog ops Q (o :: rest) a w := by
  obtain ⟨i0, hi, hz0, hz1, hz2⟩ := info_parts bByte
  obtain ⟨⟨g, cap, cur, fz, rfl, h2, h3, h4, h5, h6, h7⟩, hl⟩ := hv
  refine wpList_append_arg w hg s x 90 hop 5 i0 (.int .u8 0) 1 1 Tryz.underlying90 hi hz0 hz1 hz2 rfl (by decide) g 0 l.length cap (Lib.byteCells l) hs (by rw [Lib.byteCells_length]; omega) ?_ ⟨b, 0, none⟩ 1 1 [.int .u8 c.toNat] hx rfl ?_ ?_ ?_ (by unfold maxLen; omega) (by omega) ?_ ?_
  · intro j u hu
    rw [Nat.zero_add, ← h7] at *
    rw [List.getElem?_take] at hu
    split at hu
    · rw [Lib.cell_of_heap h3]; simpa using hu
    · simp at hu
  · intro j u hu
    match j, hu with
    | 0, hu => simp at hu; subst hu; rw [show (⟨b, 0, none⟩ : Addr).add 0 = ⟨b, 0, none⟩ from rfl, Lib.cell_of_heap hb]; rfl
    | j + 1, hu => simp at hu
  · intro u hu; simp at hu; subst hu; rfl
  · intro hcap j hj
    have hj0 : j = 0 := by simpa using hj
    subst hj0
    refine ⟨?_, ?_⟩
    · rw [Lib.cell_of_heap h3]
      have : 0 + l.length * 1 + 0 < cur.size := by omega
      rw [Array.getElem?_eq_getElem this]; rfl
    · have := h4 (0 + l.length * 1 + 0) (by omega)
      unfold World.frozen?
      simp only [h3]
      rw [Bool.and_eq_false_iff]
      rcases Nat.lt_or_ge (0 + l.length * 1 + 0) fz.1 with q | q
      · left; simpa using q
      · right; simp only [decide_eq_false_iff_not]; omega
  · intro hcap
    have e : w.setCells g (0 + l.length * 1) [.int .u8 (c.toNat : Int)] = w.setCell ⟨g, l.length, none⟩ (.int .u8 c.toNat) := by
      rw [Nat.zero_add, Nat.mul_one]; rfl
    rw [e]
    have hll : (l ++ [c]).length = l.length + 1 := by simp
    rw [← hll]
    refine h _ _ ⟨⟨g, cap, cur.setIfInBounds l.length (.int .u8 c.toNat), fz, rfl, h2, Lib.heap_setCell_same h3 _, h4, by omega, by rw [Array.size_setIfInBounds]; exact h6, ?_⟩, hl.setCell h2 _⟩
    rw [Array.toList_setIfInBounds, hll, List.take_add_one, List.take_set_of_le (Nat.le_refl _), h7, Lib.byteCells_append]
    have hcl : l.length < cur.toList.length := by
      have : cur.toList.length = cur.size := Array.length_toList
      omega
    rw [List.getElem?_set_self hcl]
    rfl
  · intro hcap v' w' ho hgr
    have hll : (l ++ [c]).length = l.length + 1 := by simp
    rcases ho.2 with ⟨_, h0⟩ | ⟨g', cap', cur', hv', q1, q2, q3, q4, q5, q6⟩
    · omega
    · rw [hv', ← hll]
      refine h _ _ ⟨⟨g', cap', cur', (0, 0), rfl, ?_, q2, ?_, by omega, by omega, ?_⟩, ?_⟩
      · have := hl.size; omega
      · intro j hj hh; omega
      · rw [hll, Lib.byteCells_append, show Lib.byteCells [c] = [Value.int .u8 (c.toNat : Int)] from rfl]; simpa using q6
      · exact hl.trans ⟨hgr.os, hgr.tape, hgr.output, hgr.size, fun k hk => hgr.block k (by have := hl.size; omega) (by simp)⟩

theorem OutB.cells {w0 w : World} {v : Value} {l : List UInt8} (h : OutB w0 w v l) : ∃ g cap, v = .slice (some ⟨g, 0, none⟩) l.length cap ∧ ∀ j (hj : j < l.length), w.cell? ((⟨g, 0, none⟩ : Addr).add j) = some (.int .u8 (l[j].toNat : Int)) := by
  obtain ⟨⟨g, cap, cur, fz, rfl, h2, h3, h4, h5, h6, h7⟩, hl⟩ := h
  exact ⟨g, cap, rfl, Lib.bytes_of_row h3 h7⟩

end Go.Proofs.YtkinlobfdkeamaaGreatDoor

