/- The reference's padding walked. A row loaded in the still head of a region that draws its order. The reference's SHA-256 walked: Sum. -/
import Derived.Test.YtkinlobfdkeamaaGreatDoorV06
import Derived.Test.YtkinlobfdkeamaaGreatDoorV16
import Derived.StillTailTactics
import Derived.Laws.Rows
import Derived.Test.YtkinlobfdkeamaaGreatDoorV17
import Derived.Test.YtkinlobfdkeamaaGreatDoorV07
import Derived.Laws.Tables
namespace Go.Proofs.YtkinlobfdkeamaaGreatDoor
open Go.RowKit

def sliceLen : Value → Nat | .slice _ n _ => n | _ => 0
theorem zeros_more (m k : Nat) (h : k ≤ zeros m) : (m + 1 + k) % 64 = 56 ↔ k = zeros m := by unfold zeros at *; omega

set_option maxHeartbeats 4000000 in
set_option maxRecDepth 100000 in
theorem ref_pad (s : ByteArray) (hs : s.size ≤ 1000000000) (w : World) : Calls Tryz.prog 72 #[.string s] w fun e w' => e = .returned (.string ⟨(padL s.data.toList).toArray⟩) ∧ Below w.heap.size w w' := by
  have hcv := fun w => Lib.run_convert_string_bytes (P := Tryz.prog) w 9 90 5 s Tryz.underlying9 Tryz.underlying90 Tryz.underlying5
  go_enter Tryz.func72, Tryz.ntmps72
  have hl : s.data.toList.length = s.size := by simp
  go_wp2_with (at_builtin; refine outB_append w _ s.data.toList 128 _ (outB_alloc (outB_conv w s) _) rfl _ _ rfl rfl _ rfl (heap_alloc_new _ _) (by rw [hl]; omega) ?_)
  intro v1 w1 h1
  go_wp2_with fail
  clear hcv
  go_loopw [3] (fun v3 wr => ∃ k : Nat, k ≤ zeros s.size ∧ OutB w wr v3 (s.data.toList ++ [128] ++ List.replicate k 0)) (fun v3 _ => 72 + s.size - sliceLen v3)
  case atStart =>
    refine ⟨0, by omega, ?_⟩
    rw [List.replicate_zero, List.append_nil]
    exact h1
  case round =>
    obtain ⟨k, hk, hB⟩ := hrel
    have hlen : (s.data.toList ++ [128] ++ List.replicate k 0).length = s.size + 1 + k := by
      rw [List.length_append, List.length_append, List.length_replicate, hl]; rfl
    have hz : zeros s.size < 64 := by unfold zeros; omega
    have hm := zeros_more s.size k hk
    obtain ⟨⟨g, cap, cur, fz, rfl, q⟩, hlow⟩ := id hB
    rw [hlen] at hB ⊢
    clear q
    by_cases hlt : k = zeros s.size
    · have hm' := hm.2 hlt
      have m1 : ((s.size : Int) + 1 + k) % 64 = 56 := by omega
      have m2 : (((s.size : Int) + 1 + k) % 64 != 56) = false := by rw [m1]; rfl
      have HLT := Lib.hid hlt
      clear hlt hm hm' h1 m1
      obtain ⟨L0, hL0⟩ : ∃ L0, L0 = s.data.toList ++ [128] ++ List.replicate k 0 := ⟨_, rfl⟩
      rw [← hL0] at hB hlen
      have HL0 := Lib.hid hL0
      clear hL0
      go_wp2_with fail
      go_loopw [3, 4] (fun v3 v4 wq => ∃ j : Nat, j ≤ 8 ∧ v4 = .int .i64 (8 * (7 - (j : Int))) ∧ OutB w wq v3 (L0 ++ lenTo s.size j)) (fun _ v4 _ => (intOf v4 + 8).toNat)
      case atStart => exact ⟨0, by omega, rfl, by rw [show lenTo s.size 0 = [] from rfl, List.append_nil]; exact hB⟩
      case round =>
        obtain ⟨j, hj, rfl, hB⟩ := hrel
        have hlen2 : (L0 ++ lenTo s.size j).length = s.size + 1 + k + j := by
          rw [List.length_append, hlen]; unfold lenTo; rw [List.length_take]; have : (lenL s.size).length = 8 := rfl; omega
        obtain ⟨⟨g2, cap2, cur2, fz2, rfl, q2⟩, hlow2⟩ := id hB
        rw [hlen2] at hB ⊢
        clear q2
        by_cases hlt : j < 8
        · have hh : 0 ≤ 8 * (7 - (j : Int)) := by omega
          have hb : ∀ o, o = Obj.cells #[Value.int .u8 ((s.size : Int) * 8 / 2 ^ (8 * (7 - j)) % 256)] 5 → (wr.alloc o).heap[wr.heap.size]? = some (.cells #[.int .u8 (lenB s.size (7 - j)).toNat] 5 (0, 0)) := by
            rintro o rfl
            rw [lenB_int]
            exact heap_alloc_new _ _
          have HLE := Lib.hid hlen2
          obtain ⟨L1, hL1⟩ : ∃ L1, L1 = L0 ++ lenTo s.size j := ⟨_, rfl⟩
          rw [← hL1] at hB hlen2
          have HL1 := Lib.hid hL1
          clear hL1
          go_wp2_with (at_builtin; refine outB_append w _ _ (lenB s.size (7 - j)) _ (outB_alloc hB _) rfl _ _ rfl rfl _ rfl (hb _ rfl) (by rw [hlen2]; omega) ?_)
          intro v6 w6 h6
          clear hb
          go_wp2_with fail
          refine ⟨⟨j + 1, by omega, by congr 1; omega, ?_⟩, by simp only [intOf]; omega⟩
          rw [lenTo_succ _ _ hlt, ← List.append_assoc, ← HL1.out]
          exact h6
        · have hj8 : j = 8 := by omega
          subst hj8
          have hfin : L0 ++ lenTo s.size 8 = padL s.data.toList := by
            rw [HL0.out, HLT.out]
            unfold padL restL
            rw [hl]; rfl
          rw [hfin] at hB hlen2
          have HF := Lib.hid hfin
          clear hfin
          obtain ⟨g4, c4, he, hcells⟩ := hB.cells
          rw [hlen2] at he
          simp only [Value.slice.injEq, Option.some.injEq, Addr.mk.injEq, and_true, true_and] at he
          obtain ⟨rfl, rfl⟩ := he
          have hcv := run_convert_bytes_back (P := Tryz.prog) wr 90 9 5 ⟨g2, 0, none⟩ cap2 (padL s.data.toList) Tryz.underlying90 Tryz.underlying5 Tryz.underlying9 hcells
          rw [hlen2] at hcv
          have hlow3 := hB.low
          rw [show 8 * (7 - ((8 : Nat) : Int)) = -8 from rfl]
          clear hcells hlow hlow2 hB
          go_wp2_with fail
          go_ret
          exact ⟨rfl, hlow3⟩
    · have m0 : k < zeros s.size := by omega
      have m1 : (((s.size : Int) + 1 + k) % 64 == 56) = false := by simp; omega
      have m2 : (((s.size : Int) + 1 + k) % 64 != 56) = true := by rw [bne, m1]; rfl
      obtain ⟨L1, hL1⟩ : ∃ L1, L1 = s.data.toList ++ [128] ++ List.replicate k 0 := ⟨_, rfl⟩
      rw [← hL1] at hB hlen
      have HL1 := Lib.hid hL1
      clear hL1
      go_wp2_with (at_builtin; refine outB_append w _ _ 0 _ (outB_alloc hB _) rfl _ _ rfl rfl _ rfl (heap_alloc_new _ _) (by rw [hlen]; omega) ?_)
      intro v5 w5 h5
      go_wp2_with fail
      refine ⟨⟨k + 1, by omega, ?_⟩, ?_⟩
      · rw [List.replicate_succ', ← List.append_assoc, ← HL1.out]
        exact h5
      · obtain ⟨⟨g3, cap3, cur3, fz3, rfl, _⟩, _⟩ := h5
        simp only [sliceLen]
        rw [List.length_append, hlen]
        simp only [List.length_cons, List.length_nil]
        omega

end Go.Proofs.YtkinlobfdkeamaaGreatDoor

namespace Go.Proofs.YtkinlobfdkeamaaGreatDoor
open Go

theorem wpStill_load_row {P : Program} {ops : Array Oper} {rest : List Oper} {o : Oper} {a : Act} {w : World} {Q : Act → Prop} (hgd : o.guard = none) (ty : TypeId) (x : Operand) (ho : o.op = .load ty x)
    (g : Nat) (hx : a.eval x = .pointer (some ⟨g, 0, none⟩)) (t : TypeId) (cs : Array Value) (fr : Nat × Nat) (d : TypeDesc) (hg : w.heap[g]? = some (.cells cs t fr))
    (hu : P.underlying ty = some d) (hd : (match d with | .struct _ | .array _ _ => true | _ => false) = true) (hi : (P.info? ty).map (·.size) = some cs.size)
    (h : wpStill P ops w Q rest (a.put o.dst (.agg cs))) : wpStill P ops w Q (o :: rest) a := by
  refine wpStill_step (fun K hK => ?_)
  have hw : Region.wanted o (yielded ops a.tmps) = true := by simp [Region.wanted, hgd]
  rw [if_pos hw]
  unfold Oper.still execOp
  simp only [ho, hx, Instr.loadAt, Instr.sureAddr, Sem.run_bind, Sem.run_pure, Result.andThen_ok, run_loadVar_row w g t ty cs fr d hg hu hd hi]
  exact ⟨rfl, hK _ h⟩

end Go.Proofs.YtkinlobfdkeamaaGreatDoor

namespace Go.Proofs.YtkinlobfdkeamaaGreatDoor
open Go.RowKit

set_option maxRecDepth 100000 in
theorem ref_first (w : World) : Calls Tryz.prog 70 #[] w fun e w' => e = .returned (.agg shaIv.row) ∧ Below w.heap.size w w' := by
  go_enter Tryz.func70, Tryz.ntmps70
  go_wp2_with fail
  exact bodyPost_ret (results_cell_row rfl _ _ w.heap.size _ _ _ _ rfl (heap_alloc_new _ _) Tryz.underlying85 rfl (by kernel_rfl)) rfl ⟨rfl, ext_alloc _ _⟩

theorem shaKr_size : shaKr.size = 64 := rfl
theorem shaKr_all : shaKr.all (·.oneCell') = true := by kernel_rfl
def zz64 : Array Value := (List.replicate 64 (Value.int .u32 0)).toArray
theorem zz64_size : zz64.size = 64 := rfl
/-- The way out with the constants in a cell. -/
theorem retK (a : Act) (w : World) (ha : a.tmps.getD 0 undef = .pointer (some ⟨w.heap.size, 0, none⟩)) (hd : a.defers = []) :
    bodyPost Tryz.prog Tryz.f71 (fun e w' => e = .returned (.agg shaKr) ∧ Below w.heap.size w w') Exit.ret a ((w.alloc (.cells zz64 87)).setRow w.heap.size shaKr) := by
  refine bodyPost_ret (results_cell_row rfl _ _ w.heap.size _ _ _ _ ha (setRow_heap _ _ _ _ _ _ (heap_alloc_new _ _)) Tryz.underlying87 rfl (by rw [shaKr_size]; kernel_rfl)) hd ⟨rfl, ?_⟩
  have hb := ext_alloc w (.cells zz64 87)
  exact ⟨hb.os, hb.tape, hb.output, by rw [size_setRow]; exact hb.size, fun k hk => by rw [setRow_other _ _ _ _ (by omega)]; exact hb.block k hk⟩

set_option maxHeartbeats 8000000 in
set_option maxRecDepth 100000 in
theorem ref_constants (w : World) : Calls Tryz.prog 71 #[] w fun e w' => e = .returned (.agg shaKr) ∧ Below w.heap.size w w' := by
  go_enter Tryz.func71, Tryz.ntmps71
  go_wp2_with (refine wpList_store_row rfl 87 _ _ rfl w.heap.size shaKr rfl rfl 87 zz64 (heap_alloc_new w (.cells zz64 87)) (by rw [shaKr_size]; kernel_rfl) (by rw [shaKr_size]; exact zz64_size) shaKr_all ?_)
  exact retK { tmps := _, defers := [] } w rfl rfl

theorem sha_block8 (s : ByteArray) (hs : s.size = 64) (w : World) (Y : S8) :
    Calls Tryz.prog 73 #[.agg Y.row, .agg shaKr, .string s] w fun e w' => e = .returned (.agg (shaB shaKf s Y).row) ∧ Below w.heap.size w w' := by
  obtain ⟨x0, x1, x2, x3, x4, x5, x6, x7⟩ := Y
  exact sha_block s hs w x0 x1 x2 x3 x4 x5 x6 x7 shaKr shaKf shaKr_at

/-- What stands when i blocks are in. -/
structure RefS (w0 w : World) (n : Nat) (Y : S8) : Prop where
  b0 : w.heap[n]? = some (.cells Y.row 85 (0, 0))
  b1 : w.heap[n + 1]? = some (.cells shaKr 87 (0, 0))
  low : Below w0.heap.size w0 w

theorem refS_new {w0 w : World} (h : Below w0.heap.size w0 w) (A B : Array Value) (Y : S8) : RefS w0 ((((w.alloc (.cells A 85)).alloc (.cells B 87)).setRow w.heap.size Y.row).setRow (w.heap.size + 1) shaKr) w.heap.size Y := by
  have h0 : ((w.alloc (.cells A 85)).alloc (.cells B 87)).heap[w.heap.size]? = some (.cells A 85 (0, 0)) := (Lib.alloc_old _ _ _ (by rw [size_alloc]; omega)).trans (heap_alloc_new _ _)
  have h1 : ((w.alloc (.cells A 85)).alloc (.cells B 87)).heap[w.heap.size + 1]? = some (.cells B 87 (0, 0)) := by
    have := heap_alloc_new (w.alloc (.cells A 85)) (.cells B 87)
    rw [size_alloc] at this; exact this
  refine ⟨?_, ?_, ?_⟩
  · rw [setRow_other _ _ _ _ (by omega)]; exact setRow_heap _ _ _ _ _ _ h0
  · exact setRow_heap _ _ _ _ _ _ ((setRow_other _ _ _ _ (by omega)).trans h1)
  · have hb := ext_trans h (ext_trans (ext_alloc w (.cells A 85)) (ext_alloc _ (.cells B 87)))
    exact ⟨hb.os, hb.tape, hb.output, by rw [size_setRow, size_setRow]; exact hb.size, fun k hk => by
      have := h.size
      rw [setRow_other _ _ _ _ (by omega), setRow_other _ _ _ _ (by omega)]; exact hb.block k hk⟩

theorem refS_set {w0 w : World} {n : Nat} {Y : S8} (h : RefS w0 w n Y) (hn : w0.heap.size ≤ n) (w' : World) (hb : Below w.heap.size w w') (Y' : S8) : RefS w0 (w'.setRow n Y'.row) n Y' := by
  have q0 := (hb.block n (heap_lt' h.b0)).trans h.b0
  have q1 := (hb.block (n + 1) (heap_lt' h.b1)).trans h.b1
  have hl := ext_trans h.low hb
  exact ⟨setRow_heap _ _ _ _ _ _ q0, (setRow_other _ _ _ _ (by omega)).trans q1, ⟨hl.os, hl.tape, hl.output, by rw [size_setRow]; exact hl.size, fun k hk => by rw [setRow_other _ _ _ _ (by omega)]; exact hl.block k hk⟩⟩
where heap_lt' {w : World} {b : Nat} {o : Obj} (h : w.heap[b]? = some o) : b < w.heap.size := (Array.getElem?_eq_some_iff.1 h).1

theorem shaB_slice (L : List UInt8) (i : Nat) (Y : S8) (s : ByteArray) (h : s.data.toList = (L.drop (64 * i)).take 64) : shaB shaKf s Y = shaB shaKf (blk L i) Y := by
  refine shaB_congr (fun j hj => ?_) Y
  rw [bAt_blk]
  unfold bAt
  rw [h, List.getD_eq_getElem?_getD, List.getElem?_take_of_lt hj, List.getElem?_drop, ← List.getD_eq_getElem?_getD]

theorem rowAll (Y : S8) : Y.row.all (·.oneCell') = true := by kernel_rfl
theorem idx8' (z : S8) {k : Nat} (h : k < 8) (w : World) : (Instr.index 85 (.agg z.row) (.int .i64 (k : Int))).run Tryz.prog w = .ok (.int .u32 (z.at k)) w := by
  rcases lt8 h with rfl | rfl | rfl | rfl | rfl | rfl | rfl | rfl <;> kernel_rfl

set_option maxHeartbeats 8000000 in
set_option maxRecDepth 100000 in
theorem ref_sum (s : ByteArray) (hs : s.size ≤ 1000000000) (w : World) : Calls Tryz.prog 37 #[.string s] w fun e w' => e = .returned (.string ⟨(shaL s.data.toList).toArray⟩) ∧ Below w.heap.size w w' := by
  go_enter Tryz.func37, Tryz.ntmps37
  go_wp2_with fail
  refine (ref_first _).mono ?_
  rintro e w1 ⟨rfl, b1⟩
  go_wp2_with fail
  refine (ref_constants _).mono ?_
  rintro e w2 ⟨rfl, b2⟩
  go_wp2_with fail
  refine (ref_pad _ hs _).mono ?_
  rintro e w3 ⟨rfl, b3⟩
  have b := ext_trans b1 (ext_trans b2 b3)
  clear b1 b2 b3
  have hk1 : ∀ A B, (((w3.alloc (.cells A 85)).alloc (.cells B 87)).setRow w3.heap.size shaIv.row).heap[w3.heap.size + 1]? = some (.cells B 87 (0, 0)) := by
    intro A B
    rw [setRow_other _ _ _ _ (by omega)]
    have := heap_alloc_new (w3.alloc (.cells A 85)) (.cells B 87)
    rw [size_alloc] at this; exact this
  go_wp2_with (first
    | refine wpList_store_row rfl 85 _ _ rfl w3.heap.size shaIv.row rfl rfl 85 _ ((Lib.alloc_old _ _ _ (by rw [size_alloc]; omega)).trans (heap_alloc_new _ _)) (by kernel_rfl) rfl (by kernel_rfl) ?_
    | refine wpList_store_row rfl 87 _ _ rfl (w3.heap.size + 1) shaKr rfl rfl 87 zz64 (hk1 _ zz64) (by rw [shaKr_size]; kernel_rfl) (by rw [shaKr_size]; exact zz64_size) shaKr_all ?_)
  have hS := refS_new b (#[.int .u32 0, .int .u32 0, .int .u32 0, .int .u32 0, .int .u32 0, .int .u32 0, .int .u32 0, .int .u32 0]) zz64 shaIv
  clear hk1
  refine (fun (h : ∀ w4, RefS w w4 w3.heap.size shaIv → Code.wp _ _ _ _ w4) => h _ hS) ?_
  clear hS
  intro w4 hS
  have hle : w.heap.size ≤ w3.heap.size := b.size
  generalize w3.heap.size = n at hS hle ⊢
  obtain ⟨L, hL⟩ : ∃ L, L = padL s.data.toList := ⟨_, rfl⟩
  have hLl : L.length = 64 * (L.length / 64) := by
    have h := padL_len s.data.toList
    rw [← hL] at h
    unfold zeros at h; omega
  have hLb : L.length ≤ 2000000000 := by
    have h := padL_len s.data.toList
    have h2 : s.data.toList.length = s.size := by simp
    rw [← hL] at h
    unfold zeros at h; omega
  rw [← hL]
  have HL := Lib.hid hL
  clear hL b
  obtain ⟨m, hm⟩ : ∃ m, m = L.length / 64 := ⟨_, rfl⟩
  rw [← hm] at hLl
  have HM := Lib.hid hm
  clear hm
  go_loopw [6] (fun v6 wr => ∃ i : Nat, i ≤ m ∧ v6 = .int .i64 (64 * (i : Int)) ∧ RefS w wr n (shaTo shaKf L shaIv i)) (fun v6 _ => (64 * (m : Int) - intOf v6).toNat)
  case atStart => exact ⟨0, by omega, rfl, hS⟩
  case round =>
    obtain ⟨i, hi, rfl, hR⟩ := hrel
    by_cases hlt : i < m
    · have j0 : 64 * (i : Int) < L.length := by omega
      have j1 : 64 * (i : Int) + 64 ≤ L.length := by omega
      have t0 : (64 * (i : Int)).toNat = 64 * i := by omega
      have t1 : (64 * (i : Int) + 64).toNat = 64 * i + 64 := by omega
      have p0 : 0 ≤ 64 * (i : Int) := by omega
      have p1 : 0 ≤ 64 * (i : Int) + 64 := by omega
      have p2 : 64 * (i : Int) + 64 ≤ 64 * (m : Int) := by omega
      have p3 : 64 * i + 64 ≤ 64 * m := by omega
      have p4 : 64 * (i : Int) ≤ 64 * (i : Int) + 64 := by omega
      have p5 : 64 * i ≤ 64 * i + 64 := by omega
      have w64 : IntKind.i64.wrap (64 * (i : Int) + 64) = 64 * (i : Int) + 64 := IntWalk.i64_in _ (by omega)
      go_wp2_with fail
      obtain ⟨Y, hY⟩ : ∃ Y, Y = shaTo shaKf L shaIv i := ⟨_, rfl⟩
      rw [← hY] at hR
      have HY := Lib.hid hY
      clear hY
      refine wp_region_still_tail 7 (by kernel_rfl) (by kernel_rfl) ?_
      simp only [List.take_succ_cons, List.take_zero, List.drop_succ_cons, List.drop_zero]
      refine wpStill_load_row rfl 85 _ rfl n rfl 85 _ _ _ hR.b0 Tryz.underlying85 rfl (by rw [show Y.row.size = 8 from rfl]; kernel_rfl) ?_
      refine wpStill_load_row rfl 87 _ rfl (n + 1) rfl 87 _ _ _ hR.b1 Tryz.underlying87 rfl (by rw [shaKr_size]; kernel_rfl) ?_
      repeat still_step
      refine wpStill_nil ?_
      change wpList _ _ _ _ _ wr.drew
      obtain ⟨D, hD⟩ : ∃ D, D = (ByteArray.mk L.toArray).extract (64 * i) (64 * i + 64) := ⟨_, rfl⟩
      rw [← hD]
      have hDl : D.data.toList = (L.drop (64 * i)).take 64 := by
        rw [hD, Lib.extract_data]
        rw [show 64 * i + 64 - 64 * i = 64 by omega]
      have hDs : D.size = 64 := by
        have : D.data.toList.length = 64 := by rw [hDl, List.length_take, List.length_drop]; omega
        rw [← this]; simp
      have hblk := shaB_slice L i Y D hDl
      have HB := Lib.hid hblk
      clear hD hDl hblk t0 t1 p0 p1 p2 p3 p4 p5 w64 j0 j1
      go_wp2_with fail
      refine (sha_block8 D hDs _ Y).mono ?_
      rintro e w5 ⟨rfl, b5⟩
      have b6 : Below wr.heap.size wr w5 := ext_trans (Below.refl _ _).drew b5
      have hS5 := refS_set hR hle w5 b6 (shaTo shaKf L shaIv (i + 1))
      have h50 : w5.heap[n]? = some (.cells Y.row 85 (0, 0)) := (b6.block n (by have := hR.low.size; have := (Array.getElem?_eq_some_iff.1 hR.b0).1; omega)).trans hR.b0
      rw [show shaTo shaKf L shaIv (i + 1) = shaB shaKf (blk L i) (shaTo shaKf L shaIv i) from rfl, ← HY.out, ← HB.out] at hS5
      obtain ⟨Y', hY'⟩ : ∃ Y', Y' = shaB shaKf D Y := ⟨_, rfl⟩
      rw [← hY'] at hS5 ⊢
      have hYY : Y' = shaTo shaKf L shaIv (i + 1) := by rw [hY', HB.out, HY.out]; rfl
      clear hY'
      have HYY := Lib.hid hYY
      clear hYY
      go_wp2_with (refine wpList_store_row rfl 85 _ _ rfl n Y'.row rfl rfl 85 _ h50 (by rw [show Y'.row.size = 8 from rfl]; kernel_rfl) rfl (rowAll Y') ?_)
      refine ⟨⟨i + 1, by omega, by congr 1, by rw [← HYY.out]; exact hS5⟩, by simp only [intOf]; omega⟩
    · have him : i = m := by omega
      subst him
      obtain ⟨Y, hY⟩ : ∃ Y, Y = shaTo shaKf L shaIv i := ⟨_, rfl⟩
      rw [← hY] at hR
      have hfin : digL Y = shaL s.data.toList := by rw [hY, HM.out, HL.out]; rfl
      have HF := Lib.hid hfin
      clear hY hfin
      have hb0 := hR.b0
      go_wp2_with (refine wpList_load_row rfl 85 _ rfl n rfl 85 _ _ _ hb0 Tryz.underlying85 rfl (by rw [show Y.row.size = 8 from rfl]; kernel_rfl) ?_)
      clear hb0
      go_loopw [7, 29] (fun v7 v29 wq => ∃ j : Nat, j ≤ 8 ∧ v29 = .int .i64 (j : Int) ∧ OwnL w wq v7 (digTo Y j)) (fun _ v29 _ => (8 - intOf v29).toNat)
      case atStart => exact ⟨0, by omega, rfl, World.ownsRow_nil _ _ _ _, hR.low⟩
      case round =>
        obtain ⟨j, hj, rfl, hO⟩ := hrel
        by_cases hlt : j < 8
        · have hix := idx8' Y hlt
          have j0 : (j : Int) < 8 := by omega
          have hl4 : (digTo Y j).length ≤ 32 := by unfold digTo; rw [List.length_take]; have := digL_len Y; omega
          obtain ⟨l, hl⟩ : ∃ l, l = digTo Y j := ⟨_, rfl⟩
          rw [← hl] at hO hl4
          have HLL := Lib.hid hl
          clear hl
          have hC : (#[.int .u8 (Y.at j / 16777216 % 256), .int .u8 (Y.at j / 65536 % 256), .int .u8 (Y.at j / 256 % 256), .int .u8 (Y.at j % 256)] : Array Value).toList = Lib.byteCells (wB (Y.at j)) := by rw [wB_cells]; rfl
          go_wp2_with (at_builtin; refine ownL_append w _ l (wB (Y.at j)) 4 _ hO rfl _ _ rfl rfl rfl rfl _ hC (by omega) ?_)
          intro v8 w8 h8
          go_wp2_with fail
          refine ⟨⟨j + 1, by omega, by go_num, ?_⟩, by simp only [intOf]; omega⟩
          rw [digTo_succ Y hlt, ← HLL.out]
          exact h8
        · have hj8 : j = 8 := by omega
          subst hj8
          rw [show ((8 : Nat) : Int) = 8 from rfl]
          have hcv := ownL_string hO
          rw [digTo_8, HF.out] at hcv
          have hlow := hO.low
          clear hO
          go_wp2_with fail
          go_ret
          exact ⟨rfl, hlow⟩

end Go.Proofs.YtkinlobfdkeamaaGreatDoor

