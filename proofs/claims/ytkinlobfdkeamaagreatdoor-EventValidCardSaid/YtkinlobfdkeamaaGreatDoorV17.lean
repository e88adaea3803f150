/- The program's SHA-256 walked: Sum. The program's SHA-256 walked: Sum. The program's Encode and Make of a primitive, and Digest. -/
import Derived.Test.YtkinlobfdkeamaaGreatDoorV05
import Derived.Test.YtkinlobfdkeamaaGreatDoorV16
import Derived.Lib.SlBytesRow
import Derived.Deep.QuietTactic
import Derived.Deep.RegionWith
import Derived.BigQuiet
import Derived.StillTailTactics
import Derived.Lib.BufferRead
import Derived.Test.YtkinlobfdkeamaaGreatDoorV11
import Derived.Test.YtkinlobfdkeamaaGreatDoorV08
import Derived.Maps.OwnSet
namespace Go.Proofs.YtkinlobfdkeamaaGreatDoor
open Go.RowKit

def shaKr : Array Value := (shaK.map fun x => Value.int .u32 x).toArray
theorem shaKr_at (t : Nat) (h : t < 64) : shaKr[t]? = some (.int .u32 (shaKf t)) := by
  unfold shaKr shaKf
  rw [List.getElem?_toArray, List.getElem?_map, List.getD_eq_getElem?_getD]
  have : t < shaK.length := h
  rw [List.getElem?_eq_getElem this]
  rfl

set_option maxRecDepth 100000 in
theorem hash_begin (w : World) : Calls Tryz.prog 166 #[] w fun e w' => e = .returned (.agg shaIv.row) ∧ Below w.heap.size w w' := by
  go_enter Tryz.func166, Tryz.ntmps166
  go_wp2_with fail
  exact bodyPost_ret (results_cell_row rfl _ _ w.heap.size _ _ _ _ rfl (heap_alloc_new _ _) Tryz.underlying172 rfl (by kernel_rfl)) rfl ⟨rfl, ext_alloc _ _⟩

set_option maxHeartbeats 4000000 in
set_option maxRecDepth 100000 in
theorem hash_constants (w : World) : Calls Tryz.prog 167 #[] w fun e w' => e = .returned (.pointer (some ⟨w.heap.size, 0, none⟩)) ∧ w' = w.alloc (.cells shaKr 87) := by
  go_enter Tryz.func167, Tryz.ntmps167
  go_wp2_with fail
  go_ret
  exact ⟨rfl, rfl⟩

end Go.Proofs.YtkinlobfdkeamaaGreatDoor

namespace Go.Proofs.YtkinlobfdkeamaaGreatDoor
open Go.RowKit

theorem heap_lt {w : World} {b : Nat} {o : Obj} (h : w.heap[b]? = some o) : b < w.heap.size := by
  rcases Nat.lt_or_ge b w.heap.size with h' | h'
  · exact h'
  · simp [Array.getElem?_eq_none h'] at h

theorem sha_add8 (hb kb : Nat) (b : ByteArray) (hs : 64 ≤ b.size) (hs2 : b.size ≤ 140737488355328) (w : World) (S : S8)
    (hhb : w.heap[hb]? = some (.cells S.row 172 (0, 0))) (hkb : w.heap[kb]? = some (.cells shaKr 87 (0, 0))) :
    Calls Tryz.prog 169 #[.pointer (some ⟨hb, 0, none⟩), .string b, .pointer (some ⟨kb, 0, none⟩)] w fun e w' => e = .returned (.tuple #[]) ∧ w'.heap[hb]? = some (.cells (shaB shaKf b S).row 172 (0, 0)) ∧ w.grownBy w' (some hb) := by
  obtain ⟨x0, x1, x2, x3, x4, x5, x6, x7⟩ := S
  exact sha_add hb kb b hs hs2 w x0 x1 x2 x3 x4 x5 x6 x7 shaKr hhb hkb (heap_lt hhb) (heap_lt hkb) shaKf shaKr_at

def strLen : Value → Nat | .string s => s.size | _ => 0
/-- What stands when i blocks are in. -/
structure SumR (w0 w : World) (hb kb m : Nat) (L : List UInt8) (part : Nat → List UInt8) (i : Nat) : Prop where
  st : w.heap[hb]? = some (.cells (shaTo shaKf L shaIv i).row 172 (0, 0))
  ks : w.heap[kb]? = some (.cells shaKr 87 (0, 0))
  ps : w.heap[m]? = some (.cells #[.string ⟨(part 0).toArray⟩, .string ⟨(part 1).toArray⟩] 9 (0, 0))
  low : Below w0.heap.size w0 w

theorem SumR.cell {w0 w : World} {hb kb m : Nat} {L : List UInt8} {part : Nat → List UInt8} {i : Nat} (h : SumR w0 w hb kb m L part i) {k : Nat} (hk : k < 2) : w.cell? ⟨m, k, none⟩ = some (.string ⟨(part k).toArray⟩) := by
  have e : k = 0 ∨ k = 1 := by omega
  rcases e with rfl | rfl
  · exact cell_of_row w m 0 _ _ _ h.ps
  · exact cell_of_row w m 1 _ _ _ h.ps

theorem SumR.drewN {w0 w : World} {hb kb m : Nat} {L : List UInt8} {part : Nat → List UInt8} {i : Nat} (h : SumR w0 w hb kb m L part i) (n : Nat) : SumR w0 (w.drewN n) hb kb m L part i := ⟨h.st, h.ks, h.ps, ext_drewN h.low n⟩

theorem SumR.next {w0 w w' : World} {hb kb m : Nat} {L : List UInt8} {part : Nat → List UInt8} {i : Nat} (h : SumR w0 w hb kb m L part i) (hk : kb ≠ hb) (hm : m ≠ hb) (h0 : w0.heap.size ≤ hb)
    (h1 : w'.heap[hb]? = some (.cells (shaTo shaKf L shaIv (i + 1)).row 172 (0, 0))) (h2 : w.grownBy w' (some hb)) : SumR w0 w' hb kb m L part (i + 1) := by
  refine ⟨h1, (h2.block kb (heap_lt h.ks) (by simp; exact fun e => hk e)).trans h.ks, (h2.block m (heap_lt h.ps) (by simp; exact fun e => hm e)).trans h.ps, h.low.trans ⟨h2.os, h2.tape, h2.output, h2.size, fun k hk' => h2.block k (by have := h.low.size; omega) (by simp; omega)⟩⟩

/-- The two parts that the program goes over. -/
theorem twoParts (l : List UInt8) (q : Nat) (h : 64 * q ≤ l.length) : ∃ (part cn : Nat → _) (L : List UInt8), part 0 = l.take (64 * q) ∧ part 1 = restL (l.drop (64 * q)) l.length ∧ L = padL l ∧ cn 0 = 0 ∧ cn 2 = (padL l).length / 64
    ∧ (∀ k, k < 2 → ∃ c, (part k).length ≤ l.length + 72 ∧ (part k).length = 64 * c ∧ cn (k + 1) = cn k + c ∧ (∀ i, i < c → ∀ x, shaB shaKf (blk (part k) i) x = shaB shaKf (blk L (cn k + i)) x)) := by
  have hL : l.take (64 * q) ++ restL (l.drop (64 * q)) l.length = padL l := restL_drop l q _ h
  have h1 : (l.take (64 * q)).length = 64 * q := by rw [List.length_take]; omega
  have hr := restL_len (l.drop (64 * q)) l.length
  have h2 : (restL (l.drop (64 * q)) l.length).length = 64 * ((restL (l.drop (64 * q)) l.length).length / 64) := by
    unfold zeros at hr; omega
  have h3 : (padL l).length / 64 = q + (restL (l.drop (64 * q)) l.length).length / 64 := by
    rw [← hL, List.length_append, h1]; omega
  refine ⟨fun k => if k = 0 then l.take (64 * q) else restL (l.drop (64 * q)) l.length, fun k => if k = 0 then 0 else if k = 1 then q else (padL l).length / 64, padL l, rfl, rfl, rfl, rfl, rfl, ?_⟩
  intro k hk
  have e : k = 0 ∨ k = 1 := by omega
  rcases e with rfl | rfl
  · refine ⟨q, by show (l.take (64 * q)).length ≤ _; omega, h1, by simp, ?_⟩
    intro i hi x
    show _ = shaB shaKf (blk (padL l) (0 + i)) x
    rw [Nat.zero_add, ← hL]
    exact blk_left _ _ _ x i (by show 64 * (i + 1) ≤ (l.take (64 * q)).length; rw [h1]; omega)
  · refine ⟨(restL (l.drop (64 * q)) l.length).length / 64, ?_, h2, h3, ?_⟩
    · show (restL (l.drop (64 * q)) l.length).length ≤ _; rw [List.length_drop] at hr; unfold zeros at hr; omega
    intro i hi x
    show shaB shaKf (blk (restL (l.drop (64 * q)) l.length) i) x = shaB shaKf (blk (padL l) (q + i)) x
    rw [← hL]
    exact blk_right _ _ _ x q i h1

set_option maxHeartbeats 4000000 in
set_option maxRecDepth 100000 in
theorem hash_sum (s : ByteArray) (hs : s.size ≤ 1000000000) (w : World) : Calls Tryz.prog 145 #[.string s] w fun e w' => e = .returned (.string ⟨(shaL s.data.toList).toArray⟩) ∧ Below w.heap.size w w' := by
  go_enter Tryz.func145, Tryz.ntmps145
  go_wp2_with fail
  refine (hash_begin _).mono ?_
  rintro e w1 ⟨rfl, b1⟩
  go_wp2_with fail
  refine (hash_constants _).mono ?_
  rintro e w2 ⟨rfl, rfl⟩
  obtain ⟨x0, x1, x2, x3, x4, x5, x6, x7, hx⟩ : ∃ x0 x1 x2 x3 x4 x5 x6 x7, shaIv = ⟨x0, x1, x2, x3, x4, x5, x6, x7⟩ := ⟨_, _, _, _, _, _, _, _, rfl⟩
  rw [hx]
  simp only [S8.row]
  have HX := Lib.hid hx
  clear hx
  obtain ⟨q, hq⟩ : ∃ q, q = s.size / 64 := ⟨_, rfl⟩
  have e1 : (s.size : Int) / 64 = (q : Int) := by omega
  have e2 : 64 * q ≤ s.size := by omega
  clear hq
  go_wp2_with fail
  have z0 : ((q : Int) * 64).toNat = q * 64 := by omega
  have z1 : 0 ≤ (q : Int) * 64 := by omega
  have z2 : q * 64 ≤ s.size := by omega
  have z3 : (q : Int) * 64 ≤ s.size := by omega
  obtain ⟨w2, hw2⟩ : ∃ w2, w2 = (w1.alloc (Obj.cells shaKr 87)).alloc (Obj.cells #[Value.int IntKind.u32 x0, Value.int IntKind.u32 x1, Value.int IntKind.u32 x2, Value.int IntKind.u32 x3, Value.int IntKind.u32 x4, Value.int IntKind.u32 x5, Value.int IntKind.u32 x6, Value.int IntKind.u32 x7] 172) := ⟨_, rfl⟩
  rw [← hw2]
  have HW2 := Lib.hid hw2
  clear hw2
  have hsz : s.data.toList.length = s.size := by simp
  have hps : (s.extract (q * 64) s.size).size ≤ 1000000000000 := by rw [ByteArray.size_extract]; omega
  have HSZ := Lib.hid hsz
  clear hsz
  go_region_with (go_at_call 168; refine (rest_any (s.extract (q * 64) s.size) s.size hps (by omega) _).mono ?_; rintro e w3 ⟨rfl, b3⟩)
  have hcn0 : s.size ≤ 1000000000 := hs
  obtain ⟨part, cn, L, hp0, hp1, hL, hc0, hc2, hpt⟩ := twoParts s.data.toList q (by rw [HSZ.out]; exact e2)
  have hq1 : s.extract 0 (q * 64) = ⟨(part 0).toArray⟩ := by
    rw [hp0]; apply ByteArray.ext; apply Array.toList_inj.1; rw [Lib.extract_data]; simp [Nat.mul_comm]
  have hq2 : restL (List.take (s.size - q * 64) (List.drop (q * 64) s.data.toList)) s.size = part 1 := by
    rw [hp1, Nat.mul_comm q 64, ← HSZ.out, List.take_of_length_le (by rw [List.length_drop]; exact Nat.le_refl _)]
  rw [hq1, hq2]
  have b2 : Below w.heap.size w w2 := by rw [HW2.out]; exact ext_trans b1 (ext_trans (ext_alloc _ _) (ext_alloc _ _))
  have z2' : w2.heap.size = w1.heap.size + 2 := by rw [HW2.out, size_alloc, size_alloc]
  have y3 := b3.size
  have hS0 : SumR w (w3.alloc (Obj.cells #[Value.string ⟨(part 0).toArray⟩, Value.string ⟨(part 1).toArray⟩] 9)) (w1.heap.size + 1) w1.heap.size w3.heap.size L part 0 := by
    have y2 : w2.drew.heap.size = w2.heap.size := rfl
    have q1 : w2.heap[w1.heap.size + 1]? = some (.cells shaIv.row 172 (0, 0)) := by
      rw [HW2.out, HX.out]
      have := heap_alloc_new (w1.alloc (Obj.cells shaKr 87)) (Obj.cells #[Value.int IntKind.u32 x0, Value.int IntKind.u32 x1, Value.int IntKind.u32 x2, Value.int IntKind.u32 x3, Value.int IntKind.u32 x4, Value.int IntKind.u32 x5, Value.int IntKind.u32 x6, Value.int IntKind.u32 x7] 172)
      rw [size_alloc] at this
      exact this
    have q0 : w2.heap[w1.heap.size]? = some (.cells shaKr 87 (0, 0)) := by
      rw [HW2.out]
      exact (Lib.alloc_old _ _ _ (by rw [size_alloc]; omega)).trans (heap_alloc_new _ _)
    refine ⟨?_, ?_, heap_alloc_new _ _, ext_trans b2 (ext_trans (Below.refl _ _).drew (ext_trans b3 (ext_alloc _ _)))⟩
    · exact (Lib.alloc_old _ _ _ (by omega)).trans ((b3.block _ (by omega)).trans q1)
    · exact (Lib.alloc_old _ _ _ (by omega)).trans ((b3.block _ (by omega)).trans q0)
  have hne : w3.heap.size ≠ w1.heap.size + 1 := by have : w2.drew.heap.size = w2.heap.size := rfl; omega
  have hle : w.heap.size ≤ w1.heap.size + 1 := by have := b1.size; omega
  generalize w3.alloc (Obj.cells #[Value.string ⟨(part 0).toArray⟩, Value.string ⟨(part 1).toArray⟩] 9) = w4 at hS0 ⊢
  generalize w3.heap.size = m at hS0 hne ⊢
  clear b3 b2 z2' y3 hq1 hq2 hp0 hp1 z0 z1 z2 z3 e1 e2 HW2 hps
  generalize w1.heap.size = g at hS0 hne hle ⊢
  go_simp
  go_wp2_with fail
  go_loopw [28] (fun vk wr => ∃ k : Nat, k ≤ 2 ∧ vk = .int .i64 k ∧ SumR w wr (g + 1) g m L part (cn k)) (fun vk _ => 2 - (intOf vk).toNat)
  case atStart => exact ⟨0, by omega, rfl, by rw [hc0]; exact hS0⟩
  case round =>
    obtain ⟨k, hk, rfl, hR⟩ := hrel
    by_cases hlt : k < 2
    · have hcell := hR.cell hlt
      obtain ⟨c, hpl, hc, hcn, hb⟩ := hpt k hlt
      rw [HSZ.out] at hpl
      have f0 : (k : Int) < 2 := by omega
      have HC := Lib.hid hc
      have HCN := Lib.hid hcn
      clear hc hcn hpt
      go_wp2_with fail
      obtain ⟨wo, rfl⟩ : ∃ wo : World, wo = wr := ⟨_, rfl⟩
      go_loopw [7] (fun vr wq => ∃ i : Nat, i ≤ c ∧ vr = .string ⟨((part k).drop (64 * i)).toArray⟩ ∧ SumR w wq (g + 1) g m L part (cn k + i)) (fun vr _ => strLen vr)
      case atStart => exact ⟨0, by omega, rfl, hR⟩
      case round =>
        obtain ⟨i, hi, rfl, hI⟩ := hrel
        obtain ⟨d, hd⟩ : ∃ d, d = (part k).drop (64 * i) := ⟨_, rfl⟩
        have hdl : d.length = 64 * (c - i) := by rw [hd, List.length_drop, HC.out]; omega
        rw [← hd]
        have HD := Lib.hid hd
        clear hd
        by_cases hic : i < c
        · have t0 : (!d.isEmpty) = true := by cases d with | nil => rw [List.length_nil] at hdl; omega | cons => rfl
          have t1 : d.isEmpty = false := by cases d with | nil => rw [List.length_nil] at hdl; omega | cons => rfl
          have t2 : d ≠ [] := by rintro rfl; rw [List.length_nil] at hdl; omega
          go_wp2_with fail
          refine (sha_add8 (g + 1) g _ (by show 64 ≤ d.length; omega) (by show d.length ≤ _; rw [hdl]; have := HC.out; omega) _ _ hI.st hI.ks).mono ?_
          rintro e w5 ⟨rfl, h5, b5⟩
          have hb5 := hb i hic (shaTo shaKf L shaIv (cn k + i))
          rw [show ByteArray.mk d.toArray = blk (part k) i by rw [HD.out]; rfl, hb5] at h5
          have hN := hI.next (by omega) hne hle h5 b5
          have l0 : 64 ≤ d.length := by omega
          have l1 : ByteArray.mk d.toArray = ⟨((part k).drop (64 * i)).toArray⟩ := by rw [HD.out]
          have hdr : ∀ n, (⟨d.toArray⟩ : ByteArray).extract 64 n = ⟨((d.drop 64).take (n - 64)).toArray⟩ := fun n => by
            apply ByteArray.ext; apply Array.toList_inj.1; rw [Lib.extract_data]
          have L1 := Lib.hid l1
          have HDR := Lib.hid hdr
          clear l1 hdr h5 hb5
          go_wp2_with fail
          refine ⟨⟨i + 1, by omega, ?_, hN⟩, ?_⟩
          · rw [HDR.out, HD.out, List.drop_drop, List.take_of_length_le (by rw [List.length_drop, HC.out]; omega)]
            rfl
          · rw [HDR.out]
            show ((d.drop 64).take _).length < d.length
            rw [List.length_take, List.length_drop]; omega
        · have hci : i = c := by omega
          subst hci
          have hd0 : d = [] := List.length_eq_zero_iff.1 (by omega)
          subst hd0
          go_wp2_with fail
          refine ⟨⟨k + 1, by omega, by go_num, by rw [HCN.out]; exact hI⟩, by simp [intOf]; omega⟩
    · have hk2 : k = 2 := by omega
      subst hk2
      rw [show ((2 : Nat) : Int) = 2 from rfl]
      obtain ⟨Y, hY⟩ : ∃ Y, Y = shaTo shaKf L shaIv (cn 2) := ⟨_, rfl⟩
      have hrow : wr.heap[g + 1]? = some (.cells Y.row 172 (0, 0)) := by rw [hY]; exact hR.st
      have hyl : digL Y = shaL s.data.toList := by rw [hY, hc2, hL]; rfl
      have hlow := hR.low
      have HYL := Lib.hid hyl
      clear hyl hY hR hS0 hpt hL hc2 hc0 hlt hk b1
      simp only [S8.row] at hrow
      have hlt0 := heap_lt hrow
      have hrow' : ∀ o, (wr.alloc o).heap[g + 1]? = _ := fun o => (Lib.alloc_old wr o (g + 1) hlt0).trans hrow
      clear hrow hlt0
      go_wp2_with (refine wpList_load_row rfl 172 _ rfl (g + 1) rfl 172 _ _ _ (hrow' _) Tryz.underlying172 rfl (by kernel_rfl) ?_)
      have hA0 : (wr.alloc (Obj.cells (outA Y 0) 177)).heap[wr.heap.size]? = some (.cells (outA Y 0) 177 (0, 0)) := heap_alloc_new _ _
      obtain ⟨g2, hg2⟩ : ∃ g2, g2 = wr.heap.size := ⟨_, rfl⟩
      have hbel : Below g2 wr (wr.alloc (Obj.cells (outA Y 0) 177)) := by rw [hg2]; exact ext_alloc _ _
      have hA1 : outA Y 0 = #[Value.int IntKind.u8 0, Value.int IntKind.u8 0, Value.int IntKind.u8 0, Value.int IntKind.u8 0, Value.int IntKind.u8 0, Value.int IntKind.u8 0, Value.int IntKind.u8 0, Value.int IntKind.u8 0, Value.int IntKind.u8 0, Value.int IntKind.u8 0, Value.int IntKind.u8 0, Value.int IntKind.u8 0, Value.int IntKind.u8 0, Value.int IntKind.u8 0, Value.int IntKind.u8 0, Value.int IntKind.u8 0, Value.int IntKind.u8 0, Value.int IntKind.u8 0, Value.int IntKind.u8 0, Value.int IntKind.u8 0, Value.int IntKind.u8 0, Value.int IntKind.u8 0, Value.int IntKind.u8 0, Value.int IntKind.u8 0, Value.int IntKind.u8 0, Value.int IntKind.u8 0, Value.int IntKind.u8 0, Value.int IntKind.u8 0, Value.int IntKind.u8 0, Value.int IntKind.u8 0, Value.int IntKind.u8 0, Value.int IntKind.u8 0] := rfl
      rw [← hA1, ← hg2]
      rw [← hg2] at hA0
      have HG2 := Lib.hid hg2
      clear hg2 hA1 hrow'
      go_wp2_with fail
      go_loopw [41] (fun vi wq => ∃ i : Nat, i ≤ 8 ∧ vi = .int .i64 i ∧ wq.heap[g2]? = some (.cells (outA Y i) 177 (0, 0)) ∧ Below g2 wr wq) (fun vi _ => 8 - (intOf vi).toNat)
      case atStart => exact ⟨0, by omega, rfl, hA0, hbel⟩
      case round =>
        obtain ⟨i, hi, rfl, hA, hB⟩ := hrel
        by_cases hlt : i < 8
        · have hix := idx8 Y hlt
          simp only [S8.row] at hix
          have j0 : (i : Int) < 8 := by omega
          obtain ⟨v0, c0⟩ := outA_at Y hlt (j := 0) (by omega)
          obtain ⟨v1, c1⟩ := outA_at Y hlt (j := 1) (by omega)
          obtain ⟨v2, c2⟩ := outA_at Y hlt (j := 2) (by omega)
          obtain ⟨v3, c3⟩ := outA_at Y hlt (j := 3) (by omega)
          have k0 : wr.cell? ⟨g2, 4 * i, none⟩ = some (.int .u8 v0) := (cell_of_row wr g2 _ _ _ _ hA).trans c0
          have k1 := (cell_of_row wr g2 _ _ _ _ hA).trans c1
          have k2 := (cell_of_row wr g2 _ _ _ _ hA).trans c2
          have k3 := (cell_of_row wr g2 _ _ _ _ hA).trans c3
          have hf : ∀ j, wr.frozen? ⟨g2, j, none⟩ = false := fun j => frozen_of_row hA
          have n0 : (4 * (i : Int)).toNat = 4 * i := by omega
          have n1 : (4 * (i : Int) + 1).toNat = 4 * i + 1 := by omega
          have n2 : (4 * (i : Int) + 2).toNat = 4 * i + 2 := by omega
          have n3 : (4 * (i : Int) + 3).toNat = 4 * i + 3 := by omega
          have p0 : 0 ≤ 4 * (i : Int) := by omega
          have p1 : 0 ≤ 4 * (i : Int) + 1 := by omega
          have p2 : 0 ≤ 4 * (i : Int) + 2 := by omega
          have p3 : 0 ≤ 4 * (i : Int) + 3 := by omega
          have HA := Lib.hid hA
          clear hA hA0 c0 c1 c2 c3
          go_wp2_with fail
          refine ⟨⟨i + 1, by omega, by go_num, ?_, ?_⟩, by simp [intOf]; omega⟩
          · rw [← outA_set Y hlt]
            exact heap_setCell_same _ g2 _ _ _ _ (heap_setCell_same _ g2 _ _ _ _ (heap_setCell_same _ g2 _ _ _ _ (heap_setCell_same _ g2 _ _ _ _ HA.out)))
          · exact (((hB.setCell (by simp) _).setCell (by simp) _).setCell (by simp) _).setCell (by simp) _
        · have hi8 : i = 8 := by omega
          subst hi8
          rw [show ((8 : Nat) : Int) = 8 from rfl]
          have hcv := run_convert_bytes_back (P := Tryz.prog) wr 90 9 5 ⟨g2, 0, none⟩ 32 (digL Y) Tryz.underlying90 Tryz.underlying5 Tryz.underlying9 (Lib.bytes_of_row hA (by rw [digL_cells, digL_len]; exact List.take_of_length_le (by show 32 ≤ 32; exact Nat.le_refl _)))
          rw [digL_len] at hcv
          go_wp2_with fail
          go_ret
          refine ⟨by rw [HYL.out]; rfl, ?_⟩
          have e := HG2.out
          refine hlow.trans (hB.mono ?_)
          have := hlow.size
          omega

end Go.Proofs.YtkinlobfdkeamaaGreatDoor

namespace Go.Proofs.YtkinlobfdkeamaaGreatDoor
open Go.RowKit Go.Maps

/-- The text of a primitive. -/
def makeP (f : Form) (raw : List UInt8) : List UInt8 := f.str ++ (encL (List.replicate f.lead 0 ++ raw)).drop f.lead

theorem form_lookup {w : World} {b : Nat} (h : w.ownsMap Tryz.prog 3 formR b 8 formD) (f : Form) (hf : f ∈ allForms) :
    (Instr.lookup 179 (.map (some b)) (.int .i64 (f.code : Int)) true).run Tryz.prog w = .ok (.tuple #[.agg #[.string ⟨f.str.toArray⟩, .int .i64 (f.raw : Int)], .bool true]) w := by
  have hz : (zeroValue 157).run Tryz.prog w = .ok zeroF w := by kernel_rfl
  have hwf : (Lit.int .i64 (f.code : Int)).wf = true := by
    simp only [allForms, List.mem_cons, List.not_mem_nil, or_false] at hf
    rcases hf with rfl | rfl | rfl | rfl | rfl | rfl | rfl | rfl <;> decide
  obtain ⟨v, ps, hrun, hv⟩ := h.look_ok formK Tryz.underlying179 hz (formR_at [] 0) (keyOf_int_mk Tryz.underlying3 hwf)
  rw [formD_hasF f hf] at hrun
  rw [formD_at f hf] at hv
  obtain ⟨c, rfl⟩ := formR_inv v _ hv
  obtain ⟨g, hg, h1, h2⟩ := entry_is (x := (f.code : Int)) (c := c) (formD_hasF f hf) (fun zd => formD_at f hf zd) hv
  have : g = f := by
    have h3 : g.code = f.code := by omega
    simp only [allForms, List.mem_cons, List.not_mem_nil, or_false] at hf hg
    rcases hf with rfl | rfl | rfl | rfl | rfl | rfl | rfl | rfl <;> rcases hg with rfl | rfl | rfl | rfl | rfl | rfl | rfl | rfl <;> first | rfl | (exfalso; revert h3; decide)
  subst this
  rw [hrun, h2]
  rfl

theorem encL_len_aux : ∀ (m : Nat) (l : List UInt8), l.length = 3 * m → (encL l).length = 4 * m := by
  intro m
  induction m with
  | zero =>
    intro l hl
    have : l = [] := List.length_eq_zero_iff.1 (by omega)
    subst this
    rfl
  | succ m ih =>
    intro l hl
    match l, hl with
    | a :: b :: c :: r, hl =>
      have := ih r (by rw [List.length_cons, List.length_cons, List.length_cons] at hl; omega)
      rw [encL, List.length_append, this]
      show 4 + 4 * m = _
      omega
    | [], hl => simp at hl
    | [_], hl => simp at hl; omega
    | [_, _], hl => simp at hl; omega
theorem encL_len (l : List UInt8) (h3 : l.length % 3 = 0) : 3 * (encL l).length = 4 * l.length := by
  have := encL_len_aux (l.length / 3) l (by omega)
  omega
theorem size_drew (w : World) : w.drew.heap.size = w.heap.size := rfl
structure EncW (w0 w : World) (n0 : Nat) (f : Form) (raw : List UInt8) : Prop where
  p : w.heap[n0]? = some (.cells #[.int .i64 (f.code : Int), .string ⟨raw.toArray⟩] 83 (0, 0))
  low : Below w0.heap.size w0 w
theorem EncW.later {w0 w w' : World} {n0 : Nat} {f : Form} {raw : List UInt8} (h : EncW w0 w n0 f raw) (b : Below w.heap.size w w') : EncW w0 w' n0 f raw :=
  ⟨(b.block _ (Array.getElem?_eq_some_iff.1 h.p).1).trans h.p, ext_trans h.low b⟩
theorem EncW.both {w0 w : World} {n0 : Nat} {f : Form} {raw : List UInt8} (h : EncW w0 w n0 f raw) : w.cell? ⟨n0, 0, none⟩ = some (.int .i64 (f.code : Int)) ∧ w.cell? ⟨n0, 1, none⟩ = some (.string ⟨raw.toArray⟩) ∧ EncW w0 w n0 f raw :=
  ⟨cell_of_row _ _ 0 _ _ _ h.p, cell_of_row _ _ 1 _ _ _ h.p, h⟩
theorem EncW.both' {w0 w w' : World} {n0 : Nat} {f : Form} {raw : List UInt8} {A B : Prop} (h : A ∧ B ∧ EncW w0 w n0 f raw) (b : Below w.heap.size w w') : w'.cell? ⟨n0, 0, none⟩ = some (.int .i64 (f.code : Int)) ∧ w'.cell? ⟨n0, 1, none⟩ = some (.string ⟨raw.toArray⟩) ∧ EncW w0 w' n0 f raw :=
  (h.2.2.later b).both
theorem heldE {w0 W w' : World} {n0 : Nat} {f : Form} {raw : List UInt8} {a : Addr} {u : Value} (h : W.cell? a = some u ∧ EncW w0 W n0 f raw) (bb : Below W.heap.size W w') : w'.cell? a = some u ∧ EncW w0 w' n0 f raw :=
  ⟨cellLater bb h.1, h.2.later bb⟩

structure EncX (w0 w : World) (n0 n4 : Nat) (f : Form) (raw : List UInt8) : Prop where
  p : w.heap[n0]? = some (.cells #[.int .i64 (f.code : Int), .string ⟨raw.toArray⟩] 83 (0, 0))
  q : w.heap[n4]? = some (.cells #[.string ⟨f.str.toArray⟩, .int .i64 (f.raw : Int)] 157 (0, 0))
  low : Below w0.heap.size w0 w
theorem EncX.later {w0 w w' : World} {n0 n4 : Nat} {f : Form} {raw : List UInt8} (h : EncX w0 w n0 n4 f raw) (b : Below w.heap.size w w') : EncX w0 w' n0 n4 f raw :=
  ⟨(b.block _ (Array.getElem?_eq_some_iff.1 h.p).1).trans h.p, (b.block _ (Array.getElem?_eq_some_iff.1 h.q).1).trans h.q, ext_trans h.low b⟩
theorem EncX.all {w0 w : World} {n0 n4 : Nat} {f : Form} {raw : List UInt8} (h : EncX w0 w n0 n4 f raw) : w.cell? ⟨n0, 1, none⟩ = some (.string ⟨raw.toArray⟩) ∧ w.cell? ⟨n4, 0, none⟩ = some (.string ⟨f.str.toArray⟩) ∧ w.cell? ⟨n4, 1, none⟩ = some (.int .i64 (f.raw : Int)) ∧ EncX w0 w n0 n4 f raw :=
  ⟨cell_of_row _ _ 1 _ _ _ h.p, cell_of_row _ _ 0 _ _ _ h.q, cell_of_row _ _ 1 _ _ _ h.q, h⟩
theorem EncX.all' {w0 w w' : World} {n0 n4 : Nat} {f : Form} {raw : List UInt8} {A B C : Prop} (h : A ∧ B ∧ C ∧ EncX w0 w n0 n4 f raw) (b : Below w.heap.size w w') : w'.cell? ⟨n0, 1, none⟩ = some (.string ⟨raw.toArray⟩) ∧ w'.cell? ⟨n4, 0, none⟩ = some (.string ⟨f.str.toArray⟩) ∧ w'.cell? ⟨n4, 1, none⟩ = some (.int .i64 (f.raw : Int)) ∧ EncX w0 w' n0 n4 f raw :=
  (h.2.2.2.later b).all
theorem heldS {w0 W : World} {n0 g : Nat} {f : Form} {raw : List UInt8} (h : EncW w0 W n0 f raw) (hne : n0 ≠ g) (hB : w0.heap.size ≤ g) (u v : Value) :
    ((W.setCell ⟨g, 0, none⟩ u).setCell ⟨g, 1, none⟩ v).cell? ⟨n0, 0, none⟩ = some (.int .i64 (f.code : Int)) ∧ EncW w0 ((W.setCell ⟨g, 0, none⟩ u).setCell ⟨g, 1, none⟩ v) n0 f raw := by
  have hp : ((W.setCell ⟨g, 0, none⟩ u).setCell ⟨g, 1, none⟩ v).heap[n0]? = some (.cells #[.int .i64 (f.code : Int), .string ⟨raw.toArray⟩] 83 (0, 0)) := by
    rw [Below.heap_setCell _ _ _ _ (fun e => hne e), Below.heap_setCell _ _ _ _ (fun e => hne e)]; exact h.p
  exact ⟨cell_of_row _ _ 0 _ _ _ hp, hp, (h.low.setCell hB _).setCell hB _⟩

set_option maxHeartbeats 4000000 in
set_option maxRecDepth 100000 in
theorem enc_any (f : Form) (hf : f ∈ allForms) (raw : List UInt8) (hr : raw.length = f.raw) (w : World) : Calls Tryz.prog 165 #[.agg #[.int .i64 (f.code : Int), .string ⟨raw.toArray⟩]] w fun e w' => e = .returned (.tuple #[.string ⟨(makeP f raw).toArray⟩, .int .i64 0]) ∧ Below w.heap.size w w' := by
  obtain ⟨r1, r2, r3, r4, r5, r6, r7⟩ := form_facts f hf
  have hlead := fun w => lead_any f r1 w
  unfold Form.val at hlead
  have hrep := fun w => Tryz.strings_Repeat ⟨#[0]⟩ f.lead w (by omega) (by rw [show (⟨#[0]⟩ : ByteArray).size = 1 from rfl]; omega)
  rw [show (⟨#[0]⟩ : ByteArray).data.toList = [0] from rfl, repeat_one] at hrep
  obtain ⟨Z, hZ⟩ : ∃ Z, Z = List.replicate f.lead (0 : UInt8) := ⟨_, rfl⟩
  rw [← hZ] at hrep
  have hZl : Z.length = f.lead := by rw [hZ, List.length_replicate]
  have hcat : (⟨Z.toArray⟩ : ByteArray) ++ (⟨raw.toArray⟩ : ByteArray) = ⟨(Z ++ raw).toArray⟩ := by
    apply ByteArray.ext; apply Array.toList_inj.1
    rw [ByteArray.data_append, Array.toList_append]
  have h3 : (f.lead + f.raw) % 3 = 0 := by unfold Form.lead; omega
  have henc := fun w => b64_encode (Z ++ raw) (by rw [List.length_append, hZl, hr]; omega) (by rw [List.length_append, hZl, hr]; exact h3) w
  rw [← hcat] at henc
  have hel := encL_len (Z ++ raw) (by rw [List.length_append, hZl, hr]; exact h3)
  rw [List.length_append, hZl, hr] at hel
  have hmk : makeP f raw = f.str ++ (encL (Z ++ raw)).drop f.lead := by rw [hZ]; rfl
  obtain ⟨T, hT⟩ : ∃ T, T = encL (Z ++ raw) := ⟨_, rfl⟩
  rw [← hT] at henc hel hmk
  have HMK := Lib.hid hmk
  have hcap : ¬ 9223372036854775807 < f.lead + f.raw := by omega
  clear hcat hmk hT hZ
  go_enter Tryz.func165, Tryz.ntmps165
  go_wp2_with fail
  have hE : EncW w (w.alloc (.cells #[.int .i64 (f.code : Int), .string ⟨raw.toArray⟩] 83)) w.heap.size f raw := ⟨heap_alloc_new _ _, ext_alloc _ _⟩
  generalize w.alloc (.cells #[.int .i64 (f.code : Int), .string ⟨raw.toArray⟩] 83) = w1 at hE ⊢
  have c0 : w1.drew.cell? ⟨w.heap.size, 0, none⟩ = some (.int .i64 (f.code : Int)) := cell_of_row _ _ 0 _ _ _ hE.p
  have hE' : EncW w w1.drew w.heap.size f raw := ⟨hE.p, hE.low.drew⟩
  have hw1 : w.heap.size < w1.heap.size := (Array.getElem?_eq_some_iff.1 hE.p).1
  have hE2 : ∀ o, (w1.alloc o).drew.cell? ⟨w.heap.size, 0, none⟩ = some (.int .i64 (f.code : Int)) ∧ EncW w (w1.alloc o).drew w.heap.size f raw := fun o => heldE ⟨c0, hE'⟩ (ext_alloc w1.drew o)
  go_region_held3 (fun w' => w'.cell? ⟨w.heap.size, 0, none⟩ = some (.int .i64 (f.code : Int)) ∧ EncW w w' w.heap.size f raw)
    (first | exact ⟨c0, hE'⟩ | exact hE2 _ | exact heldE ⟨c0, hE'⟩ bb | exact heldE (hE2 _) bb | exact heldE (by assumption) bb | exact heldE ⟨c0, hE'⟩ (ext_trans bb (ext_alloc _ _)) | exact heldS (heldE (hE2 _) bb).2 (by omega) (by omega) _ _ | go_keep)
    (first
      | (go_at_call 173; refine (forms_any _).mono ?_; rintro e w' ⟨rfl, hown, bb⟩; have hlk := form_lookup hown f hf; have hlk2 := fun o => form_lookup (hown.kept (World.grownBy_alloc w' o none) (by simp)) f hf; simp only [size_drew, size_alloc] at hlk hlk2
         try (have hz := (bb.block w1.heap.size (by rw [size_drew, size_alloc]; omega)).trans (heap_alloc_new w1 (.cells #[.string ⟨#[]⟩, .int .i64 0] 157))
              have z0 : w'.cell? ⟨w1.heap.size, 0, none⟩ = some (.string ⟨#[]⟩) := cell_of_row _ _ 0 _ _ _ hz
              have z1 : w'.cell? ⟨w1.heap.size, 1, none⟩ = some (.int .i64 0) := cell_of_row _ _ 1 _ _ _ hz
              have zf : ∀ j, w'.frozen? ⟨w1.heap.size, j, none⟩ = false := fun j => frozen_of_row hz)))
  all_goals go_split_ands
  all_goals clear c0 hE' hE2
  all_goals
    first
      | (have hq := heap_alloc_new w' (Obj.cells #[.string ⟨f.str.toArray⟩, .int .i64 (f.raw : Int)] 157)
         have hEW : EncW w (w'.alloc (.cells #[.string ⟨f.str.toArray⟩, .int .i64 (f.raw : Int)] 157)) w.heap.size f raw := by assumption
         clear hlk hlk2 hown
         generalize w'.alloc (.cells #[.string ⟨f.str.toArray⟩, .int .i64 (f.raw : Int)] 157) = w5 at hq hEW ⊢
         generalize w'.heap.size = n4 at hq ⊢)
      | (have hq := Lib.heap_setCell_same (i := 1) (Lib.heap_setCell_same (i := 0) hz (Value.string ⟨f.str.toArray⟩)) (Value.int .i64 (f.raw : Int))
         have hEW : EncW w ((w'.setCell ⟨w1.heap.size, 0, none⟩ (Value.string ⟨f.str.toArray⟩)).setCell ⟨w1.heap.size, 1, none⟩ (Value.int .i64 (f.raw : Int))) w.heap.size f raw := by assumption
         clear hlk hlk2 hown hz z0 z1 zf
         change ((w'.setCell ⟨w1.heap.size, 0, none⟩ (Value.string ⟨f.str.toArray⟩)).setCell ⟨w1.heap.size, 1, none⟩ (Value.int .i64 (f.raw : Int))).heap[w1.heap.size]? = some (.cells #[.string ⟨f.str.toArray⟩, .int .i64 (f.raw : Int)] 157 (0, 0)) at hq
         generalize ((w'.setCell ⟨w1.heap.size, 0, none⟩ (Value.string ⟨f.str.toArray⟩)).setCell ⟨w1.heap.size, 1, none⟩ (Value.int .i64 (f.raw : Int))) = w5 at hq hEW ⊢
         generalize w1.heap.size = n4 at hq ⊢)
  all_goals
    have hW : EncX w w5 w.heap.size n4 f raw := ⟨hEW.p, hq, hEW.low⟩
    have e1 : w5.cell? ⟨w.heap.size, 1, none⟩ = some (.string ⟨raw.toArray⟩) := cell_of_row _ _ 1 _ _ _ hEW.p
    have e3 : w5.cell? ⟨n4, 1, none⟩ = some (.int .i64 (f.raw : Int)) := cell_of_row _ _ 1 _ _ _ hq
    have t0 : ((raw.length : Int) != (f.raw : Int)) = false := by rw [hr]; simp
    clear hq hEW
    go_wp2_with fail
    have hW1 : EncX w w5.drew w.heap.size n4 f raw := ⟨hW.p, hW.q, hW.low.drew⟩
    clear e1 e3 hE
    go_region_held3 (fun w' => w'.cell? ⟨w.heap.size, 1, none⟩ = some (.string ⟨raw.toArray⟩) ∧ w'.cell? ⟨n4, 0, none⟩ = some (.string ⟨f.str.toArray⟩) ∧ w'.cell? ⟨n4, 1, none⟩ = some (.int .i64 (f.raw : Int)) ∧ EncX w w' w.heap.size n4 f raw)
      (first | exact hW1.all | exact (hW1.later bb).all | exact EncX.all' (by assumption) bb | go_keep)
      (first
        | (go_at_call 154; refine (hlead _).mono ?_; rintro e w' ⟨rfl, bb⟩)
        | (go_at_call 153; refine (hrep _).mono ?_; rintro e w' ⟨rfl, bb⟩)
        | (go_at_call 186; refine (henc _).mono ?_; rintro e w' ⟨rfl, bb⟩))
    go_split_ands
    have hW2 : EncX w w' w.heap.size n4 f raw := by assumption
    have hW3 : EncX w w'.drew w.heap.size n4 f raw := ⟨hW2.p, hW2.q, hW2.low.drew⟩
    go_simp
    go_wp2_with fail
    have m0 : f.lead ≤ T.length := by omega
    have m1 : (f.lead : Int) ≤ T.length := by omega
    have hcap2 : ¬ 9223372036854775807 < f.str.length + (T.length - f.lead) := by omega
    go_region_held3 (fun w' => w'.cell? ⟨w.heap.size, 1, none⟩ = some (.string ⟨raw.toArray⟩) ∧ w'.cell? ⟨n4, 0, none⟩ = some (.string ⟨f.str.toArray⟩) ∧ w'.cell? ⟨n4, 1, none⟩ = some (.int .i64 (f.raw : Int)) ∧ EncX w w' w.heap.size n4 f raw)
      (first | exact hW3.all | exact (hW3.later b9).all | exact EncX.all' (by assumption) b9 | go_keep)
      (first
        | (go_at_call 154; refine (hlead _).mono ?_; rintro e w9 ⟨rfl, b9⟩))
    have hlow := (hW3.later b9).low
    go_simp
    go_wp2_with fail
    go_ret2
    refine ⟨?_, hlow⟩
    have hfin : (⟨f.str.toArray⟩ : ByteArray) ++ (⟨T.toArray⟩ : ByteArray).extract f.lead T.length = ⟨(makeP f raw).toArray⟩ := by
      apply ByteArray.ext; apply Array.toList_inj.1
      rw [ByteArray.data_append, Array.toList_append, Lib.extract_data, HMK.out]
      show f.str ++ List.take (T.length - f.lead) (List.drop f.lead T) = _
      rw [List.take_of_length_le (by rw [List.length_drop]; exact Nat.le_refl _)]
    rw [← hfin]
    rfl

set_option maxRecDepth 100000 in
theorem make_any (f : Form) (hf : f ∈ allForms) (raw : List UInt8) (hr : raw.length = f.raw) (w : World) : Calls Tryz.prog 144 #[.int .i64 (f.code : Int), .string ⟨raw.toArray⟩] w fun e w' => e = .returned (.string ⟨(makeP f raw).toArray⟩) ∧ Below w.heap.size w w' := by
  go_enter Tryz.func144, Tryz.ntmps144
  go_wp2_with fail
  refine (enc_any f hf raw hr _).mono ?_
  rintro e w1 ⟨rfl, b1⟩
  go_wp2_with fail
  go_ret
  exact ⟨rfl, b1⟩

def fDigest : Form := ⟨1, [69], 32⟩
/-- The digest of bytes. -/
def digP (l : List UInt8) : List UInt8 := makeP fDigest (shaL l)
theorem shaL_len (l : List UInt8) : (shaL l).length = 32 := rfl

set_option maxRecDepth 100000 in
theorem said_digest (l : List UInt8) (hl : l.length ≤ 1000000000) (w : World) : Calls Tryz.prog 114 #[.string ⟨l.toArray⟩] w fun e w' => e = .returned (.string ⟨(digP l).toArray⟩) ∧ Below w.heap.size w w' := by
  have hm := fun w => make_any fDigest (.head _) (shaL l) (shaL_len l) w
  have hs := fun w => hash_sum ⟨l.toArray⟩ hl w
  rw [show (⟨l.toArray⟩ : ByteArray).data.toList = l from rfl] at hs
  unfold digP
  generalize makeP fDigest (shaL l) = M at hm ⊢
  generalize shaL l = D at hm hs
  rw [show (fDigest.code : Int) = 1 from rfl] at hm
  go_enter Tryz.func114, Tryz.ntmps114
  go_wp2_with fail
  refine (hs _).mono ?_
  rintro e w1 ⟨rfl, b1⟩
  go_wp2_with fail
  refine (hm _).mono ?_
  rintro e w2 ⟨rfl, b2⟩
  go_wp2_with fail
  go_ret
  exact ⟨rfl, ext_trans b1 b2⟩

end Go.Proofs.YtkinlobfdkeamaaGreatDoor

