/- The kit's thresholds. Copies of lists: append(nil, l..). The reference's copy of a threshold. -/
import Derived.Test.YtkinlobfdkeamaaGreatDoorV23
import Derived.Deep.RegionLaw
namespace Go.Proofs.YtkinlobfdkeamaaGreatDoor
open Go.RowKit

def intAt (cur : Array Value) (j : Nat) : Int := match cur[j]? with
  | some (.int _ z) => z
  | _ => 0
def fracsOf (cur : Array Value) (k len : Nat) : List FracV := (List.range len).map fun i => (intAt cur ((k + i) * 2), intAt cur ((k + i) * 2 + 1))
/-- The first m elements of a row are fractions. -/
def IntRow (cur : Array Value) (m : Nat) : Prop := ∀ j, j < m * 2 → ∃ z, cur[j]? = some (.int .i64 z)
theorem IntRow.at {cur : Array Value} {m j : Nat} (h : IntRow cur m) (hj : j < m * 2) : cur[j]? = some (.int .i64 (intAt cur j)) := by
  obtain ⟨z, e⟩ := h j hj
  unfold intAt
  rw [e]
theorem IntRow.set {cur : Array Value} {m : Nat} (h : IntRow cur m) (j : Nat) (z : Int) : IntRow (cur.setIfInBounds j (.int .i64 z)) m := by
  intro i hi
  rw [Array.getElem?_setIfInBounds]
  obtain ⟨y, e⟩ := h i hi
  split
  · rename_i e2
    subst e2
    rw [if_pos (by have := (Array.getElem?_eq_some_iff.1 e).1; exact this)]
    exact ⟨z, rfl⟩
  · exact ⟨y, e⟩

theorem fracs_of_row {w : World} {g : Nat} {cur : Array Value} {T : TypeId} {m : Nat} (hr : w.heap[g]? = some (.cells cur T (0, 0))) (hi : IntRow cur m) (k len c : Nat) (hk : k + len ≤ m) (hc : len ≤ c) (hl : len ≤ 1000000) : Fracs w (.slice (some ⟨g, k * 2, none⟩) len c) (fracsOf cur k len) := by
  have hlen : (fracsOf cur k len).length = len := by simp [fracsOf]
  unfold Fracs
  rw [hlen]
  refine ⟨_, _, rfl, hc, hl, fun i hil => ⟨_, rfl, ?_⟩⟩
  have hg : (fracsOf cur k len).getD i (0, 0) = (intAt cur ((k + i) * 2), intAt cur ((k + i) * 2 + 1)) := by
    rw [List.getD_eq_getElem?_getD]
    simp [fracsOf, hil]
  dsimp only
  rw [hg]
  have ha : (⟨g, k * 2, none⟩ : Addr).add (i * 2) = ⟨g, (k + i) * 2, none⟩ := by
    unfold Addr.add
    split <;> simp_all <;> omega
  rw [ha]
  have hki : k + i < m := by omega
  have e1 := IntRow.at hi (j := (k + i) * 2) (by omega)
  have e2 := IntRow.at hi (j := (k + i) * 2 + 1) (by omega)
  exact ⟨(cell_of_row _ _ _ _ _ _ hr).trans e1, (cell_of_row _ _ _ _ _ _ hr).trans e2⟩

theorem kFrac : (Tryz.prog.info? 93).map (fun i => (i.zero, i.size, i.bytes)) = some (some (.agg #[.int .i64 0, .int .i64 0]), 2, 16) := by kernel_rfl

/-- The row of weights while it grows. -/
structure ThrL (D : Nat) (A : Option Addr) (n c : Nat) (w0 w : World) (v : Value) (m : Nat) : Prop where
  own : ∃ xs : List Value, w.ownsRow w0.heap.size 93 2 v m xs ∧ ∀ u ∈ xs, ∃ z, u = .int .i64 z
  res : w.heap[w0.heap.size]? = some (.cells #[.int .i64 0, .slice none 0 0] 31 (0, 0))
  kit : KitW D A n c w0 w

theorem ThrL.apart {D : Nat} {A : Option Addr} {n c : Nat} {w0 w : World} {v : Value} {m : Nat} (h : ThrL D A n c w0 w v m) : v.ownBlock ≠ some w0.heap.size := by
  intro e
  obtain ⟨xs, ho, _⟩ := h.own
  rcases ho.2 with ⟨rfl, _⟩ | ⟨g, cap, cur, rfl, hg, hh, _⟩
  · exact absurd e (by simp [Value.ownBlock])
  · have : g = w0.heap.size := by simpa [Value.ownBlock] using e
    subst this
    have h2 := h.res
    rw [hh] at h2
    injection h2 with h2
    injection h2 with _ h3
    exact absurd h3 (by decide)

/-- The row of weights when it is whole. -/
structure ThrR (D : Nat) (A : Option Addr) (n c : Nat) (w0 w : World) (g cap keys : Nat) : Prop where
  row : ∃ cur, w.heap[g]? = some (.cells cur 93 (0, 0)) ∧ IntRow cur keys
  res : w.heap[w0.heap.size]? = some (.cells #[.int .i64 0, .slice none 0 0] 31 (0, 0))
  low : w0.heap.size < g
  kit : KitW D A n c w0 w
theorem ThrR.step {D : Nat} {A : Option Addr} {n c : Nat} {w0 w w' : World} {g cap keys : Nat} (h : ThrR D A n c w0 w g cap keys) (hD : D < w0.heap.size) (k : KitW D A n c w w') : ThrR D A n c w0 w' g cap keys := by
  obtain ⟨cur, h1, h2⟩ := h.row
  have hl := h.low
  exact ⟨⟨cur, k.b.row (by omega) h1, h2⟩, k.b.row (by omega) h.res, hl, h.kit.trans k⟩
theorem ThrR.later {D : Nat} {A : Option Addr} {n c : Nat} {w0 w w' : World} {g cap keys : Nat} (h : ThrR D A n c w0 w g cap keys) (k : Below w.heap.size w w') : ThrR D A n c w0 w' g cap keys := by
  obtain ⟨cur, h1, h2⟩ := h.row
  exact ⟨⟨cur, rowLater k h1, h2⟩, rowLater k h.res, h.low, h.kit.later k⟩
theorem ThrR.cell {D : Nat} {A : Option Addr} {n c : Nat} {w0 w : World} {g cap keys : Nat} (h : ThrR D A n c w0 w g cap keys) (j : Nat) (hj : j < keys * 2) : (∃ z : Int, w.cell? ⟨g, j, none⟩ = some (.int .i64 z)) ∧ w.frozen? ⟨g, j, none⟩ = false := by
  obtain ⟨cur, h1, h2⟩ := h.row
  obtain ⟨z, e⟩ := h2 j hj
  exact ⟨⟨z, (cell_of_row _ _ j _ _ _ h1).trans e⟩, frozen_of_row h1⟩
theorem ThrR.store {D : Nat} {A : Option Addr} {n c : Nat} {w0 w : World} {g cap keys : Nat} (h : ThrR D A n c w0 w g cap keys) (h0 : Dice D A n c w0) (j : Nat) (z : Int) : ThrR D A n c w0 (w.setCell ⟨g, j, none⟩ (.int .i64 z)) g cap keys := by
  obtain ⟨cur, h1, h2⟩ := h.row
  have hl := h.low
  exact ⟨⟨_, heap_setCell_same _ _ _ _ _ _ h1, h2.set j z⟩, by rw [heap_setCell_other _ _ _ _ (show w0.heap.size ≠ g by omega)]; exact h.res, hl, h.kit.setCell h0 (by omega) j _⟩

theorem thr_one {D : Nat} {A : Option Addr} {n c : Nat} {w0 W : World} {g cap i k : Nat} (hR : ThrR D A n c w0 W g cap i) (_hD : D < w0.heap.size) (hk : k = W.heap.size) (hcap : i ≤ cap) (hi : i ≤ 1000) :
    ∃ ws : List (List FracV), FirmT w0.heap.size ((W.alloc (.cells #[.slice (some ⟨g, 0, none⟩) i cap] 56)).setRow w0.heap.size #[.int .i64 0, .slice (some ⟨k, 0, none⟩) 1 1]) (fun W' => Fracss W' (.slice (some ⟨k, 0, none⟩) 1 1) ws) := by
  have hnew := hA1_at W (.cells #[.slice (some ⟨g, 0, none⟩) i cap] 56) hk
  have hR6 := hR.later (ext_alloc _ (.cells #[.slice (some ⟨g, 0, none⟩) i cap] 56))
  obtain ⟨cur6, q1, q2⟩ := hR6.row
  have hwl := hR.kit.b.size
  have hwl3 := krow_lt hR.res
  have hgl := hR.low
  refine ⟨[fracsOf cur6 0 i], fun W2 hW => ⟨fun _ => .slice (some ⟨g, 0, none⟩) i cap, ?_, fun j hj => ?_⟩⟩
  · exact row1_one (hW _ _ _ (by omega) (Or.inr rfl) ((setRow_other _ _ _ _ (by omega)).trans hnew))
  · have : j = 0 := by simpa using hj
    subst this
    exact fracs_of_row (hW _ _ _ (by omega) (Or.inl rfl) ((setRow_other _ _ _ _ (by omega)).trans q1)) q2 0 i cap (by omega) hcap (by omega)

theorem thr_two {D : Nat} {A : Option Addr} {n c : Nat} {w0 W : World} {g cap i k m : Nat} (hR : ThrR D A n c w0 W g cap i) (_hD : D < w0.heap.size) (hk : k = W.heap.size) (hm : m ≤ i) (hcap : i ≤ cap) (hi : i ≤ 1000) :
    ∃ ws : List (List FracV), FirmT w0.heap.size ((W.alloc (.cells #[.slice (some ⟨g, 0, none⟩) m m, .slice (some ⟨g, m * 2, none⟩) (i - m) (cap - m)] 56)).setRow w0.heap.size #[.int .i64 0, .slice (some ⟨k, 0, none⟩) 2 2]) (fun W' => Fracss W' (.slice (some ⟨k, 0, none⟩) 2 2) ws) := by
  have hnew := hA1_at W (.cells #[.slice (some ⟨g, 0, none⟩) m m, .slice (some ⟨g, m * 2, none⟩) (i - m) (cap - m)] 56) hk
  have hR6 := hR.later (ext_alloc _ (.cells #[.slice (some ⟨g, 0, none⟩) m m, .slice (some ⟨g, m * 2, none⟩) (i - m) (cap - m)] 56))
  obtain ⟨cur6, q1, q2⟩ := hR6.row
  have hwl := hR.kit.b.size
  have hwl3 := krow_lt hR.res
  have hgl := hR.low
  refine ⟨[fracsOf cur6 0 m, fracsOf cur6 m (i - m)], fun W2 hW => ⟨fun j => if j = 0 then .slice (some ⟨g, 0, none⟩) m m else .slice (some ⟨g, m * 2, none⟩) (i - m) (cap - m), ?_, fun j hj => ?_⟩⟩
  · exact row1_two (hW _ _ _ (by omega) (Or.inr rfl) ((setRow_other _ _ _ _ (by omega)).trans hnew))
  · have : j = 0 ∨ j = 1 := by simp at hj; omega
    rcases this with rfl | rfl
    · exact fracs_of_row (hW _ _ _ (by omega) (Or.inl rfl) ((setRow_other _ _ _ _ (by omega)).trans q1)) q2 0 m m (by omega) (Nat.le_refl _) (by omega)
    · exact fracs_of_row (hW _ _ _ (by omega) (Or.inl rfl) ((setRow_other _ _ _ _ (by omega)).trans q1)) q2 m (i - m) (cap - m) (by omega) (by omega) (by omega)

theorem six_cells {w : World} {b : Nat} (h : w.heap[b]? = some (.cells #[.int .i64 1, .int .i64 2, .int .i64 1, .int .i64 3, .int .i64 2, .int .i64 3, .int .i64 1, .int .i64 1, .int .i64 0, .int .i64 1, .int .i64 99, .int .i64 100] 93 (0, 0))) (Y : Nat) (hY : Y < 6) :
    ∃ p q : Int, w.cell? ⟨b, Y * 2, none⟩ = some (.int .i64 p) ∧ w.cell? ⟨b, Y * 2 + 1, none⟩ = some (.int .i64 q) := by
  have h6 : Y = 0 ∨ Y = 1 ∨ Y = 2 ∨ Y = 3 ∨ Y = 4 ∨ Y = 5 := by omega
  rcases h6 with rfl | rfl | rfl | rfl | rfl | rfl
  · exact ⟨1, 2, cell_of_row _ _ 0 _ _ _ h, cell_of_row _ _ 1 _ _ _ h⟩
  · exact ⟨1, 3, cell_of_row _ _ 2 _ _ _ h, cell_of_row _ _ 3 _ _ _ h⟩
  · exact ⟨2, 3, cell_of_row _ _ 4 _ _ _ h, cell_of_row _ _ 5 _ _ _ h⟩
  · exact ⟨1, 1, cell_of_row _ _ 6 _ _ _ h, cell_of_row _ _ 7 _ _ _ h⟩
  · exact ⟨0, 1, cell_of_row _ _ 8 _ _ _ h, cell_of_row _ _ 9 _ _ _ h⟩
  · exact ⟨99, 100, cell_of_row _ _ 10 _ _ _ h, cell_of_row _ _ 11 _ _ _ h⟩

set_option maxHeartbeats 8000000 in
set_option maxRecDepth 100000 in
theorem kthr_any (D : Nat) (A : Option Addr) (n c : Nat) (keys : Nat) (hkeys : keys ≤ 1000) (w : World) (hd : Dice D A n c w) :
    Calls Tryz.prog 38 #[.pointer (some ⟨D, 0, none⟩), .int .i64 (keys : Int)] w fun e w' => (∃ (v : Value) (t : ThrV), e = .returned (.agg #[.int .i64 t.num, v]) ∧ FirmT w.heap.size w' (fun W => Fracss W v t.ws)) ∧ KitW D A n c w w' := by
  have HN3 : PLift _ := PLift.up (fun W h => next_any D A n c 3 (by omega) (by omega) W h)
  have HN6 : PLift _ := PLift.up (fun W h => next_any D A n c 6 (by omega) (by omega) W h)
  have HD : PLift _ := PLift.up hd
  have hlt : PLift (D < w.heap.size) := PLift.up hd.lt
  clear hd
  go_enter Tryz.func38, Tryz.ntmps38
  by_cases h0 : keys = 0
  · subst h0
    go_wp2_with (refine wpList_store_row rfl 31 _ _ rfl w.heap.size #[.int .i64 0, .slice none 0 0] rfl rfl 31 _ (hA1_0 _ _) (by kernel_rfl) rfl (by kernel_rfl) ?_)
    refine bodyPost_ret (results_cell_row rfl _ _ w.heap.size _ _ _ _ rfl (setRow_heap _ _ _ _ _ _ (hA1_0 _ _)) Tryz.underlying31 rfl (by kernel_rfl)) rfl ⟨⟨_, ⟨0, []⟩, rfl, fun W _ => Fracss.nil W⟩, ?_⟩
    exact ((KitW.refl HD.down).later (ext_alloc _ _)).setRow HD.down (Nat.le_refl _) _
  · have t0 : ((keys : Int) == 0) = false := by rw [beq_eq_false_iff_ne]; omega
    have t00 : ¬ keys = 0 := h0
    have HNK : PLift _ := PLift.up (fun W h => next_any D A n c (keys : Int) (by omega) (by omega) W h)
    go_wp2_with fail
    refine (HN3.down _ (HD.down.later (ext_alloc _ _))).mono ?_
    rintro e w1 ⟨⟨z, rfl, z0, z1⟩, hk1⟩
    have hrow1 := hk1.b.row (by have := hlt.down; omega) (hA1_0 w (.cells #[.int .i64 0, .slice none 0 0] 31))
    have HK1 : PLift _ := PLift.up (((KitW.refl HD.down).later (ext_alloc _ _)).trans hk1)
    clear hk1
    by_cases hz : 0 < z
    · go_wp2_with fail
      refine (HNK.down _ HK1.down.d).mono ?_
      rintro e w2 ⟨⟨y, rfl, y0, y1⟩, hk2⟩
      have hrow2 := hk2.b.row (by have := hlt.down; omega) hrow1
      have HK2 : PLift _ := PLift.up (HK1.down.trans hk2)
      clear hk2 hrow1
      go_wp2_with (refine wpList_store_row rfl 31 _ _ rfl w.heap.size #[.int .i64 (1 + y), .slice none 0 0] rfl rfl 31 _ hrow2 (by kernel_rfl) rfl (by kernel_rfl) ?_)
      refine bodyPost_ret (results_cell_row rfl _ _ w.heap.size _ _ _ _ rfl (setRow_heap _ _ _ _ _ _ hrow2) Tryz.underlying31 rfl (by kernel_rfl)) rfl ⟨⟨_, ⟨1 + y, []⟩, rfl, fun W _ => Fracss.nil W⟩, ?_⟩
      exact HK2.down.setRow HD.down (Nat.le_refl _) _
    · have hz0 : ¬ (0 < z) := hz
      go_wp2_with fail
      go_loopw [19, 5] (fun v19 v5 wr => ∃ i : Nat, i ≤ keys ∧ v19 = .int .i64 (i : Int) ∧ ThrL D A n c w wr v5 i) (fun v19 _ _ => ((keys : Int) - intOf v19).toNat)
      case atStart => exact ⟨0, by omega, rfl, ⟨[], World.ownsRow_nil _ _ _ _, by simp⟩, hrow1, HK1.down⟩
      case round =>
        obtain ⟨i, hi, rfl, hT⟩ := hrel
        have HT : PLift _ := PLift.up hT
        clear hT
        by_cases hik : i < keys
        · have i0 : (i : Int) < (keys : Int) := by omega
          go_wp2_with fail
          refine (HN6.down _ (HT.down.kit.later (ext_alloc _ _)).d).mono ?_
          rintro e w3 ⟨⟨y, rfl, y0, y1⟩, hk3⟩
          obtain ⟨Y, rfl⟩ := Int.eq_ofNat_of_zero_le y0
          have hrow3 := hk3.b.row (by have := hlt.down; have := HT.down.kit.b.size; omega) (hA1_0 wr (.cells #[.int .i64 1, .int .i64 2, .int .i64 1, .int .i64 3, .int .i64 2, .int .i64 3, .int .i64 1, .int .i64 1, .int .i64 0, .int .i64 1, .int .i64 99, .int .i64 100] 93))
          have Y6 : Y < 6 := by omega
          obtain ⟨p, q, cp, cq⟩ := six_cells hrow3 Y Y6
          have HK3 : PLift _ := PLift.up ((HT.down.kit.later (ext_alloc _ _)).trans hk3)
          have hres3 := hk3.b.row (by have := hlt.down; omega) (rowLater (ext_alloc wr _) HT.down.res)
          have HR3 : PLift _ := PLift.up hres3
          obtain ⟨xs, hown, hxs⟩ := HT.down.own
          have HO3 : PLift _ := PLift.up (own_kit (own_later hown (ext_alloc wr _)) hlt.down hk3.b)
          have HXS : PLift _ := PLift.up hxs
          clear hk3 hrow3 hres3 hown hxs
          go_wp2_with (refine kapp HD.down (HK3.down.later (ext_alloc _ _)) 56 93 (.agg #[.int .i64 0, .int .i64 0]) 2 16 Tryz.underlying56 kFrac rfl (by decide) (by decide) rfl _ _ rfl _ i xs rfl (own_later HO3.down (ext_alloc _ _)) _ 1 1 [.int .i64 p, .int .i64 q] rfl rfl (fun j u hu => by rw [add0, cell_of_row _ _ j _ _ _ (hA1_0 _ _)]; simpa using hu) (fun u hu => by simp only [List.mem_cons, List.not_mem_nil, or_false] at hu; rcases hu with rfl | rfl <;> rfl) (by omega) ?_; intro v' w' ho' hk' hg')
          exact ⟨⟨i + 1, by omega, by go_num, ⟨⟨_, ho', fun u hu => by
            rw [List.mem_append] at hu
            rcases hu with hu | hu
            · exact HXS.down u hu
            · simp only [List.mem_cons, List.not_mem_nil, or_false] at hu
              rcases hu with rfl | rfl
              · exact ⟨_, rfl⟩
              · exact ⟨_, rfl⟩⟩, by
            rw [hg'.block _ (by rw [size_alloc]; have := krow_lt HR3.down; omega) (fun e => HT.down.apart e.symm)]
            exact rowLater (ext_alloc _ _) HR3.down, hk'⟩⟩, by simp only [intOf]; omega⟩
        · have hik' : i = keys := by omega
          subst hik'
          obtain ⟨xs, hown, hxs⟩ := HT.down.own
          have hres := HT.down.res
          have hap := HT.down.apart
          have hkit := HT.down.kit
          rcases hown.2 with ⟨_, hn0⟩ | ⟨g, cap, cur, rfl, hg, hh, hn, r1, r2, r3⟩
          · exact absurd hn0 h0
          have hne : g ≠ w.heap.size := fun e => hap (by rw [e]; rfl)
          have hR : ThrR D A n c w wr g cap i := ⟨⟨cur, hh, fun j hj => by
            have hl2 : j < xs.length := by rw [hown.1]; exact hj
            obtain ⟨u, hu⟩ : ∃ u, xs[j]? = some u := ⟨_, List.getElem?_eq_getElem hl2⟩
            obtain ⟨y, hy⟩ := hxs u (List.mem_of_getElem? hu)
            rw [hy, ← r3, List.getElem?_take_of_lt hj] at hu
            rw [← Array.getElem?_toList]
            exact ⟨y, hu⟩⟩, hres, by omega, hkit⟩
          have HR : PLift _ := PLift.up hR
          have hcap : i ≤ cap := hn
          have hcm : PLift (cap ≤ maxLen) := PLift.up r1
          clear hown hxs hres hap hkit hh r3 hR
          have i1 : 1 ≤ i := by omega
          go_wp2_with fail
          refine (HNK.down _ HR.down.kit.d).mono ?_
          rintro e w3 ⟨⟨y, rfl, y0, y1⟩, hk3⟩
          obtain ⟨Y, rfl⟩ := Int.eq_ofNat_of_zero_le y0
          have HR3 : PLift _ := PLift.up (HR.down.step hlt.down hk3)
          clear hk3
          have Y1 : Y < i := by omega
          obtain ⟨⟨v0, c0⟩, f0⟩ := HR3.down.cell (Y * 2) (by omega)
          have HR4 : PLift _ := PLift.up (HR3.down.store HD.down (Y * 2) 1)
          obtain ⟨⟨v1, c1⟩, f1⟩ := HR4.down.cell (Y * 2 + 1) (by omega)
          have HR5 : PLift _ := PLift.up (HR4.down.store HD.down (Y * 2 + 1) 1)
          by_cases hi2 : 1 < i
          · have i2 : (1 : Int) < (i : Int) := by omega
            go_wp2_with fail
            refine (HN3.down _ HR5.down.kit.d).mono ?_
            rintro e w4 ⟨⟨y2, rfl, y20, y21⟩, hk4⟩
            have HR6 : PLift _ := PLift.up (HR5.down.step hlt.down hk4)
            clear hk4 c0 f0 c1 f1
            by_cases hy2 : y2 = 0
            · subst hy2
              obtain ⟨⟨a0, e0⟩, g0⟩ := HR6.down.cell 0 (by omega)
              have HR7 : PLift _ := PLift.up (HR6.down.store HD.down 0 1)
              obtain ⟨⟨a1, e1⟩, g1⟩ := HR7.down.cell 1 (by omega)
              have HR8 : PLift _ := PLift.up (HR7.down.store HD.down 1 1)
              obtain ⟨⟨a2, e2⟩, g2⟩ := HR8.down.cell ((i - 1) * 2) (by omega)
              have HR9 : PLift _ := PLift.up (HR8.down.store HD.down ((i - 1) * 2) 1)
              obtain ⟨⟨a3, e3⟩, g3⟩ := HR9.down.cell ((i - 1) * 2 + 1) (by omega)
              have HR10 : PLift _ := PLift.up (HR9.down.store HD.down ((i - 1) * 2 + 1) 1)
              have im1 : (i : Int) - 1 = ((i - 1 : Nat) : Int) := by omega
              have im2 : ((i - 1 : Nat) : Int) < (i : Int) := by omega
              go_wp2_with fail
              refine (next_any D A n c ((i - 1 : Nat) : Int) (by omega) (by omega) _ HR10.down.kit.d).mono ?_
              rintro e w5 ⟨⟨y3, rfl, y30, y31⟩, hk5⟩
              obtain ⟨M, rfl⟩ := Int.eq_ofNat_of_zero_le y30
              have HR11 : PLift _ := PLift.up (HR10.down.step hlt.down hk5)
              clear hk5 e0 g0 e1 g1 e2 g2 e3 g3
              have M1 : 1 + M ≤ i := by omega
              have M2 : (1 : Int) + (M : Int) = ((1 + M : Nat) : Int) := by omega
              obtain ⟨m, hm⟩ : ∃ m, m = 1 + M := ⟨_, rfl⟩
              rw [← hm] at M1 M2
              clear hm im1 im2
              have m1 : (m : Int) ≤ (i : Int) := by omega
              have m2 : (m : Int) ≤ (cap : Int) := by omega
              have m3 : 0 ≤ (m : Int) := by omega
              have m4 : m ≤ cap := by omega
              have HR12 : PLift (ThrR D A n c w w5.drew g cap i) := PLift.up (HR11.down.later ((Below.refl _ _).drew))
              go_wp2_with fail
              go_still_tail 7, (by kernel_rfl)
              change wpList _ _ _ _ _ w5.drew
              generalize w5.drew = w6 at HR12 ⊢
              go_wp2_with (refine wpList_store_row rfl 31 _ _ rfl w.heap.size #[.int .i64 0, .slice (some ⟨w6.heap.size, 0, none⟩) 2 2] rfl rfl 31 _ (HR12.down.later (ext_alloc _ _)).res (by kernel_rfl) rfl (by kernel_rfl) ?_)
              obtain ⟨t, ht⟩ := thr_two (k := w6.heap.size) (m := m) HR12.down hlt.down rfl (by omega) hcap (by omega)
              exact bodyPost_ret (results_cell_row rfl _ _ w.heap.size _ _ _ _ rfl (setRow_heap _ _ _ _ _ _ (HR12.down.later (ext_alloc _ _)).res) Tryz.underlying31 rfl (by kernel_rfl)) rfl ⟨⟨_, ⟨0, t⟩, rfl, ht⟩, (HR12.down.later (ext_alloc _ _)).kit.setRow HD.down (Nat.le_refl _) _⟩
            · have hy3 : (y2 == 0) = false := by simpa using hy2
              go_wp2_with (refine wpList_store_row rfl 31 _ _ rfl w.heap.size #[.int .i64 0, .slice (some ⟨w4.heap.size, 0, none⟩) 1 1] rfl rfl 31 _ (HR6.down.later (ext_alloc _ _)).res (by kernel_rfl) rfl (by kernel_rfl) ?_)
              obtain ⟨t, ht⟩ := thr_one (k := w4.heap.size) HR6.down hlt.down (by rfl) hcap (by omega)
              exact bodyPost_ret (results_cell_row rfl _ _ w.heap.size _ _ _ _ rfl (setRow_heap _ _ _ _ _ _ (HR6.down.later (ext_alloc _ _)).res) Tryz.underlying31 rfl (by kernel_rfl)) rfl ⟨⟨_, ⟨0, t⟩, rfl, ht⟩, (HR6.down.later (ext_alloc _ _)).kit.setRow HD.down (Nat.le_refl _) _⟩
          · have i2 : ¬ ((1 : Int) < (i : Int)) := by omega
            go_wp2_with (refine wpList_store_row rfl 31 _ _ rfl w.heap.size #[.int .i64 0, .slice (some ⟨w3.heap.size, 0, none⟩) 1 1] rfl rfl 31 _ (HR5.down.later (ext_alloc _ _)).res (by kernel_rfl) rfl (by kernel_rfl) ?_)
            obtain ⟨t, ht⟩ := thr_one (k := w3.heap.size) HR5.down hlt.down (by simp [World.setCell]) hcap (by omega)
            exact bodyPost_ret (results_cell_row rfl _ _ w.heap.size _ _ _ _ rfl (setRow_heap _ _ _ _ _ _ (HR5.down.later (ext_alloc _ _)).res) Tryz.underlying31 rfl (by kernel_rfl)) rfl ⟨⟨_, ⟨0, t⟩, rfl, ht⟩, (HR5.down.later (ext_alloc _ _)).kit.setRow HD.down (Nat.le_refl _) _⟩

end Go.Proofs.YtkinlobfdkeamaaGreatDoor

namespace Go.Proofs.YtkinlobfdkeamaaGreatDoor
open Go.RowKit

theorem run_append_none' {w : World} (base : Nat) (t ty e : TypeId) (i : TypeInfo) (size c : Nat) (ht : Tryz.prog.underlying t = some (.slice e)) (hi : Tryz.prog.info? e = some i)
    (v : Value) (n : Nat) (xs : List Value) (hown : w.ownsRow base e size v n xs) :
    (Builtin.append_ #[t, t] ty #[v, .slice none 0 c]).run Tryz.prog w = .ok v w := by
  rcases hown.2 with ⟨rfl, rfl⟩ | ⟨g, cap, cur, rfl, _, _, hnc, _⟩
  · simp [Builtin.append_, run_underlying ht, sizeOf, typeInfo, hi, Builtin.lenOf, Builtin.firstCells]
  · simp [Builtin.append_, run_underlying ht, sizeOf, typeInfo, hi, Builtin.lenOf, Builtin.firstCells, hnc, storeCells]

/-- append(v, x..), v one's own, x a slice or nil; as one operation. -/
theorem kapp_op {o : Oper} {a : Act} {K : Act → World → Prop} {Q : Exit → Act → World → Prop} {D : Nat} {A : Option Addr} {n c : Nat} {w0 w : World} (h0 : Dice D A n c w0) (hW : KitW D A n c w0 w)
    (T e : TypeId) (z : Value) (size bytes : Nat) (hT : Tryz.prog.underlying T = some (.slice e)) (hinf : (Tryz.prog.info? e).map (fun i => (i.zero, i.size, i.bytes)) = some (some z, size, bytes)) (hz : z.cells.size = size) (hsz : 0 < size) (hby : bytes ≤ 1000)
    (s x : Operand) (ho : o.op = .call { callee := .builtin .append, args := #[s, x], argTypes := #[T, T] })
    (v : Value) (m : Nat) (xs : List Value) (hs : a.eval s = v) (hown : w.ownsRow w0.heap.size e size v m xs)
    (B : Option Addr) (k cp : Nat) (news : List Value) (hx : a.eval x = .slice B k cp) (hl : news.length = k * size) (hnews : ∀ j u, news[j]? = some u → ∃ ad, B = some ad ∧ w.cell? (ad.add j) = some u) (hB : B = none → k = 0) (hone : ∀ u ∈ news, u.oneCell' = true) (hlen : m + k ≤ 1000000)
    (h : ∀ v' w', w'.ownsRow w0.heap.size e size v' (m + k) (xs ++ news) → KitW D A n c w0 w' → w.grownBy w' v.ownBlock → K (a.put o.dst v') w') : o.wp Tryz.prog a w K Q := by
  obtain ⟨i0, hi, hz0, hz1, hz2⟩ := info_parts hinf
  cases B with
  | none =>
    have hk0 := hB rfl
    subst hk0
    have hn0 : news = [] := List.length_eq_zero_iff.1 (by omega)
    subst hn0
    have hrun := run_append_none' w0.heap.size T o.type e i0 size cp hT hi v m xs hown
    have hk := h v w (by simpa using hown) hW ⟨rfl, rfl, rfl, Nat.le_refl _, fun _ _ _ => rfl⟩
    unfold Oper.wp
    simp [execOp, ho, resolve, invoke, builtin, hs, hx, hrun, Result.andThen]
    exact hk
  | some ad =>
    refine wp_append_own w s x T ho w0.heap.size e i0 z size bytes hT hi hz0 hz1 hz2 hz hsz v m xs hs hown ad k cp news hx hl (fun j u hu => by obtain ⟨ad', e1, e2⟩ := hnews j u hu; cases e1; exact e2) hone (by unfold maxLen; omega) ?_ hW.b.size ?_
    · have : (m + k) * bytes ≤ 1000000 * 1000 := Nat.mul_le_mul hlen hby
      omega
    · intro v' w' h1 h2 _
      exact h v' w' h1 (hW.grown h0 h2 (fun k hk => (hown.lt k hk).1)) h2

/-- At a step of a region that draws its order. -/
theorem step_kapp {ops : Array Oper} {o : Oper} {a : Act} {K : Act → World → Prop} {Q : Exit → Act → World → Prop} {E : Prop} {D : Nat} {A : Option Addr} {n c : Nat} {w0 w : World} (h0 : Dice D A n c w0) (hW : KitW D A n c w0 w)
    (T e : TypeId) (z : Value) (size bytes : Nat) (hT : Tryz.prog.underlying T = some (.slice e)) (hinf : (Tryz.prog.info? e).map (fun i => (i.zero, i.size, i.bytes)) = some (some z, size, bytes)) (hz : z.cells.size = size) (hsz : 0 < size) (hby : bytes ≤ 1000)
    (hgd : o.guard = none) (s x : Operand) (ho : o.op = .call { callee := .builtin .append, args := #[s, x], argTypes := #[T, T] })
    (v : Value) (m : Nat) (xs : List Value) (hs : a.eval s = v) (hown : w.ownsRow w0.heap.size e size v m xs)
    (B : Option Addr) (k cp : Nat) (news : List Value) (hx : a.eval x = .slice B k cp) (hl : news.length = k * size) (hnews : ∀ j u, news[j]? = some u → ∃ ad, B = some ad ∧ w.cell? (ad.add j) = some u) (hB : B = none → k = 0) (hone : ∀ u ∈ news, u.oneCell' = true) (hlen : m + k ≤ 1000000)
    (h : ∀ v' w', w'.ownsRow w0.heap.size e size v' (m + k) (xs ++ news) → KitW D A n c w0 w' → w.grownBy w' v.ownBlock → K (a.put o.dst v') w') : if Region.wanted o (yielded ops a.tmps) = true then o.wp Tryz.prog a w K Q else E := by
  rw [if_pos (by simp [Region.wanted, hgd])]
  exact kapp_op h0 hW T e z size bytes hT hinf hz hsz hby s x ho v m xs hs hown B k cp news hx hl hnews hB hone hlen h

/-- The cells of fractions. -/
def fracCells : List FracV → List Value
  | [] => []
  | f :: r => .int .i64 f.1 :: .int .i64 f.2 :: fracCells r
theorem fracCells_len (l : List FracV) : (fracCells l).length = l.length * 2 := by
  induction l with
  | nil => rfl
  | cons x r ih => simp [fracCells, ih]; omega
theorem fracCells_at (l : List FracV) : ∀ i, i < l.length → (fracCells l)[i * 2]? = some (.int .i64 (l.getD i (0, 0)).1) ∧ (fracCells l)[i * 2 + 1]? = some (.int .i64 (l.getD i (0, 0)).2) := by
  induction l with
  | nil => intro i hi; simp at hi
  | cons x r ih =>
    intro i hi
    cases i with
    | zero => exact ⟨rfl, rfl⟩
    | succ i =>
      have := ih i (by simpa using hi)
      rw [show (i + 1) * 2 = i * 2 + 2 by omega]
      simpa [fracCells] using this
theorem fracCells_one (l : List FracV) : ∀ u ∈ fracCells l, u.oneCell' = true := by
  induction l with
  | nil => simp [fracCells]
  | cons x r ih =>
    intro u hu
    simp only [fracCells, List.mem_cons] at hu
    rcases hu with rfl | rfl | hu
    · rfl
    · rfl
    · exact ih u hu
theorem Fracs.cells {w : World} {B : Option Addr} {k cp : Nat} {l : List FracV} (h : Fracs w (.slice B k cp) l) : k = l.length ∧ (B = none → k = 0) ∧ ∀ j u, (fracCells l)[j]? = some u → ∃ ad, B = some ad ∧ w.cell? (ad.add j) = some u := by
  obtain ⟨B', c', he, hc, hn, hel⟩ := h
  cases he
  refine ⟨rfl, fun hb => ?_, fun j u hj => ?_⟩
  · rcases Nat.eq_zero_or_pos l.length with h | h
    · exact h
    · obtain ⟨ad, e, _⟩ := hel 0 h
      rw [hb] at e; exact absurd e (by simp)
  · have hjl : j < l.length * 2 := by rw [← fracCells_len]; exact (List.getElem?_eq_some_iff.1 hj).1
    obtain ⟨ad, e, q0, q1⟩ := hel (j / 2) (by omega)
    refine ⟨ad, e, ?_⟩
    obtain ⟨r0, r1⟩ := fracCells_at l (j / 2) (by omega)
    have hadd : ∀ i : Nat, (⟨(ad.add i).block, (ad.add i).off + 1, none⟩ : Addr) = ad.add (i + 1) := fun i => by
      unfold Addr.add
      rw [if_neg (show ¬ (i + 1 = 0) by omega)]
      split
      · rename_i e0; subst e0; rfl
      · rfl
    rcases Nat.mod_two_eq_zero_or_one j with hm | hm
    · have ej : j / 2 * 2 = j := by omega
      rw [ej] at q0 r0
      rw [hj] at r0
      rw [q0]; exact r0.symm
    · have ej : j / 2 * 2 + 1 = j := by omega
      rw [hadd, ej] at q1
      rw [ej, hj] at r1
      rw [q1]; exact r1.symm

theorem fracs_own {w : World} {base : Nat} {T : TypeId} {v : Value} (l : List FracV) (h : w.ownsRow base T 2 v l.length (fracCells l)) (hl : l.length ≤ 1000000) : Fracs w v l := by
  rcases h.2 with ⟨rfl, h0⟩ | ⟨g, cap, cur, rfl, hg, hh, hn, r1, r2, r3⟩
  · exact ⟨none, 0, by rw [h0], by omega, hl, fun i hi => by omega⟩
  · refine ⟨_, _, rfl, hn, hl, fun i hi => ⟨_, rfl, ?_⟩⟩
    obtain ⟨a1, a2⟩ := fracCells_at l i hi
    rw [add0]
    dsimp only
    exact ⟨by rw [h.cellAt (i * 2) (by omega)]; exact a1, by rw [h.cellAt (i * 2 + 1) (by omega)]; exact a2⟩

end Go.Proofs.YtkinlobfdkeamaaGreatDoor

namespace Go.Proofs.YtkinlobfdkeamaaGreatDoor
open Go.RowKit

theorem kSl : (Tryz.prog.info? 56).map (fun i => (i.zero, i.size, i.bytes)) = some (some (.slice none 0 0), 1, 24) := by kernel_rfl

/-- What stands while a threshold is copied. -/
structure CpT (D : Nat) (A : Option Addr) (n c : Nat) (w0 w : World) (num : Int) (ws : List (List FracV)) (vw : Value) (k : Nat) : Prop where
  row : w.heap[w0.heap.size + 1 + 1]? = some (.cells #[.int .i64 num, vw] 31 (0, 0))
  own : ∃ xs : List Value, w.ownsRow w0.heap.size 56 1 vw k xs ∧ ∀ i, i < k → ∃ x, xs[i]? = some x ∧ w.ownsRow w0.heap.size 93 2 x (ws.getD i []).length (fracCells (ws.getD i []))
  res : w.heap[w0.heap.size + 1]? = some (.cells #[.int .i64 0, .slice none 0 0] 31 (0, 0))
  kit : KitW D A n c w0 w

theorem own_type {w : World} {base : Nat} {e e' : TypeId} {size : Nat} {v : Value} {n : Nat} {xs : List Value} (h : w.ownsRow base e size v n xs) {b : Nat} {cs : Array Value} (hr : w.heap[b]? = some (.cells cs e' (0, 0))) (hne : e ≠ e') : v.ownBlock ≠ some b := by
  intro he
  rcases h.2 with ⟨rfl, _⟩ | ⟨g, cap, cur, rfl, hg, hh, _⟩
  · exact absurd he (by simp [Value.ownBlock])
  · have : g = b := by simpa [Value.ownBlock] using he
    subst this
    rw [hh] at hr
    injection hr with hr
    injection hr with _ h3
    exact hne h3
theorem own_apart {w : World} {b1 b2 : Nat} {e1 e2 : TypeId} {s1 s2 : Nat} {v1 v2 : Value} {n1 n2 : Nat} {x1 x2 : List Value} (h1 : w.ownsRow b1 e1 s1 v1 n1 x1) (h2 : w.ownsRow b2 e2 s2 v2 n2 x2) (hne : e1 ≠ e2) : v1.ownBlock = none ∨ v1.ownBlock ≠ v2.ownBlock := by
  rcases h2.2 with ⟨rfl, _⟩ | ⟨g, cap, cur, rfl, hg, hh, _⟩
  · cases h : v1.ownBlock with
    | none => exact Or.inl rfl
    | some b => exact Or.inr (by simp [Value.ownBlock])
  · exact Or.inr (own_type h1 hh hne)
theorem row1_own {w : World} {base : Nat} {T : TypeId} {v : Value} {n : Nat} {xs : List Value} (h : w.ownsRow base T 1 v n xs) (hl : n ≤ 1000000) : Row1 w v n (fun i => xs.getD i undef) := by
  have hx := h.1
  rcases h.2 with ⟨rfl, h0⟩ | ⟨g, cap, cur, rfl, hg, hh, hn, r1, r2, r3⟩
  · exact ⟨none, 0, by rw [h0], by omega, hl, fun i hi => by omega⟩
  · refine ⟨_, _, rfl, hn, hl, fun i hi => ⟨_, rfl, ?_⟩⟩
    dsimp only
    rw [add0, h.cellAt i (by omega), List.getD_eq_getElem?_getD, List.getElem?_eq_getElem (by omega)]
    rfl
theorem own_setRow {w : World} {base : Nat} {e : TypeId} {size : Nat} {v : Value} {n : Nat} {xs : List Value} (h : w.ownsRow base e size v n xs) {g : Nat} (cs : Array Value) (hne : v.ownBlock ≠ some g) : (w.setRow g cs).ownsRow base e size v n xs := by
  obtain ⟨h1, h2⟩ := h
  refine ⟨h1, ?_⟩
  rcases h2 with h2 | ⟨b, cap, cur, hv, hg, hh, r⟩
  · exact Or.inl h2
  · refine Or.inr ⟨b, cap, cur, hv, hg, ?_, r⟩
    rw [setRow_other _ _ _ _ (fun e => hne (by rw [hv]; show some b = some g; rw [show b = g from e]))]
    exact hh
theorem own_typed {w W : World} {B base : Nat} {T : TypeId} {size : Nat} {v : Value} {n : Nat} {xs : List Value} (h : w.ownsRow base T size v n xs) (hT : ThrT T) (hW : ∀ b cs T, B ≤ b → ThrT T → w.heap[b]? = some (.cells cs T (0, 0)) → W.heap[b]? = some (.cells cs T (0, 0))) (hB : B ≤ base := by exact Nat.le_refl _) : W.ownsRow base T size v n xs := by
  obtain ⟨h1, h2⟩ := h
  refine ⟨h1, ?_⟩
  rcases h2 with h2 | ⟨g, cap, cur, hv, hg, hh, r⟩
  · exact Or.inl h2
  · exact Or.inr ⟨g, cap, cur, hv, hg, hW g cur T (Nat.le_trans hB hg) hT hh, r⟩
theorem own_slice {w : World} {base : Nat} {e : TypeId} {size : Nat} {v : Value} {n : Nat} {xs : List Value} (h : w.ownsRow base e size v n xs) : ∃ A m c, v = .slice A m c := by
  rcases h.2 with ⟨rfl, _⟩ | ⟨g, cap, cur, rfl, _⟩
  · exact ⟨_, _, _, rfl⟩
  · exact ⟨_, _, _, rfl⟩

set_option maxHeartbeats 8000000 in
set_option maxRecDepth 100000 in
theorem kcopythr (D : Nat) (A : Option Addr) (n c : Nat) (v : Value) (t : ThrV) (w : World) (hd : Dice D A n c w) (h : Firm D w (fun W => Thr W v t)) :
    Calls Tryz.prog 74 #[v] w fun e w' => (∃ v' : Value, e = .returned (.agg #[.int .i64 t.num, v']) ∧ FirmT w.heap.size w' (fun W => Fracss W v' t.ws)) ∧ KitW D A n c w w' := by
  obtain ⟨v', rfl, ⟨_, ⟨B, cp, rfl, _, hn, _⟩, _⟩⟩ := h.now
  obtain ⟨num, ws⟩ := t
  dsimp only at *
  have H : PLift _ := PLift.up h
  have HD : PLift _ := PLift.up hd
  have hlt : PLift (D < w.heap.size) := PLift.up hd.lt
  clear hd h
  go_enter Tryz.func74, Tryz.ntmps74
  go_wp2_with fail
  go_loopw [12] (fun v12 wr => ∃ (k : Nat) (vw : Value), k ≤ ws.length ∧ v12 = .int .i64 (k : Int) ∧ CpT D A n c w wr num ws vw k) (fun v12 _ => ((ws.length : Int) - intOf v12).toNat)
  case atStart => exact ⟨0, .slice none 0 0, by omega, rfl, hA3_2 _ _ _ _, ⟨[], World.ownsRow_nil _ _ _ _, fun i hi => by omega⟩, hA3_1 _ _ _ _, (KitW.refl HD.down).later (extA3 _ _ _ _)⟩
  case round =>
    obtain ⟨k, vw, hk, rfl, hC⟩ := hrel
    have HC : PLift _ := PLift.up hC
    clear hC
    by_cases hkl : k < ws.length
    · have k0 : (k : Int) < ws.length := by omega
      obtain ⟨v2, e2, ⟨ev, ⟨B', cp', e3, hc, hn2, hel⟩, hev⟩⟩ := H.down wr HC.down.kit.b
      cases e2
      cases e3
      obtain ⟨ad, rfl, hcell⟩ := hel k hkl
      have hf := hev k hkl
      obtain ⟨Bk, ck, ek⟩ : ∃ Bk ck, ev k = .slice Bk (ws.getD k []).length ck := by obtain ⟨Bk, ck, e, _⟩ := hf; exact ⟨Bk, ck, e⟩
      rw [ek] at hcell hf
      have hfew : (ws.getD k []).length ≤ 1000000 := by obtain ⟨_, _, _, _, h, _⟩ := hf; exact h
      obtain ⟨_, hB0, hcells⟩ := hf.cells
      have hrow := HC.down.row
      have c1 := cell_of_row _ _ 1 _ _ _ hrow
      have HCE : PLift _ := PLift.up hcells
      have HB0 : PLift _ := PLift.up hB0
      obtain ⟨xs, hown, hxs⟩ := HC.down.own
      have HO : PLift _ := PLift.up hown
      have HX : PLift _ := PLift.up hxs
      have HR : PLift _ := PLift.up hrow
      clear hel hev hf hcells hB0 hown hxs hrow
      have HXN : PLift (∀ x l, l = ws.getD k [] → ∀ (W : World), (∀ i, i < k → ∃ x, xs[i]? = some x ∧ W.ownsRow w.heap.size 93 2 x (ws.getD i []).length (fracCells (ws.getD i []))) → W.ownsRow w.heap.size 93 2 x l.length (fracCells l) → ∀ i, i < k + 1 → ∃ y, (xs ++ [x])[i]? = some y ∧ W.ownsRow w.heap.size 93 2 y (ws.getD i []).length (fracCells (ws.getD i []))) := PLift.up (fun x l hl W h1 h2 i hi => by
        have hxl : xs.length = k := by have := HO.down.1; omega
        by_cases e : i = k
        · subst e
          refine ⟨x, ?_, by rw [← hl]; exact h2⟩
          rw [← hxl]; simp
        · obtain ⟨y, e1, e2⟩ := h1 i (by omega)
          exact ⟨y, by rw [List.getElem?_append_left (by omega)]; exact e1, e2⟩)
      obtain ⟨l, hl⟩ : ∃ l, l = ws.getD k [] := ⟨_, rfl⟩
      rw [← hl] at hcell hfew HCE HB0
      have HL : PLift _ := PLift.up hl
      clear hl
      have c1d : wr.drew.cell? ⟨w.heap.size + 1 + 1, 1, none⟩ = some vw := c1
      obtain ⟨Aw, mw, cw, rfl⟩ := own_slice HO.down
      have hvw := own_type HO.down HR.down (by decide)
      have hxl : xs.length = k := by have := HO.down.1; omega
      have kfew : k + 1 ≤ 1000000 := by omega
      go_wp2_with fail
      go_region_law (first
        | (refine step_kapp HD.down (HC.down.kit.later ((Below.refl _ _).drew)) 56 93 (.agg #[.int .i64 0, .int .i64 0]) 2 16 Tryz.underlying56 kFrac rfl (by decide) (by decide) rfl (.const (.slice none 0 0)) (.tmp 18) rfl (.slice none 0 0) 0 [] rfl (World.ownsRow_nil _ _ _ _) Bk l.length ck (fracCells l) rfl (fracCells_len l) HCE.down HB0.down (fracCells_one l) (by omega) ?_; intro v1 w1 ho1 hk1 hg1; obtain ⟨Ax, mx, cx, rfl⟩ := own_slice ho1
           have hrow1 : w1.heap[w.heap.size + 1 + 1]? = some (.cells #[.int .i64 num, .slice Aw mw cw] 31 (0, 0)) := (hg1.block _ (krow_lt HR.down) (by simp [Value.ownBlock])).trans HR.down
           have c1w := cell_of_row _ _ 1 _ _ _ hrow1
           have c1a : ∀ o, (w1.alloc o).cell? ⟨w.heap.size + 1 + 1, 1, none⟩ = some (.slice Aw mw cw) := fun o => cellLater (ext_alloc _ _) c1w
           have HG1 : PLift _ := PLift.up hg1
           have HO1 : PLift _ := PLift.up ho1
           have HK1 : PLift _ := PLift.up hk1
           have HRW1 : PLift _ := PLift.up hrow1
           have HOW1 : PLift _ := PLift.up (HO.down.kept (w' := w1) (row := none) ⟨hg1.os, hg1.tape, hg1.output, hg1.size, fun k hk _ => hg1.block k hk (by simp [Value.ownBlock])⟩ (by
             cases hq : (Value.slice Aw mw cw).ownBlock with
             | none => exact Or.inl rfl
             | some b => exact Or.inr (by simp)))
           clear hg1 ho1 hk1 hrow1)
        | (refine step_kapp HD.down (HK1.down.later (ext_alloc _ _)) 29 56 (.slice none 0 0) 1 24 Tryz.underlying29 kSl rfl (by decide) (by decide) rfl (.tmp 17) (.tmp 20) rfl _ k xs rfl (own_later HOW1.down (ext_alloc _ _)) (some ⟨w1.heap.size, 0, none⟩) 1 1 [.slice Ax mx cx] rfl rfl (fun j u hu => ⟨_, rfl, by rw [add0, cell_of_row _ _ j _ _ _ (hA1_0 _ _)]; simpa using hu⟩) (by simp) (fun u hu => by simp only [List.mem_singleton] at hu; subst hu; rfl) kfew ?_; intro v2 w2 ho2 hk2 hg2; obtain ⟨Ay, my, cy, rfl⟩ := own_slice ho2
           have hrow2 : w2.heap[w.heap.size + 1 + 1]? = some (.cells #[.int .i64 num, .slice Aw mw cw] 31 (0, 0)) := (hg2.block _ (by rw [size_alloc]; have := krow_lt HRW1.down; omega) (fun e => hvw e.symm)).trans (rowLater (ext_alloc _ _) HRW1.down)
           have c2w := cell_of_row _ _ 1 _ _ _ hrow2
           have f2w : w2.frozen? ⟨w.heap.size + 1 + 1, 1, none⟩ = false := frozen_of_row hrow2
           have HG2 : PLift _ := PLift.up hg2
           have HO2 : PLift _ := PLift.up ho2
           have HK2 : PLift _ := PLift.up hk2
           have HRW2 : PLift _ := PLift.up hrow2
           clear hg2 ho2 hk2 hrow2))
      all_goals
        go_wp2_with fail
        refine ⟨⟨k + 1, .slice Ay my cy, by omega, by go_num, ?_⟩, by simp only [intOf]; omega⟩
        have keep : ∀ x (m : List FracV), w1.ownsRow w.heap.size 93 2 x m.length (fracCells m) → (w2.setCell ⟨w.heap.size + 1 + 1, 1, none⟩ (.slice Ay my cy)).ownsRow w.heap.size 93 2 x m.length (fracCells m) := fun x m hx => by
          have hx1 := own_later hx (ext_alloc w1 (.cells #[.slice Ax mx cx] 56))
          have hx2 := hx1.kept HG2.down (own_apart hx1 (own_later HOW1.down (ext_alloc w1 (.cells #[.slice Ax mx cx] 56))) (by decide))
          exact own_setCell hx2 1 _ (own_type hx2 HRW2.down (by decide))
        refine ⟨heap_setCell_same _ _ _ _ _ _ HRW2.down, ⟨xs ++ [.slice Ax mx cx], own_setCell HO2.down 1 _ (own_type HO2.down HRW2.down (by decide)), ?_⟩, ?_, HK2.down.setCell HD.down (by omega) 1 _⟩
        · refine HXN.down _ l HL.down _ (fun i hi => ?_) (keep _ l (by have := HO1.down; rw [Nat.zero_add, List.nil_append] at this; exact this))
          obtain ⟨x, e1, e2⟩ := HX.down i hi
          refine ⟨x, e1, keep x _ ?_⟩
          refine World.ownsRow.kept (w := wr.drew) (row := none) e2 ⟨HG1.down.os, HG1.down.tape, HG1.down.output, HG1.down.size, fun k hk _ => HG1.down.block k hk (by simp [Value.ownBlock])⟩ ?_
          cases hq : x.ownBlock with
          | none => exact Or.inl rfl
          | some b => exact Or.inr (by simp)
        · rw [heap_setCell_other _ _ _ _ (show w.heap.size + 1 ≠ w.heap.size + 1 + 1 by omega)]
          have hr1 := (HG1.down.block _ (krow_lt HC.down.res) (by simp [Value.ownBlock])).trans HC.down.res
          have hr1a := rowLater (ext_alloc w1 (.cells #[.slice Ax mx cx] 56)) hr1
          rw [HG2.down.block _ (krow_lt hr1a) (fun e => own_type (own_later HOW1.down (ext_alloc w1 (.cells #[.slice Ax mx cx] 56))) hr1a (by decide) e.symm)]
          exact hr1a
    · have hkl' : k = ws.length := by omega
      subst hkl'
      obtain ⟨xs, hown, hxs⟩ := HC.down.own
      have hrow := HC.down.row
      have hres := HC.down.res
      obtain ⟨Aw, mw, cw, rfl⟩ := own_slice hown
      have c0 := cell_of_row _ _ 0 _ _ _ hrow
      have c1 := cell_of_row _ _ 1 _ _ _ hrow
      have HO : PLift _ := PLift.up hown
      have HX : PLift _ := PLift.up hxs
      clear hown hxs hrow
      go_wp2_with (refine wpList_store_row rfl 31 _ _ rfl (w.heap.size + 1) #[.int .i64 num, .slice Aw mw cw] rfl rfl 31 _ hres (by kernel_rfl) rfl (by kernel_rfl) ?_)
      refine bodyPost_ret (results_cell_row rfl _ _ (w.heap.size + 1) _ _ _ _ rfl (setRow_heap _ _ _ _ _ _ hres) Tryz.underlying31 rfl (by kernel_rfl)) rfl ⟨⟨_, rfl, ?_⟩, HC.down.kit.setRow HD.down (by omega) _⟩
      intro W hW
      have ho := own_setRow HO.down #[.int .i64 num, .slice Aw mw cw] (own_type HO.down hres (by decide))
      refine ⟨_, row1_own (own_typed ho (Or.inr rfl) hW) hn, fun i hi => ?_⟩
      obtain ⟨x, e1, e2⟩ := HX.down i hi
      have e3 := own_typed (own_setRow e2 #[.int .i64 num, .slice Aw mw cw] (own_type e2 hres (by decide))) (Or.inl rfl) hW
      rw [List.getD_eq_getElem?_getD, e1]
      obtain ⟨v2, q1, ⟨ev, ⟨B', cp', q2, _, _, _⟩, hev⟩⟩ := H.down wr HC.down.kit.b
      have hle : (ws.getD i []).length ≤ 1000000 := by obtain ⟨_, _, _, _, h, _⟩ := hev i hi; exact h
      exact fracs_own _ e3 hle

end Go.Proofs.YtkinlobfdkeamaaGreatDoor

