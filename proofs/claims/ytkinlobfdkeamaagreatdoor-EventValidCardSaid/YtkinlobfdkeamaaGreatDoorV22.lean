/- The seals that may be anchors, on both sides. What an event says of witnesses, the program's way. The kit's texts: words, digests, keys. -/
import Derived.Test.YtkinlobfdkeamaaGreatDoorV15
import Derived.Test.YtkinlobfdkeamaaGreatDoorV21
import Derived.Test.YtkinlobfdkeamaaGreatDoorV12
import Derived.Test.YtkinlobfdkeamaaGreatDoorV19
import Derived.Test.YtkinlobfdkeamaaGreatDoorV16
namespace Go.Proofs.YtkinlobfdkeamaaGreatDoor
open Go.RowKit

def sealP (s : SealV) : Bool := if s.pre.isEmpty = true then (s.num == 0) && isP 1 s.said else isP 1 s.pre && (decide (0 ≤ s.num) && (decide (s.num ≤ 1099511627776) && isP 1 s.said))

set_option maxHeartbeats 4000000 in
set_option maxRecDepth 100000 in
theorem seal_any (s : SealV) (w : World) : Calls Tryz.prog 50 #[s.val] w fun e w' => e = .returned (.bool (sealP s)) ∧ Below w.heap.size w w' := by
  obtain ⟨pre, num, said⟩ := s
  unfold SealV.val sealP
  dsimp only
  have hd1 := fun w => digest_any pre w
  have hd2 := fun w => digest_any said w
  generalize isP 1 pre = d1 at hd1 ⊢
  generalize isP 1 said = d2 at hd2 ⊢
  go_enter Tryz.func50, Tryz.ntmps50
  cases pre with
  | nil =>
    by_cases h0 : num = 0
    · subst h0
      go_wp2_with fail
      refine (hd2 _).mono ?_
      rintro e w1 ⟨rfl, b1⟩
      go_wp2_with fail
      go_ret
      exact ⟨by simp, ext_trans (ext_alloc _ _) b1⟩
    · have t0 : (num == 0) = false := by simpa using h0
      go_wp2_with fail
      go_ret
      exact ⟨by simp, ext_alloc _ _⟩
  | cons x r =>
    have he : (x :: r).isEmpty = false := rfl
    rw [he]
    generalize (x :: r) = pre at he hd1
    go_wp2_with fail
    refine (hd1 _).mono ?_
    rintro e w1 ⟨rfl, b1⟩
    have hrow := rowLater b1 (hA1_0 _ _)
    have hB := ext_trans (ext_alloc _ _) b1
    clear hd1 b1
    cases d1 with
    | false =>
      go_wp2_with fail
      go_ret
      exact ⟨rfl, hB⟩
    | true =>
      have c1 := cell_of_row _ _ 1 _ _ _ hrow
      have c2 := cell_of_row _ _ 2 _ _ _ hrow
      by_cases h1 : 0 ≤ num
      · by_cases h2 : num ≤ 1099511627776
        · go_wp2_with fail
          refine (hd2 _).mono ?_
          rintro e w2 ⟨rfl, b2⟩
          clear hd2 c1 c2
          go_wp2_with fail
          go_ret
          exact ⟨by simp, ext_trans hB b2⟩
        · go_wp2_with fail
          go_ret
          exact ⟨by rw [decide_eq_false (show ¬ num ≤ 1099511627776 by omega)]; simp, hB⟩
      · go_wp2_with fail
        go_ret
        exact ⟨by rw [decide_eq_false (show ¬ 0 ≤ num by omega)]; simp, hB⟩

set_option maxHeartbeats 4000000 in
set_option maxRecDepth 100000 in
theorem evalid2_any (s : SealV) (w : World) : Calls Tryz.prog 49 #[s.val] w fun e w' => e = .returned (.bool (!(sealP s))) ∧ Below w.heap.size w w' := by
  have ht := fun w => seal_any s w
  generalize sealP s = q at ht ⊢
  unfold SealV.val at ht ⊢
  go_enter Tryz.func49, Tryz.ntmps49
  go_wp2_with fail
  refine (ht _).mono ?_
  rintro e w1 ⟨rfl, b1⟩
  clear ht
  go_wp2_with fail
  go_ret
  exact ⟨rfl, ext_trans (ext_alloc _ _) b1⟩

/-- Is one of the seals none that may be an anchor? -/
theorem noseal (v : Value) (l : List SealV) (w : World) (h : Seals w v l) : Calls Tryz.prog 48 #[v, .func (.func 49) #[] #[]] w fun e w' => e = .returned (.bool (!(l.all sealP))) ∧ Below w.heap.size w w' :=
  containsFuncSeal0 49 (fun args w => MuLone.run_callFunc_enter Tryz.func49 (by kernel_rfl) rfl args w) v l.length _ _ _ (fun i => !(sealP (l.getD i ⟨[], 0, []⟩))) _ w h.row
    (fun i _ w' _ => evalid2_any _ w') (any_not_getD l sealP ⟨[], 0, []⟩)

end Go.Proofs.YtkinlobfdkeamaaGreatDoor

namespace Go.Proofs.YtkinlobfdkeamaaGreatDoor
open Go.RowKit

def wP (l : List (List UInt8)) : Bool := decide (0 ≤ l.length ∧ l.length ≤ 8) && allP 3 l
def witP (e : EvV) : Bool := (if inK e.kind = true then wP e.wits else wP e.cuts && wP e.adds) && (decide (0 ≤ e.tol) && decide (e.tol ≤ 8))

set_option maxHeartbeats 4000000 in
set_option maxRecDepth 100000 in
theorem wits1_any (v : Value) (l : List (List UInt8)) (w : World) (h : Strs w v l) : Calls Tryz.prog 116 #[v] w fun e w' => e = .returned (.bool (!(wP l))) ∧ Below w.heap.size w w' := by
  have ht := fun w h => all_witness 0 8 v l w h
  change ∀ w, Strs w v l → Calls Tryz.prog _ _ _ (fun e w' => e = .returned (.bool (wP l)) ∧ Below w.heap.size w w') at ht
  generalize wP l = q at ht ⊢
  obtain ⟨A, c, rfl⟩ := h.is
  go_enter Tryz.func116, Tryz.ntmps116
  go_wp2_with fail
  refine (ht _ h).mono ?_
  rintro e w1 ⟨rfl, b1⟩
  clear ht
  go_wp2_with fail
  go_ret
  exact ⟨rfl, b1⟩

theorem nowits (v : Value) (ev : Nat → Value) (ls : List (List (List UInt8))) (w : World) (h : Row1 w v ls.length ev) (hs : ∀ i, i < ls.length → Strs w (ev i) (ls.getD i [])) : Calls Tryz.prog 115 #[v, .func (.func 116) #[] #[]] w fun e w' => e = .returned (.bool (!(ls.all wP))) ∧ Below w.heap.size w w' :=
  containsFuncStrs0 116 (fun args w => MuLone.run_callFunc_enter Tryz.func116 (by kernel_rfl) rfl args w) v ls.length ev (fun i => !(wP (ls.getD i []))) _ w h
    (fun i hi w' hb => wits1_any _ _ w' ((hs i hi).later hb)) (any_not_getD ls wP [])

theorem add0 (b i : Nat) : (⟨b, 0, none⟩ : Addr).add i = ⟨b, i, none⟩ := by unfold Addr.add; split <;> simp_all
theorem row1_one {W : World} {b : Nat} {x : Value} {T : TypeId} (h : W.heap[b]? = some (.cells #[x] T (0, 0))) : Row1 W (.slice (some ⟨b, 0, none⟩) 1 1) 1 (fun _ => x) :=
  ⟨_, _, rfl, Nat.le_refl _, by omega, fun i hi => ⟨_, rfl, by
    rw [add0]
    have : i = 0 := by omega
    rw [this]
    exact cell_of_row _ _ 0 _ _ _ h⟩⟩
theorem row1_two {W : World} {b : Nat} {x y : Value} {T : TypeId} (h : W.heap[b]? = some (.cells #[x, y] T (0, 0))) : Row1 W (.slice (some ⟨b, 0, none⟩) 2 2) 2 (fun i => if i = 0 then x else y) :=
  ⟨_, _, rfl, Nat.le_refl _, by omega, fun i hi => ⟨_, rfl, by
    rw [add0]
    have : i = 0 ∨ i = 1 := by omega
    rcases this with rfl | rfl
    · exact cell_of_row _ _ 0 _ _ _ h
    · exact cell_of_row _ _ 1 _ _ _ h⟩⟩

set_option maxHeartbeats 4000000 in
set_option maxRecDepth 100000 in
theorem ev_witnesses (e : EvV) (u : EvS) (w : World) (h : EvM w e u) : Calls Tryz.prog 81 #[.agg (evCells e u)] w fun r w' => r = .returned (.bool (witP e)) ∧ Below w.heap.size w w' := by
  have hws := h.ws
  have hcs := h.cs
  have haa := h.aa
  clear h
  obtain ⟨form, kind, said, pre, num, prior, thr, keys, nthr, next, tol, wits, cuts, adds, conf, anc, del⟩ := e
  obtain ⟨tw, ks, nw, nx, ws, cs, aa, cf, an⟩ := u
  unfold evCells witP
  dsimp only at *
  obtain ⟨A1, c1, rfl⟩ := hws.is
  obtain ⟨A2, c2, rfl⟩ := hcs.is
  obtain ⟨A3, c3, rfl⟩ := haa.is
  have hk := fun w => event_inception kind w
  have h1 := fun w' (v : Value) (hb : Below w.heap.size w w') (hr : Row1 w' v 1 (fun _ => .slice A1 wits.length c1)) => nowits v (fun _ => .slice A1 wits.length c1) [wits] w' hr (fun i hi => by
    have : i = 0 := by simp at hi; exact hi
    subst this; exact hws.later hb)
  have h2 := fun w' (v : Value) (hb : Below w.heap.size w w') (hr : Row1 w' v 2 (fun i => if i = 0 then .slice A2 cuts.length c2 else .slice A3 adds.length c3)) => nowits v (fun i => if i = 0 then .slice A2 cuts.length c2 else .slice A3 adds.length c3) [cuts, adds] w' hr (fun i hi => by
    have : i = 0 ∨ i = 1 := by simp at hi; omega
    rcases this with rfl | rfl
    · exact hcs.later hb
    · exact haa.later hb)
  rw [show [wits].all wP = wP wits by simp] at h1
  rw [show [cuts, adds].all wP = (wP cuts && wP adds) by simp] at h2
  generalize wP wits = q1 at h1 ⊢
  generalize (wP cuts && wP adds) = q2 at h2 ⊢
  generalize inK kind = q at hk ⊢
  clear hws hcs haa
  go_enter Tryz.func81, Tryz.ntmps81
  go_wp2_with fail
  refine (hk _).mono ?_
  rintro r w1 ⟨rfl, rfl⟩
  cases q with
  | true =>
    go_wp2_with fail
    refine (h1 _ _ (extA3 _ _ _ _) (row1_one (hA3_2 _ _ _ _))).mono ?_
    rintro r w1 ⟨rfl, b1⟩
    have hrow := rowLater b1 (hA3_0 _ _ _ _)
    have hB := ext_trans (extA3 _ _ _ _) b1
    clear h1 h2 b1
    cases q1 with
    | false =>
      go_wp2_with fail
      go_ret
      exact ⟨rfl, hB⟩
    | true =>
      have c12 := cell_of_row _ _ 12 _ _ _ hrow
      by_cases t0 : 0 ≤ tol
      · go_wp2_with fail
        go_ret
        exact ⟨by simp, hB⟩
      · go_wp2_with fail
        go_ret
        exact ⟨by rw [decide_eq_false (show ¬ 0 ≤ tol by omega)]; rfl, hB⟩
  | false =>
    go_wp2_with fail
    refine (h2 _ _ (extA2 _ _ _) (row1_two (hA2_1 _ _ _))).mono ?_
    rintro r w1 ⟨rfl, b1⟩
    have hrow := rowLater b1 (hA2_0 _ _ _)
    have hB := ext_trans (extA2 _ _ _) b1
    clear h1 h2 b1
    cases q2 with
    | false =>
      go_wp2_with fail
      go_ret
      exact ⟨rfl, hB⟩
    | true =>
      have c12 := cell_of_row _ _ 12 _ _ _ hrow
      by_cases t0 : 0 ≤ tol
      · go_wp2_with fail
        go_ret
        exact ⟨by simp, hB⟩
      · go_wp2_with fail
        go_ret
        exact ⟨by rw [decide_eq_false (show ¬ 0 ≤ tol by omega)]; rfl, hB⟩

end Go.Proofs.YtkinlobfdkeamaaGreatDoor

namespace Go.Proofs.YtkinlobfdkeamaaGreatDoor
open Go.RowKit

theorem krow_lt {w : World} {b : Nat} {o : Obj} (h : w.heap[b]? = some o) : b < w.heap.size := (Array.getElem?_eq_some_iff.1 h).1
theorem Dice.lt {D : Nat} {A : Option Addr} {n c : Nat} {w : World} (h : Dice D A n c w) : D < w.heap.size := by
  obtain ⟨t, hr, _⟩ := h.row
  exact krow_lt hr

/-- The cells of texts. -/
def strCells (l : List (List UInt8)) : Array Value := (l.map fun s => Value.string ⟨s.toArray⟩).toArray
theorem strs_of_row {W : World} {b : Nat} {T : TypeId} (l : List (List UInt8)) (h : W.heap[b]? = some (.cells (strCells l) T (0, 0))) (hl : l.length ≤ 1000000) (hs : ∀ s ∈ l, s.length ≤ 1000000) : Strs W (.slice (some ⟨b, 0, none⟩) l.length l.length) l :=
  ⟨⟨_, _, rfl, Nat.le_refl _, fun i hi => ⟨_, rfl, by
    rw [add0, cell_of_row _ _ i _ _ _ h]
    unfold strCells
    rw [List.getElem?_toArray, List.getElem?_map, List.getElem?_eq_getElem hi, List.getD_eq_getElem?_getD, List.getElem?_eq_getElem hi]
    rfl⟩⟩, hl, hs⟩
theorem firm_row {D : Nat} {W : World} {b : Nat} {T : TypeId} (l : List (List UInt8)) (h : W.heap[b]? = some (.cells (strCells l) T (0, 0))) (hb : b ≠ D) (hl : l.length ≤ 1000000) (hs : ∀ s ∈ l, s.length ≤ 1000000) : Firm D W (fun W' => Strs W' (.slice (some ⟨b, 0, none⟩) l.length l.length) l) :=
  fun _ hk => strs_of_row l (hk.row hb h) hl hs

set_option maxHeartbeats 4000000 in
set_option maxRecDepth 100000 in
theorem kword_any (D : Nat) (A : Option Addr) (n c : Nat) (v : Value) (l : List (List UInt8)) (h1 : 1 ≤ l.length) (w : World) (hd : Dice D A n c w) (hs : Firm D w (fun W => Strs W v l)) : Calls Tryz.prog 23 #[.pointer (some ⟨D, 0, none⟩), v] w fun e w' => (∃ s : List UInt8, e = .returned (.string ⟨s.toArray⟩) ∧ s ∈ l) ∧ KitW D A n c w w' := by
  have hfew := hs.now.few
  obtain ⟨B, cap, rfl⟩ := hs.now.is
  have HN : PLift _ := PLift.up (next_any D A n c (l.length : Int) (by omega) (by omega) w hd)
  have HS : PLift _ := PLift.up hs
  clear hs hd
  go_enter Tryz.func23, Tryz.ntmps23
  go_wp2_with fail
  refine HN.down.mono ?_
  rintro e w1 ⟨⟨z, rfl, z0, z1⟩, hk⟩
  have HK : PLift _ := PLift.up hk
  obtain ⟨⟨B', cap', he, hcap, hel⟩, _, _⟩ := HS.down w1 hk.b
  cases he
  obtain ⟨k, rfl⟩ := Int.eq_ofNat_of_zero_le z0
  have hk2 : k < l.length := by omega
  obtain ⟨ad, rfl, hc⟩ := hel k hk2
  have hin : l.getD k [] ∈ l := getD_mem hk2
  clear hel hk
  generalize l.getD k [] = x at hc hin
  go_wp2_with fail
  go_ret
  exact ⟨⟨x, rfl, hin⟩, HK.down⟩

theorem make44 (f : Form) (hc : f = ⟨1, [69], 32⟩ ∨ f = ⟨2, [68], 32⟩ ∨ f = ⟨3, [66], 32⟩) (raw : List UInt8) (hr : raw.length = 32) : (makeP f raw).length = 44 := by
  have hl : f.lead = 1 := by rcases hc with rfl | rfl | rfl <;> rfl
  have hst : f.str.length = 1 := by rcases hc with rfl | rfl | rfl <;> rfl
  unfold makeP
  rw [hl]
  have := encL_len (List.replicate 1 0 ++ raw) (by rw [List.length_append, List.length_replicate, hr])
  rw [List.length_append, List.length_replicate, hr] at this
  rw [List.length_append, List.length_drop, hst]
  omega
theorem digP_len (l : List UInt8) : (digP l).length = 44 := make44 fDigest (Or.inl rfl) _ (shaL_len l)

def w8 : List (List UInt8) := [[97], [98], [99], [100], [101], [102], [103], [104]]
def w10 : List (List UInt8) := [[107], [108], [109], [110], [111], [112], [113], [114], [115], [116]]
def w3 : List (List UInt8) := [[120], [121], [122]]
def wc3 : List (List UInt8) := [[69, 79], [68, 78, 68], [78, 82, 66]]
theorem short_of {l : List (List UInt8)} (h : l.all (fun s => decide (s.length ≤ 20)) = true) : ∀ s ∈ l, s.length ≤ 20 := fun s hs => of_decide_eq_true (List.all_eq_true.1 h s hs)
theorem short_m {l : List (List UInt8)} (h : l.all (fun s => decide (s.length ≤ 20)) = true) : ∀ s ∈ l, s.length ≤ 1000000 := fun s hs => by have := short_of h s hs; omega

set_option maxHeartbeats 4000000 in
set_option maxRecDepth 100000 in
theorem kdigest_any (D : Nat) (A : Option Addr) (n c : Nat) (w : World) (hd : Dice D A n c w) : Calls Tryz.prog 28 #[.pointer (some ⟨D, 0, none⟩)] w fun e w' => (∃ s : List UInt8, e = .returned (.string ⟨s.toArray⟩) ∧ s.length = 44) ∧ KitW D A n c w w' := by
  have hlt := hd.lt
  have hX : ∀ o, Below w.heap.size w (w.alloc o) := fun o => ext_alloc w o
  have HW : PLift _ := PLift.up (fun (W : World) (v : Value) (h1 : Dice D A n c W) (h2 : Firm D W (fun W => Strs W v w8)) => kword_any D A n c v w8 (by decide) W h1 h2)
  have HD : PLift _ := PLift.up (fun (s : List UInt8) (hs : s.length ≤ 20) w => r10_digest s (by omega) w)
  have HA : PLift _ := PLift.up hd
  clear hd hX
  go_enter Tryz.func28, Tryz.ntmps28
  go_wp2_with fail
  refine (HW.down _ _ (HA.down.later (ext_alloc _ _)) (firm_row w8 (hA1_0 _ _) (by omega) (by decide) (short_m (by decide)))).mono ?_
  rintro e w1 ⟨⟨s, rfl, hs⟩, hk⟩
  have hs20 := short_of (l := w8) (by decide) s hs
  have HK : PLift _ := PLift.up hk
  clear hk hs
  go_wp2_with fail
  refine (HD.down s hs20 _).mono ?_
  rintro e w2 ⟨rfl, b2⟩
  go_wp2_with fail
  go_ret
  exact ⟨⟨_, rfl, digP_len s⟩, ((KitW.refl HA.down).later (ext_alloc _ _)).trans (HK.down.later b2)⟩

set_option maxHeartbeats 4000000 in
set_option maxRecDepth 100000 in
theorem kkey_any (D : Nat) (A : Option Addr) (n c : Nat) (w : World) (hd : Dice D A n c w) : Calls Tryz.prog 34 #[.pointer (some ⟨D, 0, none⟩)] w fun e w' => (∃ s : List UInt8, e = .returned (.string ⟨s.toArray⟩) ∧ s.length = 44) ∧ KitW D A n c w w' := by
  have hlt := hd.lt
  have HW : PLift _ := PLift.up (fun (W : World) (v : Value) (h1 : Dice D A n c W) (h2 : Firm D W (fun W => Strs W v w10)) => kword_any D A n c v w10 (by decide) W h1 h2)
  have HD : PLift _ := PLift.up (fun (s : List UInt8) (hs : s.length ≤ 20) w => ref_sum ⟨s.toArray⟩ (by show s.toArray.size ≤ _; rw [List.size_toArray]; omega) w)
  have HM : PLift _ := PLift.up (fun (s : List UInt8) w => r03_make ⟨2, [68], 32⟩ (by simp [allForms]) (shaL s) (shaL_len s) w)
  have HA : PLift _ := PLift.up hd
  clear hd
  go_enter Tryz.func34, Tryz.ntmps34
  go_wp2_with fail
  refine (HW.down _ _ (HA.down.later (ext_alloc _ _)) (firm_row w10 (hA1_0 _ _) (by omega) (by decide) (short_m (by decide)))).mono ?_
  rintro e w1 ⟨⟨s, rfl, hs⟩, hk⟩
  have hs20 := short_of (l := w10) (by decide) s hs
  have HK : PLift _ := PLift.up hk
  clear hk hs
  go_wp2_with fail
  refine (HD.down s hs20 _).mono ?_
  rintro e w2 ⟨rfl, b2⟩
  rw [show (⟨s.toArray⟩ : ByteArray).data.toList = s from rfl]
  go_wp2_with fail
  refine (HM.down s _).mono ?_
  rintro e w3 ⟨rfl, b3⟩
  go_wp2_with fail
  go_ret
  exact ⟨⟨_, rfl, make44 ⟨2, [68], 32⟩ (by simp) _ (shaL_len s)⟩, ((KitW.refl HA.down).later (ext_alloc _ _)).trans ((HK.down.later b2).later b3)⟩

set_option maxHeartbeats 4000000 in
set_option maxRecDepth 100000 in
theorem kstays_any (D : Nat) (A : Option Addr) (n c : Nat) (w : World) (hd : Dice D A n c w) : Calls Tryz.prog 32 #[.pointer (some ⟨D, 0, none⟩)] w fun e w' => (∃ s : List UInt8, e = .returned (.string ⟨s.toArray⟩) ∧ s.length = 44) ∧ KitW D A n c w w' := by
  have hlt := hd.lt
  have HW : PLift _ := PLift.up (fun (W : World) (v : Value) (h1 : Dice D A n c W) (h2 : Firm D W (fun W => Strs W v w10)) => kword_any D A n c v w10 (by decide) W h1 h2)
  have HD : PLift _ := PLift.up (fun (s : List UInt8) (hs : s.length ≤ 20) w => ref_sum ⟨s.toArray⟩ (by show s.toArray.size ≤ _; rw [List.size_toArray]; omega) w)
  have HM : PLift _ := PLift.up (fun (s : List UInt8) w => r03_make ⟨3, [66], 32⟩ (by simp [allForms]) (shaL s) (shaL_len s) w)
  have HA : PLift _ := PLift.up hd
  clear hd
  go_enter Tryz.func32, Tryz.ntmps32
  go_wp2_with fail
  refine (HW.down _ _ (HA.down.later (ext_alloc _ _)) (firm_row w10 (hA1_0 _ _) (by omega) (by decide) (short_m (by decide)))).mono ?_
  rintro e w1 ⟨⟨s, rfl, hs⟩, hk⟩
  have hs20 := short_of (l := w10) (by decide) s hs
  have HK : PLift _ := PLift.up hk
  clear hk hs
  go_wp2_with fail
  refine (HD.down s hs20 _).mono ?_
  rintro e w2 ⟨rfl, b2⟩
  rw [show (⟨s.toArray⟩ : ByteArray).data.toList = s from rfl]
  go_wp2_with fail
  refine (HM.down s _).mono ?_
  rintro e w3 ⟨rfl, b3⟩
  go_wp2_with fail
  go_ret
  exact ⟨⟨_, rfl, make44 ⟨3, [66], 32⟩ (by simp) _ (shaL_len s)⟩, ((KitW.refl HA.down).later (ext_alloc _ _)).trans ((HK.down.later b2).later b3)⟩

set_option maxHeartbeats 4000000 in
set_option maxRecDepth 100000 in
theorem kevent1_any (D : Nat) (A : Option Addr) (n c p : Nat) (w : World) (hd : Dice D A n c w) (hp : w.cell? ⟨p, 0, none⟩ = some (.pointer (some ⟨D, 0, none⟩))) : Calls Tryz.prog 33 #[.pointer (some ⟨p, 0, none⟩)] w fun e w' => (∃ s : List UInt8, e = .returned (.string ⟨s.toArray⟩) ∧ s.length ≤ 20) ∧ KitW D A n c w w' := by
  have hlt := hd.lt
  have HW : PLift _ := PLift.up (fun (W : World) (v : Value) (h1 : Dice D A n c W) (h2 : Firm D W (fun W => Strs W v wc3)) => kword_any D A n c v wc3 (by decide) W h1 h2)
  have HA : PLift _ := PLift.up hd
  clear hd
  go_enter Tryz.func33, Tryz.ntmps33
  go_wp2_with fail
  refine (HW.down _ _ (HA.down.later (ext_alloc _ _)) (firm_row wc3 (hA1_0 _ _) (by omega) (by decide) (short_m (by decide)))).mono ?_
  rintro e w1 ⟨⟨s, rfl, hs⟩, hk⟩
  have HS : PLift _ := PLift.up (short_of (l := wc3) (by decide) s hs)
  have HK : PLift _ := PLift.up hk
  clear hk hs
  go_wp2_with fail
  go_ret
  exact ⟨⟨_, rfl, HS.down⟩, ((KitW.refl HA.down).later (ext_alloc _ _)).trans HK.down⟩

set_option maxHeartbeats 4000000 in
set_option maxRecDepth 100000 in
theorem kevent2_any (D : Nat) (A : Option Addr) (n c p : Nat) (w : World) (hd : Dice D A n c w) (hp : w.cell? ⟨p, 0, none⟩ = some (.pointer (some ⟨D, 0, none⟩))) : Calls Tryz.prog 35 #[.pointer (some ⟨p, 0, none⟩)] w fun e w' => (∃ s : List UInt8, e = .returned (.string ⟨s.toArray⟩) ∧ s.length = 44) ∧ KitW D A n c w w' := by
  have hlt := hd.lt
  have HW : PLift _ := PLift.up (fun (W : World) (v : Value) (h1 : Dice D A n c W) (h2 : Firm D W (fun W => Strs W v w3)) => kword_any D A n c v w3 (by decide) W h1 h2)
  have HD : PLift _ := PLift.up (fun (s : List UInt8) (hs : s.length ≤ 20) w => ref_sum ⟨s.toArray⟩ (by show s.toArray.size ≤ _; rw [List.size_toArray]; omega) w)
  have HM : PLift _ := PLift.up (fun (s : List UInt8) w => r03_make ⟨2, [68], 32⟩ (by simp [allForms]) (shaL s) (shaL_len s) w)
  have HA : PLift _ := PLift.up hd
  clear hd
  go_enter Tryz.func35, Tryz.ntmps35
  go_wp2_with fail
  refine (HW.down _ _ (HA.down.later (ext_alloc _ _)) (firm_row w3 (hA1_0 _ _) (by omega) (by decide) (short_m (by decide)))).mono ?_
  rintro e w1 ⟨⟨s, rfl, hs⟩, hk⟩
  have hs20 := short_of (l := w3) (by decide) s hs
  have HK : PLift _ := PLift.up hk
  clear hk hs
  go_wp2_with fail
  refine (HD.down s hs20 _).mono ?_
  rintro e w2 ⟨rfl, b2⟩
  rw [show (⟨s.toArray⟩ : ByteArray).data.toList = s from rfl]
  go_wp2_with fail
  refine (HM.down s _).mono ?_
  rintro e w3 ⟨rfl, b3⟩
  go_wp2_with fail
  go_ret
  exact ⟨⟨_, rfl, make44 ⟨2, [68], 32⟩ (by simp) _ (shaL_len s)⟩, ((KitW.refl HA.down).later (ext_alloc _ _)).trans ((HK.down.later b2).later b3)⟩

end Go.Proofs.YtkinlobfdkeamaaGreatDoor

