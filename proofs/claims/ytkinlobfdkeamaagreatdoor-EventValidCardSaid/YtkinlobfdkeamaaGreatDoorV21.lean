/- The sum of weights, the program's. When a threshold is valid, the program's way. The texts of Config: the program's test. -/
import Derived.Test.YtkinlobfdkeamaaGreatDoorV20
import Derived.Test.YtkinlobfdkeamaaGreatDoorV14
import Derived.Test.YtkinlobfdkeamaaGreatDoorShelf
import Derived.Shelf.Strings.SlTrimAscii
namespace Go.Proofs.YtkinlobfdkeamaaGreatDoor
open Go.RowKit

def toN (f : FracV) : Nat × Nat := (f.1.toNat, f.2.toNat)
/-- The sum of fractions. -/
def totN (l : List FracV) : Nat × Nat := l.foldl (fun a f => addN a (toN f)) (0, 1)

theorem totN_step (l : List FracV) (k : Nat) (h : k < l.length) : totN (l.take (k + 1)) = addN (totN (l.take k)) (toN (l.getD k (0, 0))) := by
  have e : l.take (k + 1) = l.take k ++ [l.getD k (0, 0)] := by
    rw [List.take_add_one, List.getElem?_eq_getElem h, List.getD_eq_getElem?_getD, List.getElem?_eq_getElem h]; rfl
  unfold totN
  rw [e, List.foldl_append]; rfl

/-- All of a list are weights. -/
def wtsP (l : List FracV) : Bool := l.all fun f => wtP f.1 f.2

theorem wtP_facts {n d : Int} (h : wtP n d = true) : 1 ≤ d ∧ d ≤ 100 ∧ 0 ≤ n ∧ n ≤ d := by
  unfold wtP at h
  simp only [Bool.and_eq_true, decide_eq_true_eq] at h
  exact ⟨h.1.1, h.1.2, h.2.1.1, h.2.1.2⟩

theorem wts_getD {l : List FracV} (h : wtsP l = true) {k : Nat} (hk : k < l.length) : wtP (l.getD k (0, 0)).1 (l.getD k (0, 0)).2 = true := by
  have h' := List.all_eq_true.1 h (l.getD k (0, 0)) (by rw [List.getD_eq_getElem?_getD, List.getElem?_eq_getElem hk]; exact List.getElem_mem _)
  exact h'

theorem addN_bounds {a : Nat × Nat} {f : FracV} {k : Nat} (hf : wtP f.1 f.2 = true) (ha : 0 < a.2) (hb : a.2 ≤ 100 ^ k) (hc : a.1 ≤ k * a.2) :
    0 < (addN a (toN f)).2 ∧ (addN a (toN f)).2 ≤ 100 ^ (k + 1) ∧ (addN a (toN f)).1 ≤ (k + 1) * (addN a (toN f)).2 ∧ 0 < a.2 * (toN f).2 ∧ a.2 * (toN f).2 ≤ 100 ^ (k + 1) ∧ a.1 * (toN f).2 + (toN f).1 * a.2 ≤ (k + 1) * 100 ^ (k + 1) := by
  obtain ⟨h1, h2, h3, h4⟩ := wtP_facts hf
  obtain ⟨x, y⟩ := f
  obtain ⟨X, rfl⟩ := Int.eq_ofNat_of_zero_le h3
  obtain ⟨Y, rfl⟩ := Int.eq_ofNat_of_zero_le (show 0 ≤ y by omega)
  obtain ⟨A, B⟩ := a
  have e1 : (toN ((X : Int), (Y : Int))).1 = X := rfl
  have e2 : (toN ((X : Int), (Y : Int))).2 = Y := rfl
  unfold addN
  rw [e1, e2]
  dsimp only at *
  have hY : 0 < Y := by omega
  have hY2 : Y ≤ 100 := by omega
  have hXY : X ≤ Y := by omega
  have p : 0 < B * Y := Nat.mul_pos ha hY
  have q : B * Y ≤ 100 ^ (k + 1) := by rw [Nat.pow_succ]; exact Nat.mul_le_mul hb hY2
  have r : A * Y + X * B ≤ (k + 1) * (B * Y) := by
    have r1 : A * Y ≤ k * (B * Y) := by rw [← Nat.mul_assoc]; exact Nat.mul_le_mul_right _ hc
    have r2 : X * B ≤ B * Y := by rw [Nat.mul_comm B Y]; exact Nat.mul_le_mul_right _ hXY
    rw [Nat.add_mul, Nat.one_mul]; omega
  have hg : Nat.gcd (A * Y + X * B) (B * Y) ∣ B * Y := Nat.gcd_dvd_right _ _
  have hg' : Nat.gcd (A * Y + X * B) (B * Y) ∣ A * Y + X * B := Nat.gcd_dvd_left _ _
  have gp : 0 < Nat.gcd (A * Y + X * B) (B * Y) := Nat.gcd_pos_of_pos_right _ p
  refine ⟨Nat.div_pos (Nat.le_of_dvd p hg) gp, Nat.le_trans (Nat.div_le_self _ _) q, ?_, p, q, Nat.le_trans r (Nat.mul_le_mul_left _ q)⟩
  rw [← Nat.mul_div_assoc _ hg]
  exact Nat.div_le_div_right r

theorem totN_bounds (l : List FracV) (h : wtsP l = true) : ∀ k, k ≤ l.length → 0 < (totN (l.take k)).2 ∧ (totN (l.take k)).2 ≤ 100 ^ k ∧ (totN (l.take k)).1 ≤ k * (totN (l.take k)).2 := by
  intro k
  induction k with
  | zero => intro _; simp [totN]
  | succ k ih =>
    intro hk
    obtain ⟨a, b, c⟩ := ih (by omega)
    rw [totN_step l k (by omega)]
    obtain ⟨p, q, r, _⟩ := addN_bounds (wts_getD h (show k < l.length by omega)) a b c
    exact ⟨p, q, r⟩

theorem pow100 {k : Nat} (h : k < 8) : 100 ^ (k + 1) ≤ 10000000000000000 ∧ (k + 1) * 100 ^ (k + 1) ≤ 80000000000000000 := by
  have h1 : 100 ^ (k + 1) ≤ 100 ^ 8 := Nat.pow_le_pow_right (by omega) (by omega)
  exact ⟨h1, Nat.le_trans (Nat.mul_le_mul (show k + 1 ≤ 8 by omega) h1) (by decide)⟩

structure TotW (w0 w : World) (n : Nat) (a b : Nat) : Prop where
  p : w.heap[n]? = some (.cells #[.int .i64 0, .int .i64 0] 93 (0, 0))
  q : w.heap[n + 1]? = some (.cells #[.int .i64 (a : Int), .int .i64 (b : Int)] 93 (0, 0))
  low : Below w0.heap.size w0 w
theorem TotW.later {w0 w w' : World} {n a b : Nat} (h : TotW w0 w n a b) (hb : Below w.heap.size w w') : TotW w0 w' n a b := ⟨rowLater hb h.p, rowLater hb h.q, ext_trans h.low hb⟩

theorem TotW.set {w0 w : World} {n a b : Nat} (h : TotW w0 w n a b) (hn : w0.heap.size ≤ n) (a' b' : Nat) : TotW w0 (w.setRow (n + 1) #[.int .i64 (a' : Int), .int .i64 (b' : Int)]) n a' b' :=
  ⟨(setRow_other _ _ _ _ (by omega)).trans h.p, setRow_heap _ _ _ _ _ _ h.q, below_setRow' h.low (by omega) _⟩

set_option maxHeartbeats 4000000 in
set_option maxRecDepth 100000 in
theorem total_any (v : Value) (l : List FracV) (w : World) (h : Fracs w v l) (hl : l.length ≤ 8) (hw : wtsP l = true) : Calls Tryz.prog 143 #[v] w fun e w' => e = .returned (.agg #[.int .i64 ((totN l).1 : Int), .int .i64 ((totN l).2 : Int)]) ∧ Below w.heap.size w w' := by
  obtain ⟨A, c, rfl, hc, hn, hel⟩ := h
  go_enter Tryz.func143, Tryz.ntmps143
  go_wp2_with fail
  go_loopw [9] (fun v9 wr => ∃ k : Nat, k ≤ l.length ∧ v9 = .int .i64 (k : Int) ∧ TotW w wr w.heap.size (totN (l.take k)).1 (totN (l.take k)).2) (fun v9 _ => ((l.length : Int) - intOf v9).toNat)
  case atStart => exact ⟨0, by omega, rfl, hA2_0 _ _ _, hA2_1 _ _ _, extA2 _ _ _⟩
  case round =>
    obtain ⟨k, hk, rfl, hW⟩ := hrel
    by_cases hlt : k < l.length
    · obtain ⟨ad, rfl, hc0, hc1⟩ := hel k hlt
      have d0 := cellLater hW.low hc0
      have d1 := cellLater hW.low hc1
      have j0 : (k : Int) < l.length := by omega
      obtain ⟨B1, B2, B3⟩ := totN_bounds l hw k hk
      have hwt := wts_getD hw hlt
      obtain ⟨_, _, _, p1, p2, p3⟩ := addN_bounds hwt B1 B2 B3
      obtain ⟨P1, P2⟩ := pow100 (show k < 8 by omega)
      have hS := totN_step l k hlt
      obtain ⟨F1, F2, F3, F4⟩ := wtP_facts hwt
      clear hel hc0 hc1 hwt B2 B3
      generalize l.getD k (0, 0) = f at *
      generalize totN (l.take k) = a at *
      obtain ⟨x, y⟩ := f
      obtain ⟨X, rfl⟩ := Int.eq_ofNat_of_zero_le F3
      obtain ⟨Y, rfl⟩ := Int.eq_ofNat_of_zero_le (show 0 ≤ y by simp only at F1; omega)
      obtain ⟨M, N⟩ := a
      have e1 : toN ((X : Int), (Y : Int)) = (X, Y) := rfl
      rw [e1] at p1 p2 p3 hS
      dsimp only at *
      have hadd := fun w => add_any M N X Y (by omega) (by omega) p1 w
      have HS := Lib.hid hS
      have hW2 := hW.later (ext_alloc wr (.cells #[.int .i64 (X : Int), .int .i64 (Y : Int)] 93))
      have c0 := cell_of_row _ _ 0 _ _ _ hW2.q
      have c1 := cell_of_row _ _ 1 _ _ _ hW2.q
      clear p1 p2 p3 P1 P2 F1 F2 F3 F4 B1 hS
      generalize addN (M, N) (X, Y) = s at hadd HS
      obtain ⟨s1, s2⟩ := s
      dsimp only at hadd
      go_wp2_with fail
      refine (hadd _).mono ?_
      rintro e w1 ⟨rfl, b1⟩
      clear hadd c0 c1 d0 d1 hW
      have hW3 := hW2.later b1
      have hq := hW3.q
      go_wp2_with (refine wpList_store_row rfl 93 _ _ rfl (w.heap.size + 1) #[.int .i64 (s1 : Int), .int .i64 (s2 : Int)] rfl rfl 93 _ hq (by kernel_rfl) rfl (by kernel_rfl) ?_)
      exact ⟨⟨k + 1, by omega, by go_num, by rw [HS.out]; exact hW3.set (Nat.le_refl _) _ _⟩, by simp only [intOf]; omega⟩
    · have hkl : k = l.length := by omega
      subst hkl
      rw [List.take_length] at hW
      have c0 := cell_of_row _ _ 0 _ _ _ hW.q
      have c1 := cell_of_row _ _ 1 _ _ _ hW.q
      have hp := hW.p
      have hlow := hW.low
      obtain ⟨s, hs⟩ : ∃ s, s = totN l := ⟨_, rfl⟩
      rw [← hs] at c0 c1
      have HS := Lib.hid hs
      clear hs hel hW
      obtain ⟨s1, s2⟩ := s
      dsimp only at c0 c1
      go_wp2_with (refine wpList_store_row rfl 93 _ _ rfl w.heap.size #[.int .i64 (s1 : Int), .int .i64 (s2 : Int)] rfl rfl 93 _ hp (by kernel_rfl) rfl (by kernel_rfl) ?_)
      refine bodyPost_ret (results_cell_row rfl _ _ w.heap.size _ _ _ _ rfl (setRow_heap _ _ _ _ _ _ hp) Tryz.underlying93 rfl (by kernel_rfl)) rfl ⟨by rw [← HS.out], ?_⟩
      exact below_setRow' hlow (Nat.le_refl _) _

end Go.Proofs.YtkinlobfdkeamaaGreatDoor

namespace Go.Proofs.YtkinlobfdkeamaaGreatDoor
open Go.RowKit

/-- Is the sum of weights at least 1? -/
def wholeP (l : List FracV) : Bool := decide ((totN l).2 ≤ (totN l).1)
/-- How many fractions there are. -/
def sumLen : List (List FracV) → Nat
  | [] => 0
  | l :: r => l.length + sumLen r
/-- Is a list of weights not empty? -/
def goodW (l : List FracV) : Bool := decide (0 < l.length) && wtsP l
/-- For how many keys the weights are; -1: none. -/
def keysV (ws : List (List FracV)) : Int := if (ws.all goodW && decide (sumLen ws ≤ 8)) = true then (sumLen ws : Int) else -1
/-- When a threshold is valid for a number of keys. -/
def thrP (t : ThrV) (keys : Nat) : Bool :=
  if t.num ≠ 0 then decide (0 < t.num) && (decide (t.num ≤ keys) && (decide (keys ≤ 8) && decide (t.ws.length = 0)))
  else if t.ws.length = 0 then decide (keys = 0)
  else decide (0 < keys) && ((keysV t.ws == (keys : Int)) && t.ws.all wholeP)

theorem sumLen_append (a b : List (List FracV)) : sumLen (a ++ b) = sumLen a + sumLen b := by
  induction a with
  | nil => simp [sumLen]
  | cons x r ih => simp [sumLen, ih]; omega
theorem sumLen_step (ws : List (List FracV)) (k : Nat) (h : k < ws.length) : sumLen (ws.take (k + 1)) = sumLen (ws.take k) + (ws.getD k []).length := by
  have e : ws.take (k + 1) = ws.take k ++ [ws.getD k []] := by
    rw [List.take_add_one, List.getElem?_eq_getElem h, List.getD_eq_getElem?_getD, List.getElem?_eq_getElem h]; rfl
  rw [e, sumLen_append]; simp [sumLen]
theorem sumLen_le (ws : List (List FracV)) (k : Nat) : sumLen (ws.take k) ≤ sumLen ws := by
  have := sumLen_append (ws.take k) (ws.drop k)
  rw [List.take_append_drop] at this; omega
theorem sumLen_mem {ws : List (List FracV)} {l : List FracV} (h : l ∈ ws) : l.length ≤ sumLen ws := by
  induction ws with
  | nil => simp at h
  | cons x r ih =>
    rw [List.mem_cons] at h
    rcases h with rfl | h
    · simp [sumLen]
    · have := ih h; simp [sumLen]; omega
theorem all_take_step {α : Type} (l : List α) (p : α → Bool) (d : α) (k : Nat) (h : k < l.length) : (l.take (k + 1)).all p = ((l.take k).all p && p (l.getD k d)) := by
  have e : l.take (k + 1) = l.take k ++ [l.getD k d] := by
    rw [List.take_add_one, List.getElem?_eq_getElem h, List.getD_eq_getElem?_getD, List.getElem?_eq_getElem h]; rfl
  rw [e, List.all_append]; simp
theorem all_take_false {α : Type} (l : List α) (p : α → Bool) (d : α) (k : Nat) (h : k < l.length) (hp : p (l.getD k d) = false) : l.all p = false := by
  rw [Bool.eq_false_iff]
  intro ha
  have := List.all_eq_true.1 ha (l.getD k d) (by rw [List.getD_eq_getElem?_getD, List.getElem?_eq_getElem h]; exact List.getElem_mem _)
  rw [hp] at this; exact absurd this (by simp)
theorem any_not_getD {α : Type} (l : List α) (p : α → Bool) (d : α) : (!(l.all p)) = true ↔ ∃ i, i < l.length ∧ (!(p (l.getD i d))) = true := by
  constructor
  · intro h
    have h' : l.all p = false := by simpa using h
    rw [List.all_eq_false] at h'
    obtain ⟨x, hx, hp⟩ := h'
    obtain ⟨i, hi, rfl⟩ := List.mem_iff_getElem.1 hx
    exact ⟨i, hi, by rw [List.getD_eq_getElem?_getD, List.getElem?_eq_getElem hi]; simpa using hp⟩
  · rintro ⟨i, hi, h⟩
    have := all_take_false l p d i hi (by simpa using h)
    rw [this]; rfl

set_option maxHeartbeats 4000000 in
set_option maxRecDepth 100000 in
theorem whole_any (v : Value) (l : List FracV) (w : World) (h : Fracs w v l) (hl : l.length ≤ 8) (hw : wtsP l = true) : Calls Tryz.prog 112 #[v] w fun e w' => e = .returned (.bool (wholeP l)) ∧ Below w.heap.size w w' := by
  have ht := total_any v l w h hl hw
  unfold wholeP
  obtain ⟨A, c, rfl, hc, hn, hel⟩ := h
  generalize totN l = s at ht ⊢
  obtain ⟨s1, s2⟩ := s
  dsimp only at ht ⊢
  clear hel
  go_enter Tryz.func112, Tryz.ntmps112
  go_wp2_with fail
  refine ht.mono ?_
  rintro e w1 ⟨rfl, b1⟩
  clear ht
  go_wp2_with fail
  go_ret
  exact ⟨rfl, ext_trans b1 (ext_alloc _ _)⟩

set_option maxHeartbeats 4000000 in
set_option maxRecDepth 100000 in
theorem valid1_any (v : Value) (l : List FracV) (w : World) (h : Fracs w v l) (hl : l.length ≤ 8) (hw : wtsP l = true) : Calls Tryz.prog 111 #[v] w fun e w' => e = .returned (.bool (!(wholeP l))) ∧ Below w.heap.size w w' := by
  have ht := whole_any v l w h hl hw
  clear h
  generalize wholeP l = q at ht ⊢
  go_enter Tryz.func111, Tryz.ntmps111
  go_wp2_with fail
  refine ht.mono ?_
  rintro e w1 ⟨rfl, b1⟩
  clear ht
  go_wp2_with fail
  go_ret
  exact ⟨rfl, b1⟩

set_option maxHeartbeats 4000000 in
set_option maxRecDepth 100000 in
theorem keysOf1_any (n d : Int) (w : World) : Calls Tryz.prog 140 #[.agg #[.int .i64 n, .int .i64 d]] w fun e w' => e = .returned (.bool (!(wtP n d))) ∧ Below w.heap.size w w' := by
  have ht := fun w => threshold_weight n d w
  generalize wtP n d = q at ht ⊢
  go_enter Tryz.func140, Tryz.ntmps140
  go_wp2_with fail
  refine (ht _).mono ?_
  rintro e w1 ⟨rfl, b1⟩
  clear ht
  go_wp2_with fail
  go_ret
  exact ⟨rfl, ext_trans (ext_alloc _ _) b1⟩

/-- Is one of the fractions no weight? -/
theorem noweights (v : Value) (l : List FracV) (w : World) (h : Fracs w v l) : Calls Tryz.prog 139 #[v, .func (.func 140) #[] #[]] w fun e w' => e = .returned (.bool (!(wtsP l))) ∧ Below w.heap.size w w' :=
  containsFuncFrac0 140 (fun args w => MuLone.run_callFunc_enter Tryz.func140 (by kernel_rfl) rfl args w) v l.length _ _ (fun i => !(wtP (l.getD i (0, 0)).1 (l.getD i (0, 0)).2)) _ w h
    (fun i _ w' _ => keysOf1_any _ _ w') (any_not_getD l (fun f => wtP f.1 f.2) (0, 0))

theorem keysV_stop {ws : List (List FracV)} {k : Nat} (h : k < ws.length) (hs : sumLen (ws.take k) + (ws.getD k []).length > 8 ∨ goodW (ws.getD k []) = false) : keysV ws = -1 := by
  unfold keysV
  rw [if_neg]
  intro hx
  rw [Bool.and_eq_true, decide_eq_true_eq] at hx
  rcases hs with hs | hs
  · rw [← sumLen_step ws k h] at hs
    have := sumLen_le ws (k + 1); omega
  · rw [all_take_false ws goodW [] k h hs] at hx
    exact absurd hx.1 (by simp)

set_option maxHeartbeats 4000000 in
set_option maxRecDepth 100000 in
theorem keysOf_any (v : Value) (t : ThrV) (w : World) (h : Thr w v t) : Calls Tryz.prog 109 #[v] w fun e w' => e = .returned (.int .i64 (keysV t.ws)) ∧ Below w.heap.size w w' := by
  obtain ⟨v', rfl, ⟨ev, ⟨A, c, rfl, hc, hn, hel⟩, hev⟩⟩ := h
  obtain ⟨an, ws⟩ := t
  dsimp only at hc hn hel hev ⊢
  go_enter Tryz.func109, Tryz.ntmps109
  go_wp2_with fail
  go_loopw [9, 3] (fun v9 v3 wr => ∃ k : Nat, k ≤ ws.length ∧ v9 = .int .i64 (k : Int) ∧ v3 = .int .i64 (sumLen (ws.take k) : Int) ∧ sumLen (ws.take k) ≤ 8 ∧ (ws.take k).all goodW = true ∧ Below w.heap.size w wr) (fun v9 _ _ => ((ws.length : Int) - intOf v9).toNat)
  case atStart => exact ⟨0, by omega, rfl, rfl, by simp [sumLen], rfl, ext_alloc _ _⟩
  case round =>
    obtain ⟨k, hk, rfl, rfl, h8, hall, hB⟩ := hrel
    by_cases hlt : k < ws.length
    · obtain ⟨ad, rfl, hc0⟩ := hel k hlt
      have q0 := cellLater hB hc0
      have j0 : (k : Int) < ws.length := by omega
      have hf := (hev k hlt).later hB
      have hstop := fun hs => keysV_stop (ws := ws) hlt hs
      have hst := sumLen_step ws k hlt
      have hal := all_take_step ws goodW [] k hlt
      rw [hall, Bool.true_and] at hal
      have hno := noweights (ev k) (ws.getD k []) wr hf
      obtain ⟨A2, c2, he, hc2, hn2, _⟩ := hf
      clear hel hc0
      rw [he] at q0 hno
      have hgw : goodW (ws.getD k []) = (decide (0 < (ws.getD k []).length) && wtsP (ws.getD k [])) := rfl
      rw [hgw] at hal hstop
      clear hgw
      generalize ws.getD k [] = l at *
      generalize sumLen (ws.take k) = s at *
      by_cases h0 : l.length = 0
      · have HK := Lib.hid (hstop (Or.inr (by rw [h0]; rfl)))
        have t0 : ((l.length : Int) == 0) = true := by rw [h0]; rfl
        clear hstop hst hal hno hall hev
        rw [h0] at q0 t0
        go_wp2_with fail
        go_ret
        rw [HK.out]
        exact ⟨rfl, hB⟩
      · have t0 : ((l.length : Int) == 0) = false := by rw [beq_eq_false_iff_ne]; omega
        have z0 : ¬ (l.length = 0) := h0
        by_cases h1 : s + l.length ≤ 8
        · have j1 : ¬ ((8 : Int) < (s : Int) + (l.length : Int)) := by omega
          cases hw : wtsP l with
          | false =>
            have HK := Lib.hid (hstop (Or.inr (by rw [hw, Bool.and_false])))
            rw [hw] at hno
            clear hstop hst hal hall hev
            go_wp2_with fail
            refine hno.mono ?_
            rintro e w1 ⟨rfl, b1⟩
            clear hno
            go_wp2_with fail
            go_ret
            rw [HK.out]
            exact ⟨rfl, ext_trans hB b1⟩
          | true =>
            have HA := Lib.hid (show (ws.take (k + 1)).all goodW = true by rw [hal, hw, decide_eq_true (by omega)]; rfl)
            have HS := Lib.hid hst
            rw [hw] at hno
            clear hstop hst hal hall hev
            go_wp2_with fail
            refine hno.mono ?_
            rintro e w1 ⟨rfl, b1⟩
            clear hno
            go_wp2_with fail
            exact ⟨⟨k + 1, by omega, by go_num, by rw [HS.out]; go_num, by rw [HS.out]; exact h1, HA.out, ext_trans hB b1⟩, by simp only [intOf]; omega⟩
        · have j1 : (8 : Int) < (s : Int) + (l.length : Int) := by omega
          have HK := Lib.hid (hstop (Or.inl (by omega)))
          clear hstop hst hal hno hall hev
          go_wp2_with fail
          go_ret
          rw [HK.out]
          exact ⟨rfl, hB⟩
    · have hkl : k = ws.length := by omega
      subst hkl
      rw [List.take_length] at h8 hall ⊢
      have HK := Lib.hid (show keysV ws = (sumLen ws : Int) by unfold keysV; rw [if_pos (by rw [hall, decide_eq_true h8]; rfl)])
      clear hel hev hall
      go_wp2_with fail
      go_ret
      rw [HK.out]
      exact ⟨rfl, hB⟩

end Go.Proofs.YtkinlobfdkeamaaGreatDoor

namespace Go.Proofs.YtkinlobfdkeamaaGreatDoor
open Go.RowKit

theorem dropWhile_nil {α : Type} (p : α → Bool) (l : List α) : l.dropWhile p = [] ↔ l.all p = true := by
  induction l with
  | nil => simp
  | cons x r ih =>
    rw [List.dropWhile_cons]
    cases h : p x with
    | true => simp [h, ih]
    | false => simp [h]
theorem dropWhile_head {α : Type} (p : α → Bool) (l : List α) (h : (l.dropWhile p).all p = true) : l.dropWhile p = [] := by
  induction l with
  | nil => rfl
  | cons x r ih =>
    rw [List.dropWhile_cons] at h ⊢
    cases hx : p x with
    | true => rw [hx] at h; rw [if_pos rfl] at h ⊢; exact ih h
    | false => rw [hx] at h; simp [hx] at h
theorem trimS_nil (l cs : List UInt8) : Lib.trimS l cs = [] ↔ l.all (cs.contains ·) = true := by
  unfold Lib.trimS Lib.trimLeftS Lib.trimRightS
  rw [dropWhile_nil, List.all_reverse]
  constructor
  · intro h
    have := dropWhile_head _ _ h
    rw [dropWhile_nil, List.all_reverse] at this
    exact this
  · intro h
    have : l.reverse.dropWhile (cs.contains ·) = [] := by rw [dropWhile_nil, List.all_reverse]; exact h
    rw [this]; rfl

def caps : List UInt8 := [65, 66, 67, 68, 69, 70, 71, 72, 73, 74, 75, 76, 77, 78, 79, 80, 81, 82, 83, 84, 85, 86, 87, 88, 89, 90]
theorem caps_capB (b : UInt8) : caps.contains b = capB b := by
  have : ∀ n : Fin 256, caps.contains (UInt8.ofNat n.val) = capB (UInt8.ofNat n.val) := by decide +kernel
  have h := this ⟨b.toNat, b.toNat_lt⟩
  simpa using h

theorem cfgP_prog (s : List UInt8) : cfgP s = (!s.isEmpty && (decide (s.length ≤ 8) && (Lib.trimS s caps).isEmpty)) := by
  unfold cfgP
  have h1 : (Lib.trimS s caps).isEmpty = s.all capB := by
    rw [Bool.eq_iff_iff, List.isEmpty_iff, trimS_nil]
    rw [show (fun x => caps.contains x) = capB from funext caps_capB]
  rw [h1]
  cases s with
  | nil => rfl
  | cons x r => simp

set_option maxHeartbeats 4000000 in
set_option maxRecDepth 100000 in
theorem config_any (s : List UInt8) (w : World) : Calls Tryz.prog 47 #[.string ⟨s.toArray⟩] w fun e w' => e = .returned (.bool (cfgP s)) ∧ Below w.heap.size w w' := by
  rw [cfgP_prog]
  go_enter Tryz.func47, Tryz.ntmps47
  cases s with
  | nil =>
    go_wp2_with fail
    go_ret
    exact ⟨rfl, Below.refl _ _⟩
  | cons x r =>
    have hne : (x :: r) ≠ [] := by simp
    rw [show (!(x :: r).isEmpty) = true from rfl, Bool.true_and]
    generalize (x :: r) = s at hne ⊢
    have he : s.isEmpty = false := by simpa using hne
    by_cases h8 : s.length ≤ 8
    · have j8 : (s.length : Int) ≤ 8 := by omega
      have hcon := fun w => Any.strings_Trim_laid Tryz.lays160 (by kernel_rfl) ⟨s.toArray⟩ ⟨#[65, 66, 67, 68, 69, 70, 71, 72, 73, 74, 75, 76, 77, 78, 79, 80, 81, 82, 83, 84, 85, 86, 87, 88, 89, 90]⟩ w (by show s.toArray.size ≤ _; simp; omega) (by decide) (Go.Proofs.ascii_of_all (by decide))
      change ∀ w, Calls Tryz.prog 83 _ _ (fun e w' => e = .returned (.string ⟨(Lib.trimS s caps).toArray⟩) ∧ Below w.heap.size w w') at hcon
      generalize Lib.trimS s caps = t at hcon ⊢
      go_wp2_with fail
      refine (hcon _).mono ?_
      rintro e w1 ⟨rfl, b1⟩
      clear hcon
      go_wp2_with fail
      go_ret
      exact ⟨by simp [h8], b1⟩
    · have j8 : ¬ ((s.length : Int) ≤ 8) := by omega
      go_wp2_with fail
      go_ret
      exact ⟨rfl, Below.refl _ _⟩

set_option maxHeartbeats 4000000 in
set_option maxRecDepth 100000 in
theorem evalid1_any (s : List UInt8) (w : World) : Calls Tryz.prog 46 #[.string ⟨s.toArray⟩] w fun e w' => e = .returned (.bool (!(cfgP s))) ∧ Below w.heap.size w w' := by
  have ht := fun w => config_any s w
  generalize cfgP s = q at ht ⊢
  go_enter Tryz.func46, Tryz.ntmps46
  go_wp2_with fail
  refine (ht _).mono ?_
  rintro e w1 ⟨rfl, b1⟩
  clear ht
  go_wp2_with fail
  go_ret
  exact ⟨rfl, b1⟩

/-- Is one of the texts none that may stand in Config? -/
theorem noconfig (v : Value) (l : List (List UInt8)) (w : World) (h : Strs w v l) : Calls Tryz.prog 45 #[v, .func (.func 46) #[] #[]] w fun e w' => e = .returned (.bool (!(l.all cfgP))) ∧ Below w.heap.size w w' :=
  containsFuncStr0 46 (fun args w => MuLone.run_callFunc_enter Tryz.func46 (by kernel_rfl) rfl args w) v l.length _ (fun i => !(cfgP (l.getD i []))) _ w h.row
    (fun i _ w' _ => evalid1_any _ w') (any_not_getD l cfgP [])

end Go.Proofs.YtkinlobfdkeamaaGreatDoor

