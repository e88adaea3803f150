/- The sum of weights, the reference's. When a threshold is valid, the program's way: the function itself. When a threshold is valid, the reference's way. -/
import Derived.Test.YtkinlobfdkeamaaGreatDoorV21
namespace Go.Proofs.YtkinlobfdkeamaaGreatDoor
open Go.RowKit

theorem results_ct {P : Program} {fn : Func} {p q : Tmp} {ty : TypeId} (h : fn.results = #[.cell p ty, .tmp q]) (tmps : Array Value) (w : World) (g : Nat) (t : TypeId) (cs : Array Value) (fr : Nat × Nat) (d : TypeDesc)
    (hp : tmps.getD p undef = .pointer (some ⟨g, 0, none⟩)) (hg : w.heap[g]? = some (.cells cs t fr))
    (hu : P.underlying ty = some d) (hd : (match d with | .struct _ | .array _ _ => true | _ => false) = true) (hi : (P.info? ty).map (·.size) = some cs.size) :
    (results fn tmps).run P w = .ok (.tuple #[.agg cs, tmps.getD q undef]) w := by
  have hp' : tmps[p]?.getD undef = .pointer (some ⟨g, 0, none⟩) := by simpa using hp
  simp [results, h, hp', asAddr, run_loadVar_row w g t ty cs fr d hg hu hd hi]

/-- The sum of weights and the error. -/
def sumV (l : List FracV) : Int × Int × Int := if 8 < l.length then (0, 0, 3) else if wtsP l = false then (0, 0, 2) else (((totN l).1 : Int), ((totN l).2 : Int), 0)

structure SumW (w0 w : World) (n m : Nat) (a b : Nat) : Prop where
  p : w.heap[n]? = some (.cells #[.int .i64 0, .int .i64 0] 93 (0, 0))
  q : w.heap[m]? = some (.cells #[.int .i64 (a : Int), .int .i64 (b : Int)] 93 (0, 0))
  ne : n < m
  low : Below w0.heap.size w0 w
theorem SumW.later {w0 w w' : World} {n m a b : Nat} (h : SumW w0 w n m a b) (hb : Below w.heap.size w w') : SumW w0 w' n m a b := ⟨rowLater hb h.p, rowLater hb h.q, h.ne, ext_trans h.low hb⟩
theorem SumW.set {w0 w : World} {n m a b : Nat} (h : SumW w0 w n m a b) (hn : w0.heap.size ≤ n) (a' b' : Nat) : SumW w0 (w.setRow m #[.int .i64 (a' : Int), .int .i64 (b' : Int)]) n m a' b' :=
  ⟨(setRow_other _ _ _ _ (by have := h.ne; omega)).trans h.p, setRow_heap _ _ _ _ _ _ h.q, h.ne, below_setRow' h.low (by have := h.ne; omega) _⟩
theorem row_lt {w : World} {b : Nat} {o : Obj} (h : w.heap[b]? = some o) : b < w.heap.size := (Array.getElem?_eq_some_iff.1 h).1

set_option maxHeartbeats 4000000 in
set_option maxRecDepth 100000 in
theorem r13_sum (v : Value) (l : List FracV) (w : World) (h : Fracs w v l) : Calls Tryz.prog 158 #[v] w fun e w' => e = .returned (.tuple #[.agg #[.int .i64 (sumV l).1, .int .i64 (sumV l).2.1], .int .i64 (sumV l).2.2]) ∧ Below w.heap.size w w' := by
  obtain ⟨A, c, rfl, hc, hn, hel⟩ := h
  go_enter Tryz.func158, Tryz.ntmps158
  by_cases h8 : 8 < l.length
  · have j8 : (8 : Int) < (l.length : Int) := by omega
    have HR := Lib.hid (show sumV l = (0, 0, 3) by unfold sumV; rw [if_pos h8])
    clear hel
    go_wp2_with (refine wpList_store_row rfl 93 _ _ rfl w.heap.size #[.int .i64 0, .int .i64 0] rfl rfl 93 _ (hA1_0 _ _) (by kernel_rfl) rfl (by kernel_rfl) ?_)
    refine bodyPost_ret (results_ct rfl _ _ w.heap.size _ _ _ _ rfl (setRow_heap _ _ _ _ _ _ (hA1_0 _ _)) Tryz.underlying93 rfl (by kernel_rfl)) rfl ⟨by rw [HR.out]; rfl, ?_⟩
    exact below_setRow' (ext_alloc _ _) (Nat.le_refl _) _
  · have j8 : ¬ (8 : Int) < (l.length : Int) := by omega
    go_wp2_with fail
    go_loopw [16] (fun v9 wr => ∃ k : Nat, k ≤ l.length ∧ v9 = .int .i64 (k : Int) ∧ wtsP (l.take k) = true ∧ wr.heap[w.heap.size]? = some (.cells #[.int .i64 0, .int .i64 0] 93 (0, 0)) ∧ Below w.heap.size w wr) (fun v9 _ => ((l.length : Int) - intOf v9).toNat)
    case atStart => exact ⟨0, by omega, rfl, rfl, hA1_0 _ _, ext_alloc _ _⟩
    case round =>
      obtain ⟨k, hk, rfl, hall, hz, hB⟩ := hrel
      by_cases hlt : k < l.length
      · obtain ⟨ad, rfl, hc0, hc1⟩ := hel k hlt
        have d0 := cellLater hB hc0
        have d1 := cellLater hB hc1
        have j0 : (k : Int) < l.length := by omega
        have hst := all_take_step l (fun f => wtP f.1 f.2) (0, 0) k hlt
        have hno := all_take_false l (fun f => wtP f.1 f.2) (0, 0) k hlt
        have hw := fun w => r13_weight (l.getD k (0, 0)).1 (l.getD k (0, 0)).2 w
        unfold wtsP at hall
        rw [hall, Bool.true_and] at hst
        clear hel hc0 hc1 hall
        generalize l.getD k (0, 0) = f at *
        obtain ⟨x, y⟩ := f
        dsimp only at *
        cases hq : wtP x y with
        | false =>
          have HR := Lib.hid (show sumV l = (0, 0, 2) by unfold sumV wtsP; rw [if_neg h8, if_pos (hno hq)])
          rw [hq] at hw
          clear hno hst
          go_wp2_with fail
          refine (hw _).mono ?_
          rintro e w1 ⟨rfl, b1⟩
          have hz1 := rowLater b1 (rowLater (ext_alloc wr _) hz)
          clear hw d0 d1
          go_wp2_with (refine wpList_store_row rfl 93 _ _ rfl w.heap.size #[.int .i64 0, .int .i64 0] rfl rfl 93 _ hz1 (by kernel_rfl) rfl (by kernel_rfl) ?_)
          refine bodyPost_ret (results_ct rfl _ _ w.heap.size _ _ _ _ rfl (setRow_heap _ _ _ _ _ _ hz1) Tryz.underlying93 rfl (by kernel_rfl)) rfl ⟨by rw [HR.out]; rfl, ?_⟩
          exact below_setRow' (ext_trans hB (ext_trans (ext_alloc _ _) b1)) (Nat.le_refl _) _
        | true =>
          have HS := Lib.hid (show wtsP (l.take (k + 1)) = true by unfold wtsP; rw [hst]; exact hq)
          rw [hq] at hw
          clear hno hst
          go_wp2_with fail
          refine (hw _).mono ?_
          rintro e w1 ⟨rfl, b1⟩
          have hz1 := rowLater b1 (rowLater (ext_alloc wr _) hz)
          clear hw d0 d1
          go_wp2_with fail
          exact ⟨⟨k + 1, by omega, by go_num, HS.out, hz1, ext_trans hB (ext_trans (ext_alloc _ _) b1)⟩, by simp only [intOf]; omega⟩
      · have hkl : k = l.length := by omega
        subst hkl
        rw [List.take_length] at hall
        have hS0 : SumW w (wr.alloc (.cells #[.int .i64 0, .int .i64 1] 93)) w.heap.size wr.heap.size 0 1 := ⟨rowLater (ext_alloc _ _) hz, hA1_0 _ _, row_lt hz, ext_trans hB (ext_alloc _ _)⟩
        clear hz hB
        obtain ⟨m, hm⟩ : ∃ m, m = wr.heap.size := ⟨_, rfl⟩
        rw [← hm] at hS0
        have HM := Lib.hid hm
        go_wp2_with fail
        rw [← hm]
        clear hm
        go_loopw [28] (fun v9 wr => ∃ k : Nat, k ≤ l.length ∧ v9 = .int .i64 (k : Int) ∧ SumW w wr w.heap.size m (totN (l.take k)).1 (totN (l.take k)).2) (fun v9 _ => ((l.length : Int) - intOf v9).toNat)
        case atStart => exact ⟨0, by omega, rfl, hS0⟩
        case round =>
          obtain ⟨j, hj, rfl, hW⟩ := hrel
          by_cases hlt2 : j < l.length
          · obtain ⟨ad, rfl, hc0, hc1⟩ := hel j hlt2
            have d0 := cellLater hW.low hc0
            have d1 := cellLater hW.low hc1
            have j0 : (j : Int) < l.length := by omega
            obtain ⟨B1, B2, B3⟩ := totN_bounds l hall j hj
            have hwt := wts_getD hall hlt2
            obtain ⟨_, _, _, p1, p2, p3⟩ := addN_bounds hwt B1 B2 B3
            obtain ⟨P1, P2⟩ := pow100 (show j < 8 by omega)
            have hS := totN_step l j hlt2
            obtain ⟨F1, F2, F3, F4⟩ := wtP_facts hwt
            clear hel hc0 hc1 hwt B2 B3 hS0
            generalize l.getD j (0, 0) = f at *
            generalize totN (l.take j) = a at *
            obtain ⟨x, y⟩ := f
            obtain ⟨X, rfl⟩ := Int.eq_ofNat_of_zero_le F3
            obtain ⟨Y, rfl⟩ := Int.eq_ofNat_of_zero_le (show 0 ≤ y by simp only at F1; omega)
            obtain ⟨M, N⟩ := a
            have e1 : toN ((X : Int), (Y : Int)) = (X, Y) := rfl
            rw [e1] at p1 p2 p3 hS
            unfold addN at hS
            dsimp only at *
            obtain ⟨P, hP⟩ : ∃ P, P = M * Y := ⟨_, rfl⟩
            obtain ⟨Q, hQ⟩ : ∃ Q, Q = X * N := ⟨_, rfl⟩
            obtain ⟨R, hR⟩ : ∃ R, R = N * Y := ⟨_, rfl⟩
            have iP : (M : Int) * (Y : Int) = (P : Int) := by rw [hP]; simp
            have iQ : (X : Int) * (N : Int) = (Q : Int) := by rw [hQ]; simp
            have iR : (N : Int) * (Y : Int) = (R : Int) := by rw [hR]; simp
            rw [← hR] at p1 p2
            rw [← hP, ← hQ] at p3
            rw [← hP, ← hQ, ← hR] at hS
            clear hP hQ hR
            obtain ⟨S, hS0⟩ : ∃ S, S = P + Q := ⟨_, rfl⟩
            rw [← hS0] at p3 hS
            have iS : (P : Int) + (Q : Int) = (S : Int) := by omega
            have b1 : P ≤ 4000000000000000000 := by omega
            have b2 : Q ≤ 4000000000000000000 := by omega
            have b3 : R ≤ 4000000000000000000 := by omega
            have b4 : S ≤ 4000000000000000000 := by omega
            clear hS0
            have hg := fun w => r13_gcd_any S R b4 b3 w
            have gp : 0 < Nat.gcd S R := Nat.gcd_pos_of_pos_right _ p1
            have gl : Nat.gcd S R ≤ R := Nat.le_of_dvd p1 (Nat.gcd_dvd_right _ _)
            generalize Nat.gcd S R = G at *
            have q0 : (S : Int).tdiv (G : Int) = ((S / G : Nat) : Int) := by rw [Int.tdiv_eq_ediv_of_nonneg (by omega)]; rfl
            have q1 : (R : Int).tdiv (G : Int) = ((R / G : Nat) : Int) := by rw [Int.tdiv_eq_ediv_of_nonneg (by omega)]; rfl
            have l0 : S / G ≤ S := Nat.div_le_self _ _
            have l1 : R / G ≤ R := Nat.div_le_self _ _
            generalize S / G = U at *
            generalize R / G = V at *
            have w0 : IntKind.i64.wrap (U : Int) = (U : Int) := IntWalk.i64_in _ (by omega)
            have w1 : IntKind.i64.wrap (V : Int) = (V : Int) := IntWalk.i64_in _ (by omega)
            have tg : ((G : Int) == 0) = false := by rw [beq_eq_false_iff_ne]; omega
            have tg2 : ¬ G = 0 := by omega
            have HS := Lib.hid hS
            have hW2 := hW.later (ext_alloc wr (.cells #[.int .i64 (X : Int), .int .i64 (Y : Int)] 93))
            have c0 := cell_of_row _ _ 0 _ _ _ hW2.q
            have c1 := cell_of_row _ _ 1 _ _ _ hW2.q
            have hq2 := hW2.q
            have hW3 := hW2.set (Nat.le_refl _) S R
            have c2 := cell_of_row _ _ 0 _ _ _ hW3.q
            have c3 := cell_of_row _ _ 1 _ _ _ hW3.q
            clear P1 P2 F1 F2 F3 F4 B1 hS hall hW p1 p2 p3
            go_wp2_with (refine wpList_store_row rfl 93 _ _ rfl m #[.int .i64 (S : Int), .int .i64 (R : Int)] rfl rfl 93 _ hq2 (by kernel_rfl) rfl (by kernel_rfl) ?_)
            refine (hg _).mono ?_
            rintro e w2 ⟨rfl, b5⟩
            have hW4 := hW3.later b5
            clear hg c0 c1 c2 c3 hW2 hW3 hq2 b5 d0 d1
            have c0 := cell_of_row _ _ 0 _ _ _ hW4.q
            have c1 := cell_of_row _ _ 1 _ _ _ hW4.q
            have hW5 : SumW w w2.drew w.heap.size m S R := hW4.later ((Below.refl _ _).drew)
            go_wp2_with fail
            go_still_tail 9, (by kernel_rfl)
            change wpList _ _ _ _ _ w2.drew
            clear c0 c1 hW4
            generalize w2.drew = w3 at hW5 ⊢
            have hq5 := hW5.q
            go_wp2_with (refine wpList_store_row rfl 93 _ _ rfl m #[.int .i64 (U : Int), .int .i64 (V : Int)] rfl rfl 93 _ hq5 (by kernel_rfl) rfl (by kernel_rfl) ?_)
            exact ⟨⟨j + 1, by omega, by go_num, by rw [HS.out]; exact hW5.set (Nat.le_refl _) _ _⟩, by simp only [intOf]; omega⟩
          · have hkl : j = l.length := by omega
            subst hkl
            rw [List.take_length] at hW
            have c0 := cell_of_row _ _ 0 _ _ _ hW.q
            have c1 := cell_of_row _ _ 1 _ _ _ hW.q
            have hp := hW.p
            have hlow := hW.low
            have HR := Lib.hid (show sumV l = (((totN l).1 : Int), ((totN l).2 : Int), 0) by unfold sumV; rw [if_neg h8, if_neg (by rw [hall]; simp)])
            obtain ⟨s, hs⟩ : ∃ s, s = totN l := ⟨_, rfl⟩
            rw [← hs] at c0 c1 HR
            clear hs hel hW hall hS0
            obtain ⟨s1, s2⟩ := s
            dsimp only at c0 c1 HR
            go_wp2_with (refine wpList_store_row rfl 93 _ _ rfl w.heap.size #[.int .i64 (s1 : Int), .int .i64 (s2 : Int)] rfl rfl 93 _ hp (by kernel_rfl) rfl (by kernel_rfl) ?_)
            refine bodyPost_ret (results_ct rfl _ _ w.heap.size _ _ _ _ rfl (setRow_heap _ _ _ _ _ _ hp) Tryz.underlying93 rfl (by kernel_rfl)) rfl ⟨by rw [HR.out]; rfl, ?_⟩
            exact below_setRow' hlow (Nat.le_refl _) _

end Go.Proofs.YtkinlobfdkeamaaGreatDoor

namespace Go.Proofs.YtkinlobfdkeamaaGreatDoor
open Go.RowKit

theorem keysV_good {ws : List (List FracV)} (h : keysV ws ≠ -1) : ws.all goodW = true ∧ sumLen ws ≤ 8 ∧ keysV ws = (sumLen ws : Int) := by
  unfold keysV at h ⊢
  by_cases hx : (ws.all goodW && decide (sumLen ws ≤ 8)) = true
  · rw [if_pos hx]
    rw [Bool.and_eq_true, decide_eq_true_eq] at hx
    exact ⟨hx.1, hx.2, rfl⟩
  · rw [if_neg hx] at h; exact absurd rfl h

/-- Is one of the lists less than 1? -/
theorem nowhole (v : Value) (ws : List (List FracV)) (w : World) (h : Fracss w v ws) (hg : ws.all goodW = true) (h8 : sumLen ws ≤ 8) : Calls Tryz.prog 110 #[v, .func (.func 111) #[] #[]] w fun e w' => e = .returned (.bool (!(ws.all wholeP))) ∧ Below w.heap.size w w' := by
  obtain ⟨ev, hr, hev⟩ := h
  refine containsFuncFracs0 111 (fun args w => MuLone.run_callFunc_enter Tryz.func111 (by kernel_rfl) rfl args w) v ws.length ev (fun i => !(wholeP (ws.getD i []))) _ w hr
    (fun i hi w' hb => ?_) (any_not_getD ws wholeP [])
  have hm : ws.getD i [] ∈ ws := by rw [List.getD_eq_getElem?_getD, List.getElem?_eq_getElem hi]; exact List.getElem_mem _
  have hgi := List.all_eq_true.1 hg _ hm
  unfold goodW at hgi
  rw [Bool.and_eq_true] at hgi
  exact valid1_any _ _ w' ((hev i hi).later hb) (Nat.le_trans (sumLen_mem hm) h8) hgi.2

set_option maxHeartbeats 4000000 in
set_option maxRecDepth 100000 in
theorem thr_valid (v : Value) (t : ThrV) (keys : Nat) (w : World) (h : Thr w v t) : Calls Tryz.prog 79 #[v, .int .i64 (keys : Int)] w fun e w' => e = .returned (.bool (thrP t keys)) ∧ Below w.heap.size w w' := by
  have hko := fun w h => keysOf_any v t w h
  obtain ⟨v', rfl, hf⟩ := id h
  have hfw := hf.later (ext_alloc w (.cells #[.int .i64 t.num, v'] 31))
  have htw := h.later (ext_alloc w (.cells #[.int .i64 t.num, v'] 31))
  clear h hf
  obtain ⟨A, c, rfl⟩ : ∃ A c, v' = .slice A t.ws.length c := by obtain ⟨_, ⟨A, c, e, _⟩, _⟩ := hfw; exact ⟨A, c, e⟩
  have hT : thrP t keys = if t.num ≠ 0 then decide (0 < t.num) && (decide (t.num ≤ keys) && (decide (keys ≤ 8) && decide (t.ws.length = 0))) else if t.ws.length = 0 then decide (keys = 0) else decide (0 < keys) && ((keysV t.ws == (keys : Int)) && t.ws.all wholeP) := rfl
  obtain ⟨num, ws⟩ := t
  dsimp only at hT hfw ⊢
  have HT := Lib.hid hT
  clear hT
  go_enter Tryz.func79, Tryz.ntmps79
  by_cases h0 : num = 0
  · subst h0
    by_cases hl : ws.length = 0
    · have hr : thrP ⟨0, ws⟩ keys = ((keys : Int) == 0) := by rw [HT.out, if_neg (by simp), if_pos hl, Bool.eq_iff_iff]; simp
      have HR := Lib.hid hr
      clear hr hko hfw htw
      rw [hl]
      go_wp2_with fail
      go_ret
      rw [HR.out]
      exact ⟨rfl, ext_alloc _ _⟩
    · have t0 : ((ws.length : Int) == 0) = false := by rw [beq_eq_false_iff_ne]; omega
      by_cases hk : keys = 0
      · subst hk
        have HR := Lib.hid (show thrP ⟨0, ws⟩ 0 = false by rw [HT.out, if_neg (by simp), if_neg hl]; rfl)
        clear hko hfw htw
        go_wp2_with fail
        go_ret
        rw [HR.out]
        exact ⟨rfl, ext_alloc _ _⟩
      · have j0 : (0 : Int) < (keys : Int) := by omega
        have hr : thrP ⟨0, ws⟩ keys = ((keysV ws == (keys : Int)) && ws.all wholeP) := by rw [HT.out, if_neg (by simp), if_neg hl, decide_eq_true (by omega), Bool.true_and]
        have hko' := hko _ htw
        by_cases he : keysV ws = (keys : Int)
        · obtain ⟨g1, g2, _⟩ := keysV_good (show keysV ws ≠ -1 by omega)
          have hnw := fun w h => nowhole (.slice A ws.length c) ws w h g1 g2
          have HR := Lib.hid (show thrP ⟨0, ws⟩ keys = ws.all wholeP by rw [hr, he]; simp)
          dsimp only at hko'
          rw [he] at hko'
          clear hr hko g1 g2 he
          generalize ws.all wholeP = q at hnw HR
          go_wp2_with fail
          refine hko'.mono ?_
          rintro e w1 ⟨rfl, b1⟩
          clear hko'
          have c1 := cell_of_row _ _ 1 _ _ _ (rowLater b1 (hA1_0 _ _))
          have c0 := cell_of_row _ _ 0 _ _ _ (rowLater b1 (hA1_0 _ _))
          have hfw1 := hfw.later b1
          go_wp2_with fail
          refine (hnw _ hfw1).mono ?_
          rintro e w2 ⟨rfl, b2⟩
          clear hnw c1 c0
          go_wp2_with fail
          go_ret
          rw [HR.out]
          exact ⟨by simp, ext_trans (ext_trans (ext_alloc _ _) b1) b2⟩
        · have t1 : (keysV ws == (keys : Int)) = false := by simpa using he
          have HR := Lib.hid (show thrP ⟨0, ws⟩ keys = false by rw [hr, t1]; rfl)
          dsimp only at hko'
          clear hr hko he
          generalize keysV ws = q at hko' t1
          go_wp2_with fail
          refine hko'.mono ?_
          rintro e w1 ⟨rfl, b1⟩
          clear hko'
          go_wp2_with fail
          go_ret
          rw [HR.out]
          exact ⟨rfl, ext_trans (ext_alloc _ _) b1⟩
  · have t0 : (num != 0) = true := by simpa using h0
    have hr : thrP ⟨num, ws⟩ keys = (decide (0 < num) && (decide (num ≤ keys) && (decide (keys ≤ 8) && decide (ws.length = 0)))) := by rw [HT.out, if_pos h0]
    clear hko hfw htw
    by_cases h1 : 0 < num
    · by_cases h2 : num ≤ (keys : Int)
      · by_cases h3 : (keys : Int) ≤ 8
        · have h3' : keys ≤ 8 := by omega
          have HR := Lib.hid (show thrP ⟨num, ws⟩ keys = ((ws.length : Int) == 0) by rw [hr, decide_eq_true h1, decide_eq_true h2, decide_eq_true (by omega), Bool.eq_iff_iff]; simp)
          clear hr
          go_wp2_with fail
          go_ret
          rw [HR.out]
          exact ⟨rfl, ext_alloc _ _⟩
        · have h3' : ¬ keys ≤ 8 := by omega
          have HR := Lib.hid (show thrP ⟨num, ws⟩ keys = false by rw [hr, decide_eq_false (show ¬ keys ≤ 8 by omega)]; simp)
          clear hr
          go_wp2_with fail
          go_ret
          rw [HR.out]
          exact ⟨rfl, ext_alloc _ _⟩
      · have HR := Lib.hid (show thrP ⟨num, ws⟩ keys = false by rw [hr, decide_eq_false h2]; simp)
        clear hr
        go_wp2_with fail
        go_ret
        rw [HR.out]
        exact ⟨rfl, ext_alloc _ _⟩
    · have HR := Lib.hid (show thrP ⟨num, ws⟩ keys = false by rw [hr, decide_eq_false h1]; simp)
      clear hr
      go_wp2_with fail
      go_ret
      rw [HR.out]
      exact ⟨rfl, ext_alloc _ _⟩

end Go.Proofs.YtkinlobfdkeamaaGreatDoor

namespace Go.Proofs.YtkinlobfdkeamaaGreatDoor
open Go.RowKit

def oneP (l : List FracV) : Bool := decide (l.length ≤ 8) && (wtsP l && wholeP l)

set_option maxHeartbeats 4000000 in
set_option maxRecDepth 100000 in
theorem r13_one (v : Value) (l : List FracV) (w : World) (h : Fracs w v l) : Calls Tryz.prog 127 #[v] w fun e w' => e = .returned (.bool (oneP l)) ∧ Below w.heap.size w w' := by
  have hs := r13_sum v l w h
  have ho : oneP l = (((sumV l).2.2 == 0) && decide ((sumV l).2.1 ≤ (sumV l).1)) := by
    unfold oneP sumV
    by_cases h8 : 8 < l.length
    · rw [if_pos h8, decide_eq_false (by omega)]; rfl
    · rw [if_neg h8, decide_eq_true (by omega)]
      by_cases hw : wtsP l = false
      · rw [if_pos hw, hw]; rfl
      · rw [if_neg hw, show wtsP l = true by simpa using hw]
        unfold wholeP
        simp
  have HO := Lib.hid ho
  clear ho
  obtain ⟨A, c, rfl, _⟩ := h
  generalize sumV l = s at hs HO
  obtain ⟨s1, s2, s3⟩ := s
  dsimp only at hs HO
  go_enter Tryz.func127, Tryz.ntmps127
  go_wp2_with fail
  refine hs.mono ?_
  rintro e w1 ⟨rfl, b1⟩
  clear hs
  by_cases h0 : s3 = 0
  · subst h0
    go_wp2_with fail
    go_ret
    rw [HO.out]
    exact ⟨by simp, ext_trans b1 (ext_alloc _ _)⟩
  · have t0 : (s3 == 0) = false := by simpa using h0
    go_wp2_with fail
    go_ret
    rw [HO.out, t0]
    exact ⟨rfl, ext_trans b1 (ext_alloc _ _)⟩

def goodO (l : List FracV) : Bool := decide (0 < l.length) && oneP l

theorem thrP_ref (num : Int) (ws : List (List FracV)) (keys : Nat) (h0 : 0 < keys) (h8 : keys ≤ 8) (hw : ws.length ≠ 0) : thrP ⟨num, ws⟩ keys = (ws.all goodO && ((num == 0) && decide (sumLen ws = keys))) := by
  unfold thrP
  dsimp only
  by_cases hn : num = 0
  · subst hn
    rw [if_neg (by simp), if_neg hw, decide_eq_true h0, Bool.true_and]
    rw [show ((0 : Int) == 0) = true from rfl, Bool.true_and]
    rw [Bool.eq_iff_iff, Bool.and_eq_true, Bool.and_eq_true, beq_iff_eq, decide_eq_true_eq]
    constructor
    · rintro ⟨hk, ha⟩
      obtain ⟨g1, g2, g3⟩ := keysV_good (show keysV ws ≠ -1 by omega)
      refine ⟨?_, by omega⟩
      rw [List.all_eq_true]
      intro x hx
      have a1 := List.all_eq_true.1 g1 x hx
      have a2 := List.all_eq_true.1 ha x hx
      have a3 := sumLen_mem hx
      unfold goodW at a1
      rw [Bool.and_eq_true] at a1
      unfold goodO oneP
      rw [a1.1, a1.2, a2, decide_eq_true (by omega)]
      rfl
    · rintro ⟨ha, hs⟩
      have g1 : ws.all goodW = true := by
        rw [List.all_eq_true]
        intro x hx
        have a1 := List.all_eq_true.1 ha x hx
        unfold goodO oneP at a1
        simp only [Bool.and_eq_true] at a1
        unfold goodW
        rw [a1.1, a1.2.2.1]; rfl
      have g2 : ws.all wholeP = true := by
        rw [List.all_eq_true]
        intro x hx
        have a1 := List.all_eq_true.1 ha x hx
        unfold goodO oneP at a1
        simp only [Bool.and_eq_true] at a1
        exact a1.2.2.2
      refine ⟨?_, g2⟩
      unfold keysV
      rw [if_pos (by rw [g1, decide_eq_true (by omega)]; rfl), hs]
  · have e0 : (num == 0) = false := by simpa using hn
    rw [if_pos hn, e0, decide_eq_false hw]
    simp

set_option maxHeartbeats 4000000 in
set_option maxRecDepth 100000 in
theorem r13_valid (v : Value) (t : ThrV) (keys : Nat) (w : World) (h : Thr w v t) : Calls Tryz.prog 88 #[v, .int .i64 (keys : Int)] w fun e w' => e = .returned (.bool (thrP t keys)) ∧ Below w.heap.size w w' := by
  obtain ⟨v', rfl, ⟨ev, ⟨A, c, rfl, hc, hn, hel⟩, hev⟩⟩ := h
  obtain ⟨num, ws⟩ := t
  dsimp only at hc hn hel hev ⊢
  go_enter Tryz.func88, Tryz.ntmps88
  by_cases h0 : keys = 0
  · subst h0
    have hr : thrP ⟨num, ws⟩ 0 = ((num == 0) && decide (ws.length = 0)) := by
      unfold thrP
      dsimp only
      by_cases hn : num = 0
      · subst hn
        rw [if_neg (by simp)]
        by_cases hl : ws.length = 0
        · rw [if_pos hl, decide_eq_true hl]; rfl
        · rw [if_neg hl, decide_eq_false hl]; rfl
      · rw [if_pos hn, show (num == 0) = false by simpa using hn]
        by_cases h1 : 0 < num
        · rw [decide_eq_false (show ¬ num ≤ ((0 : Nat) : Int) by omega)]; simp
        · rw [decide_eq_false h1]; rfl
    have HR := Lib.hid hr
    clear hr hel hev
    by_cases hn0 : num = 0
    · subst hn0
      have e1 : decide (ws.length = 0) = ((ws.length : Int) == 0) := by rw [Bool.eq_iff_iff]; simp
      have HE := Lib.hid e1
      clear e1
      go_wp2_with fail
      go_ret
      rw [HR.out, HE.out]
      exact ⟨by simp, ext_alloc _ _⟩
    · have t0 : (num == 0) = false := by simpa using hn0
      go_wp2_with fail
      go_ret
      rw [HR.out, t0]
      exact ⟨rfl, ext_alloc _ _⟩
  · have t0 : ((keys : Int) == 0) = false := by rw [beq_eq_false_iff_ne]; omega
    have t00 : ¬ keys = 0 := h0
    have t1 : ¬ ((keys : Int) < 0) := by omega
    by_cases h8 : keys ≤ 8
    · have t2 : ¬ ((8 : Int) < (keys : Int)) := by omega
      by_cases hl : ws.length = 0
      · have hr : thrP ⟨num, ws⟩ keys = (decide (1 ≤ num) && decide (num ≤ (keys : Int))) := by
          unfold thrP
          dsimp only
          by_cases hn : num = 0
          · subst hn
            rw [if_neg (by simp), if_pos hl, decide_eq_false h0]; rfl
          · rw [if_pos hn, decide_eq_true h8, decide_eq_true hl, Bool.true_and, Bool.and_true]
            rw [show decide (0 < num) = decide (1 ≤ num) by rw [decide_eq_decide]; omega]
        have HR := Lib.hid hr
        have hlz : ws = [] := List.length_eq_zero_iff.1 hl
        clear hr hel hev
        subst hlz
        by_cases h1 : 1 ≤ num
        · go_wp2_with fail
          go_ret
          rw [HR.out]
          exact ⟨by simp [h1], ext_alloc _ _⟩
        · go_wp2_with fail
          go_ret
          rw [HR.out, decide_eq_false (show ¬ 1 ≤ num by omega)]
          exact ⟨rfl, ext_alloc _ _⟩
      · have t3 : ((ws.length : Int) == 0) = false := by rw [beq_eq_false_iff_ne]; omega
        have t4 : ¬ ws.length = 0 := hl
        have HR := Lib.hid (thrP_ref num ws keys (by omega) h8 hl)
        go_wp2_with fail
        go_loopw [44, 5] (fun v9 v3 wr => ∃ k : Nat, k ≤ ws.length ∧ v9 = .int .i64 (k : Int) ∧ v3 = .int .i64 (sumLen (ws.take k) : Int) ∧ sumLen (ws.take k) ≤ 8 * k ∧ (ws.take k).all goodO = true ∧ wr.cell? ⟨w.heap.size, 0, none⟩ = some (.int .i64 num) ∧ Below w.heap.size w wr) (fun v9 _ _ => ((ws.length : Int) - intOf v9).toNat)
        case atStart => exact ⟨0, by omega, rfl, rfl, by simp [sumLen], rfl, cell_of_row _ _ 0 _ _ _ (hA1_0 _ _), ext_alloc _ _⟩
        case round =>
          obtain ⟨k, hk, rfl, rfl, hs8, hall, hcn, hB⟩ := hrel
          by_cases hlt : k < ws.length
          · obtain ⟨ad, rfl, hc0⟩ := hel k hlt
            have q0 := cellLater hB hc0
            have j0 : (k : Int) < ws.length := by omega
            have hf := (hev k hlt).later hB
            have hstop := all_take_false ws goodO [] k hlt
            have hst := sumLen_step ws k hlt
            have hal := all_take_step ws goodO [] k hlt
            rw [hall, Bool.true_and] at hal
            have ho := r13_one (ev k) (ws.getD k []) wr hf
            obtain ⟨A2, c2, he, hc2, hn2, _⟩ := hf
            clear hel hc0
            rw [he] at q0 ho
            have hgw : goodO (ws.getD k []) = (decide (0 < (ws.getD k []).length) && oneP (ws.getD k [])) := rfl
            have hol : oneP (ws.getD k []) = true → (ws.getD k []).length ≤ 8 := fun hx => by unfold oneP at hx; rw [Bool.and_eq_true, decide_eq_true_eq] at hx; exact hx.1
            rw [hgw] at hal hstop
            clear hgw
            generalize ws.getD k [] = l at *
            generalize sumLen (ws.take k) = s at *
            by_cases hl0 : l.length = 0
            · have HK := Lib.hid (hstop (by rw [hl0]; rfl))
              have u0 : ((l.length : Int) == 0) = true := by rw [hl0]; rfl
              clear hstop hst hal ho hall hev hol
              rw [hl0] at q0 u0
              go_wp2_with fail
              go_ret
              rw [HR.out, HK.out]
              exact ⟨rfl, hB⟩
            · have u0 : ((l.length : Int) == 0) = false := by rw [beq_eq_false_iff_ne]; omega
              have z0 : ¬ (l.length = 0) := hl0
              cases hw : oneP l with
              | false =>
                have HK := Lib.hid (hstop (by rw [hw, Bool.and_false]))
                rw [hw] at ho
                clear hstop hst hal hall hev hol
                go_wp2_with fail
                refine ho.mono ?_
                rintro e w1 ⟨rfl, b1⟩
                clear ho
                go_wp2_with fail
                go_ret
                rw [HR.out, HK.out]
                exact ⟨rfl, ext_trans hB b1⟩
              | true =>
                have HA := Lib.hid (show (ws.take (k + 1)).all goodO = true by rw [hal, hw, decide_eq_true (by omega)]; rfl)
                have HS := Lib.hid hst
                have l8 := hol hw
                rw [hw] at ho
                clear hstop hst hal hall hev hol
                go_wp2_with fail
                refine ho.mono ?_
                rintro e w1 ⟨rfl, b1⟩
                clear ho
                go_wp2_with fail
                exact ⟨⟨k + 1, by omega, by go_num, by rw [HS.out]; go_num, by rw [HS.out]; omega, HA.out, cellLater b1 hcn, ext_trans hB b1⟩, by simp only [intOf]; omega⟩
          · have hkl : k = ws.length := by omega
            subst hkl
            rw [List.take_length] at hs8 hall ⊢
            have HK := Lib.hid hall
            clear hel hev hall
            generalize sumLen ws = s at *
            by_cases hn0 : num = 0
            · subst hn0
              have e1 : decide (s = keys) = ((s : Int) == (keys : Int)) := by rw [Bool.eq_iff_iff]; simp; omega
              have HE := Lib.hid e1
              clear e1
              go_wp2_with fail
              go_ret
              rw [HR.out, HK.out, HE.out]
              exact ⟨by simp, hB⟩
            · have u0 : (num == 0) = false := by simpa using hn0
              go_wp2_with fail
              go_ret
              rw [HR.out, HK.out, u0]
              exact ⟨rfl, hB⟩
    · have t2 : ((8 : Int) < (keys : Int)) := by omega
      have hr : thrP ⟨num, ws⟩ keys = false := by
        unfold thrP
        dsimp only
        by_cases hn : num = 0
        · subst hn
          rw [if_neg (by simp)]
          by_cases hl : ws.length = 0
          · rw [if_pos hl, decide_eq_false h0]
          · rw [if_neg hl]
            have : (keysV ws == (keys : Int)) = false := by
              rw [beq_eq_false_iff_ne]
              intro hx
              obtain ⟨_, g2, g3⟩ := keysV_good (show keysV ws ≠ -1 by omega)
              omega
            rw [this]; simp
        · rw [if_pos hn, decide_eq_false h8]; simp
      have HR := Lib.hid hr
      clear hr hel hev
      go_wp2_with fail
      go_ret
      rw [HR.out]
      exact ⟨rfl, ext_alloc _ _⟩

end Go.Proofs.YtkinlobfdkeamaaGreatDoor

