/- The texts of Config: the reference's test. The greatest common divisor and the weights, on both sides. The sum of two fractions in lowest terms. -/
import Derived.Test.YtkinlobfdkeamaaGreatDoorV13
import Derived.Test.YtkinlobfdkeamaaGreatDoorV09
import Derived.Test.YtkinlobfdkeamaaGreatDoorV01
import Derived.Lib.Hide
import Derived.Deep.QuietTactic
import Derived.BigQuiet
import Derived.Test.YtkinlobfdkeamaaGreatDoorV03
import Derived.StillTailTactics
import Derived.Test.YtkinlobfdkeamaaGreatDoorV10
namespace Go.Proofs.YtkinlobfdkeamaaGreatDoor
open Go.RowKit

def capB (c : UInt8) : Bool := 65 ≤ c.toNat && c.toNat ≤ 90
/-- May a text stand in Config? -/
def cfgP (s : List UInt8) : Bool := decide (1 ≤ s.length ∧ s.length ≤ 8) && s.all capB

theorem all_getD_false {α : Type} (l : List α) (p : α → Bool) (d : α) (k : Nat) (h : k < l.length) (hp : p (l.getD k d) = false) : l.all p = false := by
  rw [List.all_eq_false]
  rw [List.getD_eq_getElem?_getD, List.getElem?_eq_getElem h] at hp
  exact ⟨_, List.getElem_mem h, by simpa using hp⟩
theorem all_of_getD {α : Type} (l : List α) (p : α → Bool) (d : α) (h : ∀ k, k < l.length → p (l.getD k d) = true) : l.all p = true := by
  rw [List.all_eq_true]
  intro x hx
  obtain ⟨i, hi, rfl⟩ := List.mem_iff_getElem.1 hx
  have := h i hi
  rw [List.getD_eq_getElem?_getD, List.getElem?_eq_getElem hi] at this
  exact this

set_option maxHeartbeats 4000000 in
set_option maxRecDepth 100000 in
theorem r14_config (v : Value) (l : List (List UInt8)) (w : World) (h : Strs w v l) : Calls Tryz.prog 56 #[v] w fun e w' => e = .returned (.bool (decide (l.length ≤ 8) && l.all cfgP)) ∧ w' = w := by
  obtain ⟨⟨A, cap, rfl, hc, hel⟩, h2, h3⟩ := id h
  go_enter Tryz.func56, Tryz.ntmps56
  go_wp2_with fail
  go_loop [8] (fun v8 => ∃ k : Nat, k ≤ l.length ∧ v8 = .int .i64 (k : Int) ∧ (∀ i, i < k → cfgP (l.getD i []) = true)) (fun v8 => ((l.length : Int) - intOf v8).toNat)
  case atStart => exact ⟨0, by omega, rfl, fun i hi => by omega⟩
  case round =>
    obtain ⟨k, hk, rfl, hall⟩ := hrel
    by_cases hlt : k < l.length
    · obtain ⟨ad, rfl, hcell⟩ := hel k hlt
      have j0 : (k : Int) < l.length := by omega
      have hsh := h3 _ (getD_mem hlt)
      have hfalse := all_getD_false l cfgP [] k hlt
      have hnext : cfgP (l.getD k []) = true → ∀ i, i < k + 1 → cfgP (l.getD i []) = true := fun hp i hi => by
        by_cases e : i = k
        · rw [e]; exact hp
        · exact hall i (by omega)
      have HN := Lib.hid hnext
      clear hall hnext
      obtain ⟨x, hx⟩ : ∃ x, x = l.getD k [] := ⟨_, rfl⟩
      rw [← hx] at hcell hsh hfalse HN
      have HF := Lib.hid hfalse
      clear hfalse hel hx
      by_cases hb : 1 ≤ x.length ∧ x.length ≤ 8
      · have d1 : ((x.length : Int) < 1) = False := by simp; omega
        have d2 : decide (8 < (x.length : Int)) = false := by simp; omega
        have hcf : cfgP x = x.all capB := by unfold cfgP; rw [decide_eq_true hb]; rfl
        have HCF := Lib.hid hcf
        clear hcf
        go_wp2_with fail
        go_loop [22] (fun v22 => ∃ j : Nat, j ≤ x.length ∧ v22 = .int .i64 (j : Int) ∧ (∀ i, i < j → capB (x.getD i 0) = true)) (fun v22 => ((x.length : Int) - intOf v22).toNat)
        case atStart => exact ⟨0, by omega, rfl, fun i hi => by omega⟩
        case round =>
          obtain ⟨j, hj, rfl, hcap⟩ := hrel
          by_cases hjl : j < x.length
          · have j1 : (j : Int) < x.length := by omega
            have hfalse := all_getD_false x capB 0 j hjl
            have hnext : capB (x.getD j 0) = true → ∀ i, i < j + 1 → capB (x.getD i 0) = true := fun hp i hi => by
              by_cases e : i = j
              · rw [e]; exact hp
              · exact hcap i (by omega)
            obtain ⟨B, hB⟩ : ∃ B, B = (x.getD j 0).toNat := ⟨_, rfl⟩
            have b0 : ∀ h, (((⟨x.toArray⟩ : ByteArray)[j]'h).toNat : Int) = B := by intro h; rw [hB]; exact byte_getD x _ h
            have hcb : capB (x.getD j 0) = (decide (65 ≤ B) && decide (B ≤ 90)) := by rw [hB]; rfl
            rw [hcb] at hfalse hnext
            have HFA := Lib.hid hfalse
            have HNX := Lib.hid hnext
            clear hcap hfalse hnext hcb hB
            by_cases h65 : 65 ≤ B
            · by_cases h90 : B ≤ 90
              · have HG := Lib.hid (HNX.out (by rw [decide_eq_true h65, decide_eq_true h90]; rfl))
                have e1 : decide ((B : Int) < 65) = false := by simp; omega
                have e2 : decide (90 < (B : Int)) = false := by simp; omega
                go_wp2_with fail
                exact ⟨⟨j + 1, by omega, by go_num, HG.out⟩, by simp only [intOf]; omega⟩
              · have HG := Lib.hid (HF.out (by rw [HCF.out]; exact HFA.out (by rw [decide_eq_false h90, Bool.and_false])))
                have e1 : decide ((B : Int) < 65) = false := by simp; omega
                have e2 : decide (90 < (B : Int)) = true := by simp; omega
                go_wp2_with fail
                go_ret
                rw [HG.out, Bool.and_false]
                exact ⟨rfl, rfl⟩
            · have HG := Lib.hid (HF.out (by rw [HCF.out]; exact HFA.out (by rw [decide_eq_false h65]; rfl)))
              have e1 : decide ((B : Int) < 65) = true := by simp; omega
              go_wp2_with fail
              go_ret
              rw [HG.out, Bool.and_false]
              exact ⟨rfl, rfl⟩
          · have hjx : j = x.length := by omega
            subst hjx
            have hyes := all_of_getD x capB 0 hcap
            have HG := Lib.hid (HN.out (by rw [HCF.out]; exact hyes))
            clear hcap hyes
            go_wp2_with fail
            exact ⟨⟨k + 1, by omega, by go_num, HG.out⟩, by simp only [intOf]; omega⟩
      · have hno : cfgP x = false := by unfold cfgP; rw [decide_eq_false hb]; rfl
        have HG := Lib.hid (HF.out hno)
        go_wp2_with fail
        all_goals
          go_ret
          rw [HG.out, Bool.and_false]
          exact ⟨rfl, rfl⟩
    · have hkl : k = l.length := by omega
      subst hkl
      have hyes := all_of_getD l cfgP [] hall
      have HY := Lib.hid hyes
      clear hall hel hyes
      go_wp2_with fail
      go_ret
      have e : decide ((l.length : Int) ≤ 8) = decide (l.length ≤ 8) := by rw [decide_eq_decide]; omega
      rw [HY.out, Bool.and_true, ← e]
      exact ⟨rfl, rfl⟩

end Go.Proofs.YtkinlobfdkeamaaGreatDoor

namespace Go.Proofs.YtkinlobfdkeamaaGreatDoor
open Go.RowKit

/-- Is a fraction a weight? -/
def wtP (n d : Int) : Bool := (decide (1 ≤ d) && decide (d ≤ 100)) && ((decide (0 ≤ n) && decide (n ≤ d)) && (Nat.gcd n.toNat d.toNat == 1))

set_option maxHeartbeats 4000000 in
set_option maxRecDepth 100000 in
theorem divisor_any (a b : Nat) (ha : a ≤ 4000000000000000000) (hb : b ≤ 4000000000000000000) (w : World) : Calls Tryz.prog 163 #[.int .i64 (a : Int), .int .i64 (b : Int)] w fun e w' => e = .returned (.int .i64 (Nat.gcd a b : Int)) ∧ Below w.heap.size w w' := by
  go_enter Tryz.func163, Tryz.ntmps163
  go_wp2_with fail
  go_loopw [0, 1] (fun v0 v1 wr => ∃ x y : Nat, v0 = .int .i64 (x : Int) ∧ v1 = .int .i64 (y : Int) ∧ x ≤ 4000000000000000000 ∧ y ≤ 4000000000000000000 ∧ Nat.gcd x y = Nat.gcd a b ∧ Below w.heap.size w wr) (fun _ v1 _ => (intOf v1).toNat)
  case atStart => exact ⟨a, b, rfl, rfl, ha, hb, rfl, Below.refl _ _⟩
  case round =>
    obtain ⟨x, y, rfl, rfl, hx, hy, hg, hB⟩ := hrel
    by_cases h0 : y = 0
    · subst h0
      rw [Nat.gcd_zero_right] at hg
      have HG := Lib.hid hg
      clear hg
      go_wp2_with fail
      go_ret
      rw [← HG.out]
      exact ⟨rfl, hB⟩
    · have t0 : ((y : Int) != 0) = true := by simp; omega
      have t1 : ((y : Int) == 0) = false := by simp; omega
      have m0 : (x : Int).tmod (y : Int) = ((x % y : Nat) : Int) := by rw [Int.tmod_eq_emod_of_nonneg (by omega)]; rfl
      have hlt : x % y < y := Nat.mod_lt _ (by omega)
      have hg' : Nat.gcd y (x % y) = Nat.gcd a b := by rw [← hg, Nat.gcd_comm y, ← Nat.gcd_rec, Nat.gcd_comm]
      have HG := Lib.hid hg'
      have w0 : IntKind.i64.wrap ((x % y : Nat) : Int) = ((x % y : Nat) : Int) := IntWalk.i64_in _ (by omega)
      clear hg hg'
      generalize x % y = z at m0 hlt HG w0
      go_wp2_with fail
      go_quiet (fail)
      go_wp2_with fail
      exact ⟨⟨y, z, rfl, rfl, by omega, by omega, HG.out, below_drewN hB _⟩, by simp only [intOf]; omega⟩

set_option maxHeartbeats 4000000 in
set_option maxRecDepth 100000 in
theorem r13_gcd_any (a b : Nat) (ha : a ≤ 4000000000000000000) (hb : b ≤ 4000000000000000000) (w : World) : Calls Tryz.prog 185 #[.int .i64 (a : Int), .int .i64 (b : Int)] w fun e w' => e = .returned (.int .i64 (Nat.gcd a b : Int)) ∧ Below w.heap.size w w' := by
  go_enter Tryz.func185, Tryz.ntmps185
  go_wp2_with fail
  go_loopw [0, 1] (fun v0 v1 wr => ∃ x y : Nat, v0 = .int .i64 (x : Int) ∧ v1 = .int .i64 (y : Int) ∧ x ≤ 4000000000000000000 ∧ y ≤ 4000000000000000000 ∧ Nat.gcd x y = Nat.gcd a b ∧ Below w.heap.size w wr) (fun _ v1 _ => (intOf v1).toNat)
  case atStart => exact ⟨a, b, rfl, rfl, ha, hb, rfl, Below.refl _ _⟩
  case round =>
    obtain ⟨x, y, rfl, rfl, hx, hy, hg, hB⟩ := hrel
    by_cases h0 : y = 0
    · subst h0
      rw [Nat.gcd_zero_right] at hg
      have HG := Lib.hid hg
      clear hg
      go_wp2_with fail
      go_ret
      rw [← HG.out]
      exact ⟨rfl, hB⟩
    · have t0 : ((y : Int) != 0) = true := by simp; omega
      have t1 : ((y : Int) == 0) = false := by simp; omega
      have m0 : (x : Int).tmod (y : Int) = ((x % y : Nat) : Int) := by rw [Int.tmod_eq_emod_of_nonneg (by omega)]; rfl
      have hlt : x % y < y := Nat.mod_lt _ (by omega)
      have hg' : Nat.gcd y (x % y) = Nat.gcd a b := by rw [← hg, Nat.gcd_comm y, ← Nat.gcd_rec, Nat.gcd_comm]
      have HG := Lib.hid hg'
      have w0 : IntKind.i64.wrap ((x % y : Nat) : Int) = ((x % y : Nat) : Int) := IntWalk.i64_in _ (by omega)
      clear hg hg'
      generalize x % y = z at m0 hlt HG w0
      go_wp2_with fail
      go_quiet (fail)
      go_wp2_with fail
      exact ⟨⟨y, z, rfl, rfl, by omega, by omega, HG.out, below_drewN hB _⟩, by simp only [intOf]; omega⟩

set_option maxHeartbeats 4000000 in
set_option maxRecDepth 100000 in
theorem threshold_weight (n d : Int) (w : World) : Calls Tryz.prog 141 #[.agg #[.int .i64 n, .int .i64 d]] w fun e w' => e = .returned (.bool (wtP n d)) ∧ Below w.heap.size w w' := by
  go_enter Tryz.func141, Tryz.ntmps141
  by_cases h1 : 1 ≤ d
  · by_cases h2 : d ≤ 100
    · by_cases h3 : 0 ≤ n
      · by_cases h4 : n ≤ d
        · obtain ⟨N, rfl⟩ := Int.eq_ofNat_of_zero_le h3
          obtain ⟨D, rfl⟩ := Int.eq_ofNat_of_zero_le (show 0 ≤ d by omega)
          have hw : wtP N D = (Nat.gcd N D == 1) := by unfold wtP; rw [decide_eq_true h1, decide_eq_true h2, decide_eq_true h3, decide_eq_true h4]; rfl
          have HW := Lib.hid hw
          clear hw
          have hg := fun w => divisor_any N D (by omega) (by omega) w
          generalize Nat.gcd N D = G at hg HW
          go_wp2_with fail
          refine (hg _).mono ?_
          rintro e w1 ⟨rfl, b1⟩
          clear hg
          have e1 : ((G : Int) == 1) = (G == 1) := by rw [Bool.eq_iff_iff, beq_iff_eq, beq_iff_eq]; omega
          have HE := Lib.hid e1
          clear e1
          go_wp2_with fail
          go_ret
          rw [HW.out, ← HE.out]
          exact ⟨rfl, ext_trans (ext_alloc _ _) b1⟩
        · have HW := Lib.hid (show wtP n d = false by unfold wtP; rw [decide_eq_false h4]; simp)
          go_wp2_with fail
          go_ret
          rw [HW.out]
          exact ⟨rfl, ext_alloc _ _⟩
      · have HW := Lib.hid (show wtP n d = false by unfold wtP; rw [decide_eq_false h3]; simp)
        go_wp2_with fail
        go_ret
        rw [HW.out]
        exact ⟨rfl, ext_alloc _ _⟩
    · have HW := Lib.hid (show wtP n d = false by unfold wtP; rw [decide_eq_false h2]; simp)
      go_wp2_with fail
      go_ret
      rw [HW.out]
      exact ⟨rfl, ext_alloc _ _⟩
  · have HW := Lib.hid (show wtP n d = false by unfold wtP; rw [decide_eq_false h1]; simp)
    go_wp2_with fail
    go_ret
    rw [HW.out]
    exact ⟨rfl, ext_alloc _ _⟩

set_option maxHeartbeats 4000000 in
set_option maxRecDepth 100000 in
theorem r13_weight (n d : Int) (w : World) : Calls Tryz.prog 184 #[.agg #[.int .i64 n, .int .i64 d]] w fun e w' => e = .returned (.bool (wtP n d)) ∧ Below w.heap.size w w' := by
  go_enter Tryz.func184, Tryz.ntmps184
  by_cases h1 : 1 ≤ d
  · by_cases h2 : d ≤ 100
    · by_cases h3 : 0 ≤ n
      · by_cases h4 : n ≤ d
        · obtain ⟨N, rfl⟩ := Int.eq_ofNat_of_zero_le h3
          obtain ⟨D, rfl⟩ := Int.eq_ofNat_of_zero_le (show 0 ≤ d by omega)
          have hw : wtP N D = (Nat.gcd N D == 1) := by unfold wtP; rw [decide_eq_true h1, decide_eq_true h2, decide_eq_true h3, decide_eq_true h4]; rfl
          have HW := Lib.hid hw
          clear hw
          have hg := fun w => r13_gcd_any N D (by omega) (by omega) w
          generalize Nat.gcd N D = G at hg HW
          go_wp2_with fail
          refine (hg _).mono ?_
          rintro e w1 ⟨rfl, b1⟩
          clear hg
          have e1 : ((G : Int) == 1) = (G == 1) := by rw [Bool.eq_iff_iff, beq_iff_eq, beq_iff_eq]; omega
          have HE := Lib.hid e1
          clear e1
          go_wp2_with fail
          go_ret
          rw [HW.out, ← HE.out]
          exact ⟨rfl, ext_trans (ext_alloc _ _) b1⟩
        · have HW := Lib.hid (show wtP n d = false by unfold wtP; rw [decide_eq_false h4]; simp)
          go_wp2_with fail
          go_ret
          rw [HW.out]
          exact ⟨rfl, ext_alloc _ _⟩
      · have HW := Lib.hid (show wtP n d = false by unfold wtP; rw [decide_eq_false h3]; simp)
        go_wp2_with fail
        go_ret
        rw [HW.out]
        exact ⟨rfl, ext_alloc _ _⟩
    · have HW := Lib.hid (show wtP n d = false by unfold wtP; rw [decide_eq_false h2]; simp)
      go_wp2_with fail
      go_ret
      rw [HW.out]
      exact ⟨rfl, ext_alloc _ _⟩
  · have HW := Lib.hid (show wtP n d = false by unfold wtP; rw [decide_eq_false h1]; simp)
    go_wp2_with fail
    go_ret
    rw [HW.out]
    exact ⟨rfl, ext_alloc _ _⟩

end Go.Proofs.YtkinlobfdkeamaaGreatDoor

namespace Go.Proofs.YtkinlobfdkeamaaGreatDoor
open Go.RowKit

/-- The sum of two fractions, in lowest terms. -/
def addN (a b : Nat × Nat) : Nat × Nat := ((a.1 * b.2 + b.1 * a.2) / Nat.gcd (a.1 * b.2 + b.1 * a.2) (a.2 * b.2), (a.2 * b.2) / Nat.gcd (a.1 * b.2 + b.1 * a.2) (a.2 * b.2))

set_option maxHeartbeats 4000000 in
set_option maxRecDepth 100000 in
theorem add_any (an ad bn bd : Nat) (h0 : an * bd + bn * ad ≤ 4000000000000000000) (h1 : ad * bd ≤ 4000000000000000000) (hp : 0 < ad * bd) (w : World) : Calls Tryz.prog 164 #[.agg #[.int .i64 (an : Int), .int .i64 (ad : Int)], .agg #[.int .i64 (bn : Int), .int .i64 (bd : Int)]] w fun e w' => e = .returned (.agg #[.int .i64 ((addN (an, ad) (bn, bd)).1 : Int), .int .i64 ((addN (an, ad) (bn, bd)).2 : Int)]) ∧ Below w.heap.size w w' := by
  go_enter Tryz.func164, Tryz.ntmps164
  unfold addN
  dsimp only
  obtain ⟨P, hP⟩ : ∃ P, P = an * bd := ⟨_, rfl⟩
  obtain ⟨Q, hQ⟩ : ∃ Q, Q = bn * ad := ⟨_, rfl⟩
  obtain ⟨R, hR⟩ : ∃ R, R = ad * bd := ⟨_, rfl⟩
  have iP : (an : Int) * (bd : Int) = (P : Int) := by rw [hP]; simp
  have iQ : (bn : Int) * (ad : Int) = (Q : Int) := by rw [hQ]; simp
  have iR : (ad : Int) * (bd : Int) = (R : Int) := by rw [hR]; simp
  rw [← hP, ← hQ] at h0
  rw [← hR] at h1 hp
  rw [← hP, ← hQ, ← hR]
  clear hP hQ hR
  obtain ⟨S, hS⟩ : ∃ S, S = P + Q := ⟨_, rfl⟩
  rw [← hS] at h0 ⊢
  have iS : (P : Int) + (Q : Int) = (S : Int) := by omega
  have b1 : P ≤ 4000000000000000000 := by omega
  have b2 : Q ≤ 4000000000000000000 := by omega
  clear hS
  have hg := fun w => divisor_any S R h0 h1 w
  have gp : 0 < Nat.gcd S R := Nat.gcd_pos_of_pos_right _ hp
  have gl : Nat.gcd S R ≤ R := Nat.le_of_dvd hp (Nat.gcd_dvd_right _ _)
  generalize Nat.gcd S R = G at hg gp gl ⊢
  have q0 : (S : Int).tdiv (G : Int) = ((S / G : Nat) : Int) := by rw [Int.tdiv_eq_ediv_of_nonneg (by omega)]; rfl
  have q1 : (R : Int).tdiv (G : Int) = ((R / G : Nat) : Int) := by rw [Int.tdiv_eq_ediv_of_nonneg (by omega)]; rfl
  have l0 : S / G ≤ S := Nat.div_le_self _ _
  have l1 : R / G ≤ R := Nat.div_le_self _ _
  generalize S / G = U at q0 l0 ⊢
  generalize R / G = V at q1 l1 ⊢
  have w0 : IntKind.i64.wrap (U : Int) = (U : Int) := IntWalk.i64_in _ (by omega)
  have w1 : IntKind.i64.wrap (V : Int) = (V : Int) := IntWalk.i64_in _ (by omega)
  have tg : ((G : Int) == 0) = false := by simp; omega
  have tg2 : ¬ G = 0 := by omega
  go_wp2_with fail
  refine (hg _).mono ?_
  rintro e w1 ⟨rfl, b1⟩
  clear hg
  have hq := rowLater b1 (hA4_2 _ _ _ _ _)
  have hr := rowLater b1 (hA4_3 _ _ _ _ _)
  have c0 : w1.cell? ⟨w.heap.size + 1 + 1 + 1, 0, none⟩ = some (.int .i64 (S : Int)) := cell_of_row _ _ 0 _ _ _ hr
  have c1 : w1.cell? ⟨w.heap.size + 1 + 1 + 1, 1, none⟩ = some (.int .i64 (R : Int)) := cell_of_row _ _ 1 _ _ _ hr
  have hB : Below w.heap.size w w1 := ext_trans (extA4 _ _ _ _ _) b1
  clear b1 hr
  go_wp2_with fail
  go_still_tail 9, (by kernel_rfl)
  change wpList _ _ _ _ _ w1.drew
  have hq' : w1.drew.heap[w.heap.size + 1 + 1]? = some (.cells #[.int .i64 0, .int .i64 0] 93 (0, 0)) := hq
  have hB' := hB.drew
  clear c0 c1 hq hB
  generalize w1.drew = w3 at hq' hB' ⊢
  go_wp2_with (refine wpList_store_row rfl 93 _ _ rfl (w.heap.size + 1 + 1) #[.int .i64 (U : Int), .int .i64 (V : Int)] rfl rfl 93 _ hq' (by kernel_rfl) rfl (by kernel_rfl) ?_)
  refine bodyPost_ret (results_cell_row rfl _ _ (w.heap.size + 1 + 1) _ _ _ _ rfl (setRow_heap _ _ _ _ _ _ hq') Tryz.underlying93 rfl (by kernel_rfl)) rfl ⟨rfl, ?_⟩
  exact below_setRow' hB' (by omega) _

end Go.Proofs.YtkinlobfdkeamaaGreatDoor

