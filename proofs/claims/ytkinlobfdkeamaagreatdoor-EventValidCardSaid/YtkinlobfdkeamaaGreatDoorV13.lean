/- The lists of texts: the program's all and the reference's. slices.IndexFunc and slices.ContainsFunc at lists whose elements are one cell each. slices.IndexFunc and slices.ContainsFunc at lists of seals and of fractions. -/
import Derived.Test.YtkinlobfdkeamaaGreatDoorV03
import Derived.Test.YtkinlobfdkeamaaGreatDoorV12
import Derived.Conc.MuLone
namespace Go.Proofs.YtkinlobfdkeamaaGreatDoor
open Go.RowKit

/-- All different, and all of a kind. -/
def allP (c : Int) (l : List (List UInt8)) : Bool := decide (l.Nodup) && l.all (isP c)

theorem take_snoc (l : List (List UInt8)) (k : Nat) (h : k < l.length) : l.take (k + 1) = l.take k ++ [l.getD k []] := by
  rw [List.take_succ_eq_append_getElem h, List.getD_eq_getElem?_getD, List.getElem?_eq_getElem h]; rfl
theorem allP_step (c : Int) (l : List (List UInt8)) (k : Nat) (h : k < l.length) : allP c (l.take (k + 1)) = (allP c (l.take k) && (!decide (l.getD k [] ∈ l.take k) && isP c (l.getD k []))) := by
  rw [take_snoc l k h]
  unfold allP
  rw [Bool.eq_iff_iff]
  simp only [Bool.and_eq_true, decide_eq_true_eq, Bool.not_eq_true', decide_eq_false_iff_not, List.all_append, List.nodup_append, List.all_cons, List.all_nil, Bool.and_true]
  constructor
  · rintro ⟨⟨h1, h2, h3⟩, h4, h5⟩
    exact ⟨⟨h1, h4⟩, fun hm => h3 _ hm _ (List.mem_singleton.2 rfl) rfl, h5⟩
  · rintro ⟨⟨h1, h4⟩, h3, h5⟩
    refine ⟨⟨h1, by simp, ?_⟩, h4, h5⟩
    intro a ha b hb e
    rw [List.mem_singleton] at hb
    subst hb
    subst e
    exact h3 ha
theorem allP_false (c : Int) (l : List (List UInt8)) (k : Nat) (h : allP c (l.take k) = false) : allP c l = false := by
  rw [← List.take_append_drop k l]
  unfold allP at h ⊢
  rw [Bool.and_eq_false_iff] at h ⊢
  rcases h with h | h
  · left
    rw [decide_eq_false_iff_not] at h ⊢
    intro hn
    exact h (List.nodup_append.1 hn).1
  · right
    rw [List.all_append, h]
    rfl

set_option maxHeartbeats 4000000 in
set_option maxRecDepth 100000 in
/-- The program's, at a test of texts that is a function of its own. -/
theorem all_any (F : FuncId) (c : Int) (least most : Nat) (hent : ∀ args w, (callFunc F args).run Tryz.prog w = .ok (.enter F args) w) (hF : ∀ (s : List UInt8) (w : World), Calls Tryz.prog F #[.string ⟨s.toArray⟩] w fun e w' => e = .returned (.bool (isP c s)) ∧ Below w.heap.size w w')
    (v : Value) (l : List (List UInt8)) (w : World) (h : Strs w v l) : Calls Tryz.prog 77 #[v, .int .i64 (least : Int), .int .i64 (most : Int), .func (.func F) #[] #[]] w fun e w' => e = .returned (.bool (decide (least ≤ l.length ∧ l.length ≤ most) && allP c l)) ∧ Below w.heap.size w w' := by
  obtain ⟨⟨A, cap, rfl, hc, hel⟩, h2, h3⟩ := id h
  go_enter Tryz.func77, Tryz.ntmps77
  by_cases hb : least ≤ l.length ∧ l.length ≤ most
  · have d1 : decide (l.length < least) = false := by simp; omega
    have d2 : decide (most < l.length) = false := by simp; omega
    have HB := Lib.hid hb
    clear hb
    go_wp2_with fail
    go_loopw [23] (fun v23 wr => ∃ k : Nat, k ≤ l.length ∧ v23 = .int .i64 (k : Int) ∧ allP c (l.take k) = true ∧ Below w.heap.size w wr) (fun v23 _ => ((l.length : Int) - intOf v23).toNat)
    case atStart => exact ⟨0, by omega, rfl, rfl, Below.refl _ _⟩
    case round =>
      obtain ⟨k, hk, rfl, hall, hB⟩ := hrel
      by_cases hlt : k < l.length
      · obtain ⟨ad, rfl, hcell⟩ := hel k hlt
        have hcell' := cellLater hB hcell
        have j0 : (k : Int) < l.length := by omega
        have hst := allP_step c l k hlt
        rw [hall, Bool.true_and] at hst
        have hcon := fun w' (hb : Below w.heap.size w w') => contains_any _ _ (l.getD k []) w' ((h.take (i := k) (by omega)).later hb)
        have kc : k ≤ cap := by omega
        have kci : (k : Int) ≤ cap := by omega
        generalize l.getD k [] = x at hcell hcell' hst hcon
        have HST := Lib.hid hst
        have HALL := Lib.hid hall
        clear hst hall hcell
        go_wp2_with fail
        refine (hcon _ hB).mono ?_
        rintro e w1 ⟨rfl, rfl⟩
        cases hx : decide (x ∈ l.take k) with
        | true =>
          have hno : allP c l = false := allP_false c l (k + 1) (by rw [HST.out, hx]; rfl)
          have HNO := Lib.hid hno
          clear hno
          go_wp2_with fail
          go_ret
          rw [HNO.out, Bool.and_false]
          exact ⟨rfl, hB⟩
        | false =>
          go_wp2_with fail
          refine (hF _ _).mono ?_
          rintro e w2 ⟨rfl, b2⟩
          have hB2 := hB.trans (b2.mono hB.size)
          cases hp : isP c x with
          | true =>
            have hyes : allP c (l.take (k + 1)) = true := by rw [HST.out, hx, hp]; rfl
            have HY := Lib.hid hyes
            clear hyes
            go_wp2_with fail
            exact ⟨⟨k + 1, by omega, by go_num, HY.out, hB2⟩, by simp only [intOf]; omega⟩
          | false =>
            have hno : allP c l = false := allP_false c l (k + 1) (by rw [HST.out, hx, hp]; rfl)
            have HNO := Lib.hid hno
            clear hno
            go_wp2_with fail
            go_ret
            rw [HNO.out, Bool.and_false]
            exact ⟨rfl, hB2⟩
      · have hkl : k = l.length := by omega
        subst hkl
        rw [List.take_length] at hall
        have HALL := Lib.hid hall
        clear hall hel
        go_wp2_with fail
        go_ret
        rw [HALL.out, decide_eq_true HB.out]
        exact ⟨rfl, hB⟩
  · have hd : decide (least ≤ l.length ∧ l.length ≤ most) = false := by simpa using hb
    have hor : (decide (l.length < least) || decide (most < l.length)) = true := by
      simp only [Bool.or_eq_true, decide_eq_true_eq]
      omega
    have HD := Lib.hid hd
    clear hd hb
    by_cases h1 : l.length < least
    · have d1 : decide (l.length < least) = true := by simpa using h1
      go_wp2_with fail
      go_ret
      rw [HD.out]
      exact ⟨rfl, Below.refl _ _⟩
    · have d1 : decide (l.length < least) = false := by simpa using h1
      have d2 : decide (most < l.length) = true := by rw [d1, Bool.false_or] at hor; exact hor
      go_wp2_with fail
      go_ret
      rw [HD.out]
      exact ⟨rfl, Below.refl _ _⟩

theorem all_key (least most : Nat) (v : Value) (l : List (List UInt8)) (w : World) (h : Strs w v l) : Calls Tryz.prog 77 #[v, .int .i64 (least : Int), .int .i64 (most : Int), .func (.func 78) #[] #[]] w fun e w' => e = .returned (.bool (decide (least ≤ l.length ∧ l.length ≤ most) && allP 2 l)) ∧ Below w.heap.size w w' :=
  all_any _ 2 least most (fun args w => Go.MuLone.run_callFunc_enter Tryz.func78 (by kernel_rfl) rfl args w) key_any v l w h
theorem all_digest (least most : Nat) (v : Value) (l : List (List UInt8)) (w : World) (h : Strs w v l) : Calls Tryz.prog 77 #[v, .int .i64 (least : Int), .int .i64 (most : Int), .func (.func 51) #[] #[]] w fun e w' => e = .returned (.bool (decide (least ≤ l.length ∧ l.length ≤ most) && allP 1 l)) ∧ Below w.heap.size w w' :=
  all_any _ 1 least most (fun args w => Go.MuLone.run_callFunc_enter Tryz.func51 (by kernel_rfl) rfl args w) digest_any v l w h
theorem all_witness (least most : Nat) (v : Value) (l : List (List UInt8)) (w : World) (h : Strs w v l) : Calls Tryz.prog 77 #[v, .int .i64 (least : Int), .int .i64 (most : Int), .func (.func 117) #[] #[]] w fun e w' => e = .returned (.bool (decide (least ≤ l.length ∧ l.length ≤ most) && allP 3 l)) ∧ Below w.heap.size w w' :=
  all_any _ 3 least most (fun args w => Go.MuLone.run_callFunc_enter Tryz.func117 (by kernel_rfl) rfl args w) witness_any v l w h

set_option maxHeartbeats 4000000 in
set_option maxRecDepth 100000 in
/-- The reference's. -/
theorem r14_all (c : Int) (most : Nat) (v : Value) (l : List (List UInt8)) (w : World) (h : Strs w v l) : Calls Tryz.prog 55 #[v, .int .i64 c, .int .i64 (most : Int)] w fun e w' => e = .returned (.bool (decide (l.length ≤ most) && allP c l)) ∧ Below w.heap.size w w' := by
  obtain ⟨⟨A, cap, rfl, hc, hel⟩, h2, h3⟩ := id h
  go_enter Tryz.func55, Tryz.ntmps55
  go_wp2_with fail
  go_loopw [13] (fun v13 wr => ∃ k : Nat, k ≤ l.length ∧ v13 = .int .i64 (k : Int) ∧ allP c (l.take k) = true ∧ Below w.heap.size w wr) (fun v13 _ => ((l.length : Int) - intOf v13).toNat)
  case atStart => exact ⟨0, by omega, rfl, rfl, Below.refl _ _⟩
  case round =>
    obtain ⟨k, hk, rfl, hall, hB⟩ := hrel
    by_cases hlt : k < l.length
    · obtain ⟨ad, rfl, hcell⟩ := hel k hlt
      have hcell' := cellLater hB hcell
      have j0 : (k : Int) < l.length := by omega
      have hst := allP_step c l k hlt
      rw [hall, Bool.true_and] at hst
      have kc : k ≤ cap := by omega
      have kci : (k : Int) ≤ cap := by omega
      generalize l.getD k [] = x at hcell hcell' hst
      have HST := Lib.hid hst
      have HALL := Lib.hid hall
      clear hst hall hcell
      go_wp2_with fail
      refine (r03_is c x _).mono ?_
      rintro e w1 ⟨rfl, b1⟩
      have hB1 := hB.trans (b1.mono hB.size)
      cases hp : isP c x with
      | false =>
        have hno : allP c l = false := allP_false c l (k + 1) (by rw [HST.out, hp, Bool.and_false])
        have HNO := Lib.hid hno
        clear hno
        go_wp2_with fail
        go_ret
        rw [HNO.out, Bool.and_false]
        exact ⟨rfl, hB1⟩
      | true =>
        go_wp2_with fail
        obtain ⟨wo, rfl⟩ : ∃ wo : World, wo = w1 := ⟨_, rfl⟩
        go_loopw [26] (fun v26 wq => ∃ j : Nat, j ≤ k ∧ v26 = .int .i64 (j : Int) ∧ x ∉ l.take j ∧ wq = wo) (fun v26 _ => ((k : Int) - intOf v26).toNat)
        case atStart => exact ⟨0, by omega, rfl, by simp, rfl⟩
        case round =>
          obtain ⟨j, hj, rfl, hnj, rfl⟩ := hrel
          by_cases hjk : j < k
          · obtain ⟨ad', e, hcj⟩ := hel j (by omega)
            cases e
            have hcj' := cellLater hB1 hcj
            have j1 : (j : Int) < k := by omega
            have hsn := take_snoc l j (by omega)
            have hin : l.getD j [] ∈ l.take k := by
              rw [List.getD_eq_getElem?_getD, List.getElem?_eq_getElem (by omega)]
              exact List.mem_iff_getElem.2 ⟨j, by rw [List.length_take]; omega, by simp⟩
            generalize l.getD j [] = y at hcj hcj' hsn hin
            by_cases hxy : y = x
            · subst hxy
              have hno : allP c l = false := allP_false c l (k + 1) (by rw [HST.out, decide_eq_true hin]; rfl)
              have HNO := Lib.hid hno
              clear hno hsn hin hel hcj
              go_wp2_with fail
              go_ret
              rw [HNO.out, Bool.and_false]
              exact ⟨rfl, hB1⟩
            · have t0 : (y == x) = false := by simpa using hxy
              have hn' : x ∉ l.take (j + 1) := by
                rw [hsn, List.mem_append, List.mem_singleton]
                rintro (h | h)
                · exact hnj h
                · exact hxy h.symm
              have HN := Lib.hid hn'
              clear hn' hsn hin hcj hnj
              go_wp2_with fail
              exact ⟨⟨j + 1, by omega, by go_num, HN.out, by first | trivial | rfl⟩, by simp only [intOf]; omega⟩
          · have hjk' : j = k := by omega
            subst hjk'
            have hyes : allP c (l.take (j + 1)) = true := by rw [HST.out, decide_eq_false hnj]; exact hp
            have HY := Lib.hid hyes
            clear hyes hnj
            go_wp2_with fail
            exact ⟨⟨j + 1, by omega, by go_num, HY.out, hB1⟩, by simp only [intOf]; omega⟩
    · have hkl : k = l.length := by omega
      subst hkl
      rw [List.take_length] at hall
      have HALL := Lib.hid hall
      clear hall hel
      go_wp2_with fail
      go_ret
      rw [HALL.out, Bool.and_true]
      exact ⟨rfl, hB⟩

end Go.Proofs.YtkinlobfdkeamaaGreatDoor

namespace Go.Proofs.YtkinlobfdkeamaaGreatDoor
open Go.RowKit

/-- The slice value v has n elements of one cell each: ev. -/
def Row1 (w : World) (v : Value) (n : Nat) (ev : Nat → Value) : Prop := ∃ A c, v = .slice A n c ∧ n ≤ c ∧ n ≤ 1000000 ∧ ∀ i, i < n → ∃ ad, A = some ad ∧ w.cell? (ad.add i) = some (ev i)
theorem Strs.row {w : World} {v : Value} {l : List (List UInt8)} (h : Strs w v l) : Row1 w v l.length (fun i => .string ⟨(l.getD i []).toArray⟩) := by
  obtain ⟨⟨A, c, rfl, hc, hel⟩, h2, h3⟩ := h
  exact ⟨A, c, rfl, hc, h2, hel⟩

set_option maxHeartbeats 4000000 in
set_option maxRecDepth 100000 in
theorem indexFuncStr0 (F : FuncId) (hent : ∀ args w, (callFunc F args).run Tryz.prog w = .ok (.enter F args) w) (v : Value) (n : Nat) (ev : Nat → Value) (p : Nat → Bool) (w : World) (h : Row1 w v n ev)
    (hF : ∀ i, i < n → ∀ w', Below w.heap.size w w' → Calls Tryz.prog F #[ev i] w' fun e w'' => e = .returned (.bool (p i)) ∧ Below w'.heap.size w' w'') :
    Calls Tryz.prog 82 #[v, .func (.func F) #[] #[]] w fun e w' => (∃ m : Int, e = .returned (.int .i64 m) ∧ (0 ≤ m ↔ ∃ i, i < n ∧ p i = true)) ∧ Below w.heap.size w w' := by
  obtain ⟨A, c, rfl, hc, hn, hel⟩ := h
  go_enter Tryz.func82, Tryz.ntmps82
  go_wp2_with fail
  go_loopw [8] (fun v8 wr => ∃ k : Nat, k ≤ n ∧ v8 = .int .i64 (k : Int) ∧ (∀ i, i < k → p i = false) ∧ Below w.heap.size w wr) (fun v8 _ => ((n : Int) - intOf v8).toNat)
  case atStart => exact ⟨0, by omega, rfl, fun i hi => by omega, Below.refl _ _⟩
  case round =>
    obtain ⟨k, hk, rfl, hno, hB⟩ := hrel
    by_cases hlt : k < n
    · obtain ⟨ad, rfl, hcell⟩ := hel k hlt
      have hcell' := cellLater hB hcell
      have j0 : (k : Int) < n := by omega
      have hFk := hF k hlt wr hB
      have HNO := Lib.hid hno
      clear hel hno hcell hF
      generalize ev k = x at hcell' hFk
      cases hp : p k with
      | true =>
        have hyes : ∃ i, i < n ∧ p i = true := ⟨k, hlt, hp⟩
        have HY := Lib.hid hyes
        rw [hp] at hFk
        clear hyes
        go_wp2_with fail
        refine hFk.mono ?_
        rintro e w1 ⟨rfl, b1⟩
        go_wp2_with fail
        go_ret
        exact ⟨⟨(k : Int), rfl, fun _ => HY.out, fun _ => by omega⟩, hB.trans (b1.mono hB.size)⟩
      | false =>
        have hno' : ∀ i, i < k + 1 → p i = false := fun i hi => by
          by_cases e : i = k
          · rw [e]; exact hp
          · exact HNO.out i (by omega)
        have HN := Lib.hid hno'
        rw [hp] at hFk
        clear hno'
        go_wp2_with fail
        refine hFk.mono ?_
        rintro e w1 ⟨rfl, b1⟩
        go_wp2_with fail
        exact ⟨⟨k + 1, by omega, by go_num, HN.out, hB.trans (b1.mono hB.size)⟩, by simp only [intOf]; omega⟩
    · have hkl : k = n := by omega
      subst hkl
      have hnone : ¬ ∃ i, i < k ∧ p i = true := by
        rintro ⟨i, hi, hp⟩
        rw [hno i hi] at hp
        cases hp
      have HN := Lib.hid hnone
      clear hel hno hnone hF
      go_wp2_with fail
      go_ret
      exact ⟨⟨-1, rfl, fun h => by omega, fun h => absurd h HN.out⟩, hB⟩

set_option maxRecDepth 100000 in
theorem containsFuncStr0 (F : FuncId) (hent : ∀ args w, (callFunc F args).run Tryz.prog w = .ok (.enter F args) w) (v : Value) (n : Nat) (ev : Nat → Value) (p : Nat → Bool) (b : Bool) (w : World) (h : Row1 w v n ev)
    (hF : ∀ i, i < n → ∀ w', Below w.heap.size w w' → Calls Tryz.prog F #[ev i] w' fun e w'' => e = .returned (.bool (p i)) ∧ Below w'.heap.size w' w'') (hb : b = true ↔ ∃ i, i < n ∧ p i = true) :
    Calls Tryz.prog 45 #[v, .func (.func F) #[] #[]] w fun e w' => e = .returned (.bool b) ∧ Below w.heap.size w w' := by
  have hix := indexFuncStr0 F hent v n ev p w h hF
  clear hF h
  go_enter Tryz.func45, Tryz.ntmps45
  go_wp2_with fail
  refine hix.mono ?_
  rintro e w' ⟨⟨m, rfl, hm⟩, b1⟩
  have hd : decide (0 ≤ m) = b := by
    rw [Bool.eq_iff_iff, decide_eq_true_eq]
    exact hm.trans hb.symm
  have HD := Lib.hid hd
  clear hm hb hix hd
  go_wp2_with fail
  go_ret
  rw [← HD.out]
  exact ⟨rfl, b1⟩

set_option maxHeartbeats 4000000 in
set_option maxRecDepth 100000 in
theorem indexFuncStr1 (F : FuncId) (cv : Value) (hent : ∀ args w, (callFunc F args).run Tryz.prog w = .ok (.enter F args) w) (v : Value) (n : Nat) (ev : Nat → Value) (p : Nat → Bool) (w : World) (h : Row1 w v n ev)
    (hF : ∀ i, i < n → ∀ w', Below w.heap.size w w' → Calls Tryz.prog F #[ev i, cv] w' fun e w'' => e = .returned (.bool (p i)) ∧ Below w'.heap.size w' w'') :
    Calls Tryz.prog 82 #[v, .func (.func F) #[] #[cv]] w fun e w' => (∃ m : Int, e = .returned (.int .i64 m) ∧ (0 ≤ m ↔ ∃ i, i < n ∧ p i = true)) ∧ Below w.heap.size w w' := by
  obtain ⟨A, c, rfl, hc, hn, hel⟩ := h
  go_enter Tryz.func82, Tryz.ntmps82
  go_wp2_with fail
  go_loopw [8] (fun v8 wr => ∃ k : Nat, k ≤ n ∧ v8 = .int .i64 (k : Int) ∧ (∀ i, i < k → p i = false) ∧ Below w.heap.size w wr) (fun v8 _ => ((n : Int) - intOf v8).toNat)
  case atStart => exact ⟨0, by omega, rfl, fun i hi => by omega, Below.refl _ _⟩
  case round =>
    obtain ⟨k, hk, rfl, hno, hB⟩ := hrel
    by_cases hlt : k < n
    · obtain ⟨ad, rfl, hcell⟩ := hel k hlt
      have hcell' := cellLater hB hcell
      have j0 : (k : Int) < n := by omega
      have hFk := hF k hlt wr hB
      have HNO := Lib.hid hno
      clear hel hno hcell hF
      generalize ev k = x at hcell' hFk
      cases hp : p k with
      | true =>
        have hyes : ∃ i, i < n ∧ p i = true := ⟨k, hlt, hp⟩
        have HY := Lib.hid hyes
        rw [hp] at hFk
        clear hyes
        go_wp2_with fail
        refine hFk.mono ?_
        rintro e w1 ⟨rfl, b1⟩
        go_wp2_with fail
        go_ret
        exact ⟨⟨(k : Int), rfl, fun _ => HY.out, fun _ => by omega⟩, hB.trans (b1.mono hB.size)⟩
      | false =>
        have hno' : ∀ i, i < k + 1 → p i = false := fun i hi => by
          by_cases e : i = k
          · rw [e]; exact hp
          · exact HNO.out i (by omega)
        have HN := Lib.hid hno'
        rw [hp] at hFk
        clear hno'
        go_wp2_with fail
        refine hFk.mono ?_
        rintro e w1 ⟨rfl, b1⟩
        go_wp2_with fail
        exact ⟨⟨k + 1, by omega, by go_num, HN.out, hB.trans (b1.mono hB.size)⟩, by simp only [intOf]; omega⟩
    · have hkl : k = n := by omega
      subst hkl
      have hnone : ¬ ∃ i, i < k ∧ p i = true := by
        rintro ⟨i, hi, hp⟩
        rw [hno i hi] at hp
        cases hp
      have HN := Lib.hid hnone
      clear hel hno hnone hF
      go_wp2_with fail
      go_ret
      exact ⟨⟨-1, rfl, fun h => by omega, fun h => absurd h HN.out⟩, hB⟩

set_option maxRecDepth 100000 in
theorem containsFuncStr1 (F : FuncId) (cv : Value) (hent : ∀ args w, (callFunc F args).run Tryz.prog w = .ok (.enter F args) w) (v : Value) (n : Nat) (ev : Nat → Value) (p : Nat → Bool) (b : Bool) (w : World) (h : Row1 w v n ev)
    (hF : ∀ i, i < n → ∀ w', Below w.heap.size w w' → Calls Tryz.prog F #[ev i, cv] w' fun e w'' => e = .returned (.bool (p i)) ∧ Below w'.heap.size w' w'') (hb : b = true ↔ ∃ i, i < n ∧ p i = true) :
    Calls Tryz.prog 45 #[v, .func (.func F) #[] #[cv]] w fun e w' => e = .returned (.bool b) ∧ Below w.heap.size w w' := by
  have hix := indexFuncStr1 F cv hent v n ev p w h hF
  clear hF h
  go_enter Tryz.func45, Tryz.ntmps45
  go_wp2_with fail
  refine hix.mono ?_
  rintro e w' ⟨⟨m, rfl, hm⟩, b1⟩
  have hd : decide (0 ≤ m) = b := by
    rw [Bool.eq_iff_iff, decide_eq_true_eq]
    exact hm.trans hb.symm
  have HD := Lib.hid hd
  clear hm hb hix hd
  go_wp2_with fail
  go_ret
  rw [← HD.out]
  exact ⟨rfl, b1⟩

set_option maxHeartbeats 4000000 in
set_option maxRecDepth 100000 in
theorem indexFuncStrs0 (F : FuncId) (hent : ∀ args w, (callFunc F args).run Tryz.prog w = .ok (.enter F args) w) (v : Value) (n : Nat) (ev : Nat → Value) (p : Nat → Bool) (w : World) (h : Row1 w v n ev)
    (hF : ∀ i, i < n → ∀ w', Below w.heap.size w w' → Calls Tryz.prog F #[ev i] w' fun e w'' => e = .returned (.bool (p i)) ∧ Below w'.heap.size w' w'') :
    Calls Tryz.prog 146 #[v, .func (.func F) #[] #[]] w fun e w' => (∃ m : Int, e = .returned (.int .i64 m) ∧ (0 ≤ m ↔ ∃ i, i < n ∧ p i = true)) ∧ Below w.heap.size w w' := by
  obtain ⟨A, c, rfl, hc, hn, hel⟩ := h
  go_enter Tryz.func146, Tryz.ntmps146
  go_wp2_with fail
  go_loopw [8] (fun v8 wr => ∃ k : Nat, k ≤ n ∧ v8 = .int .i64 (k : Int) ∧ (∀ i, i < k → p i = false) ∧ Below w.heap.size w wr) (fun v8 _ => ((n : Int) - intOf v8).toNat)
  case atStart => exact ⟨0, by omega, rfl, fun i hi => by omega, Below.refl _ _⟩
  case round =>
    obtain ⟨k, hk, rfl, hno, hB⟩ := hrel
    by_cases hlt : k < n
    · obtain ⟨ad, rfl, hcell⟩ := hel k hlt
      have hcell' := cellLater hB hcell
      have j0 : (k : Int) < n := by omega
      have hFk := hF k hlt wr hB
      have HNO := Lib.hid hno
      clear hel hno hcell hF
      generalize ev k = x at hcell' hFk
      cases hp : p k with
      | true =>
        have hyes : ∃ i, i < n ∧ p i = true := ⟨k, hlt, hp⟩
        have HY := Lib.hid hyes
        rw [hp] at hFk
        clear hyes
        go_wp2_with fail
        refine hFk.mono ?_
        rintro e w1 ⟨rfl, b1⟩
        go_wp2_with fail
        go_ret
        exact ⟨⟨(k : Int), rfl, fun _ => HY.out, fun _ => by omega⟩, hB.trans (b1.mono hB.size)⟩
      | false =>
        have hno' : ∀ i, i < k + 1 → p i = false := fun i hi => by
          by_cases e : i = k
          · rw [e]; exact hp
          · exact HNO.out i (by omega)
        have HN := Lib.hid hno'
        rw [hp] at hFk
        clear hno'
        go_wp2_with fail
        refine hFk.mono ?_
        rintro e w1 ⟨rfl, b1⟩
        go_wp2_with fail
        exact ⟨⟨k + 1, by omega, by go_num, HN.out, hB.trans (b1.mono hB.size)⟩, by simp only [intOf]; omega⟩
    · have hkl : k = n := by omega
      subst hkl
      have hnone : ¬ ∃ i, i < k ∧ p i = true := by
        rintro ⟨i, hi, hp⟩
        rw [hno i hi] at hp
        cases hp
      have HN := Lib.hid hnone
      clear hel hno hnone hF
      go_wp2_with fail
      go_ret
      exact ⟨⟨-1, rfl, fun h => by omega, fun h => absurd h HN.out⟩, hB⟩

set_option maxRecDepth 100000 in
theorem containsFuncStrs0 (F : FuncId) (hent : ∀ args w, (callFunc F args).run Tryz.prog w = .ok (.enter F args) w) (v : Value) (n : Nat) (ev : Nat → Value) (p : Nat → Bool) (b : Bool) (w : World) (h : Row1 w v n ev)
    (hF : ∀ i, i < n → ∀ w', Below w.heap.size w w' → Calls Tryz.prog F #[ev i] w' fun e w'' => e = .returned (.bool (p i)) ∧ Below w'.heap.size w' w'') (hb : b = true ↔ ∃ i, i < n ∧ p i = true) :
    Calls Tryz.prog 115 #[v, .func (.func F) #[] #[]] w fun e w' => e = .returned (.bool b) ∧ Below w.heap.size w w' := by
  have hix := indexFuncStrs0 F hent v n ev p w h hF
  clear hF h
  go_enter Tryz.func115, Tryz.ntmps115
  go_wp2_with fail
  refine hix.mono ?_
  rintro e w' ⟨⟨m, rfl, hm⟩, b1⟩
  have hd : decide (0 ≤ m) = b := by
    rw [Bool.eq_iff_iff, decide_eq_true_eq]
    exact hm.trans hb.symm
  have HD := Lib.hid hd
  clear hm hb hix hd
  go_wp2_with fail
  go_ret
  rw [← HD.out]
  exact ⟨rfl, b1⟩

set_option maxHeartbeats 4000000 in
set_option maxRecDepth 100000 in
theorem indexFuncStrs1 (F : FuncId) (cv : Value) (hent : ∀ args w, (callFunc F args).run Tryz.prog w = .ok (.enter F args) w) (v : Value) (n : Nat) (ev : Nat → Value) (p : Nat → Bool) (w : World) (h : Row1 w v n ev)
    (hF : ∀ i, i < n → ∀ w', Below w.heap.size w w' → Calls Tryz.prog F #[ev i, cv] w' fun e w'' => e = .returned (.bool (p i)) ∧ Below w'.heap.size w' w'') :
    Calls Tryz.prog 146 #[v, .func (.func F) #[] #[cv]] w fun e w' => (∃ m : Int, e = .returned (.int .i64 m) ∧ (0 ≤ m ↔ ∃ i, i < n ∧ p i = true)) ∧ Below w.heap.size w w' := by
  obtain ⟨A, c, rfl, hc, hn, hel⟩ := h
  go_enter Tryz.func146, Tryz.ntmps146
  go_wp2_with fail
  go_loopw [8] (fun v8 wr => ∃ k : Nat, k ≤ n ∧ v8 = .int .i64 (k : Int) ∧ (∀ i, i < k → p i = false) ∧ Below w.heap.size w wr) (fun v8 _ => ((n : Int) - intOf v8).toNat)
  case atStart => exact ⟨0, by omega, rfl, fun i hi => by omega, Below.refl _ _⟩
  case round =>
    obtain ⟨k, hk, rfl, hno, hB⟩ := hrel
    by_cases hlt : k < n
    · obtain ⟨ad, rfl, hcell⟩ := hel k hlt
      have hcell' := cellLater hB hcell
      have j0 : (k : Int) < n := by omega
      have hFk := hF k hlt wr hB
      have HNO := Lib.hid hno
      clear hel hno hcell hF
      generalize ev k = x at hcell' hFk
      cases hp : p k with
      | true =>
        have hyes : ∃ i, i < n ∧ p i = true := ⟨k, hlt, hp⟩
        have HY := Lib.hid hyes
        rw [hp] at hFk
        clear hyes
        go_wp2_with fail
        refine hFk.mono ?_
        rintro e w1 ⟨rfl, b1⟩
        go_wp2_with fail
        go_ret
        exact ⟨⟨(k : Int), rfl, fun _ => HY.out, fun _ => by omega⟩, hB.trans (b1.mono hB.size)⟩
      | false =>
        have hno' : ∀ i, i < k + 1 → p i = false := fun i hi => by
          by_cases e : i = k
          · rw [e]; exact hp
          · exact HNO.out i (by omega)
        have HN := Lib.hid hno'
        rw [hp] at hFk
        clear hno'
        go_wp2_with fail
        refine hFk.mono ?_
        rintro e w1 ⟨rfl, b1⟩
        go_wp2_with fail
        exact ⟨⟨k + 1, by omega, by go_num, HN.out, hB.trans (b1.mono hB.size)⟩, by simp only [intOf]; omega⟩
    · have hkl : k = n := by omega
      subst hkl
      have hnone : ¬ ∃ i, i < k ∧ p i = true := by
        rintro ⟨i, hi, hp⟩
        rw [hno i hi] at hp
        cases hp
      have HN := Lib.hid hnone
      clear hel hno hnone hF
      go_wp2_with fail
      go_ret
      exact ⟨⟨-1, rfl, fun h => by omega, fun h => absurd h HN.out⟩, hB⟩

set_option maxRecDepth 100000 in
theorem containsFuncStrs1 (F : FuncId) (cv : Value) (hent : ∀ args w, (callFunc F args).run Tryz.prog w = .ok (.enter F args) w) (v : Value) (n : Nat) (ev : Nat → Value) (p : Nat → Bool) (b : Bool) (w : World) (h : Row1 w v n ev)
    (hF : ∀ i, i < n → ∀ w', Below w.heap.size w w' → Calls Tryz.prog F #[ev i, cv] w' fun e w'' => e = .returned (.bool (p i)) ∧ Below w'.heap.size w' w'') (hb : b = true ↔ ∃ i, i < n ∧ p i = true) :
    Calls Tryz.prog 115 #[v, .func (.func F) #[] #[cv]] w fun e w' => e = .returned (.bool b) ∧ Below w.heap.size w w' := by
  have hix := indexFuncStrs1 F cv hent v n ev p w h hF
  clear hF h
  go_enter Tryz.func115, Tryz.ntmps115
  go_wp2_with fail
  refine hix.mono ?_
  rintro e w' ⟨⟨m, rfl, hm⟩, b1⟩
  have hd : decide (0 ≤ m) = b := by
    rw [Bool.eq_iff_iff, decide_eq_true_eq]
    exact hm.trans hb.symm
  have HD := Lib.hid hd
  clear hm hb hix hd
  go_wp2_with fail
  go_ret
  rw [← HD.out]
  exact ⟨rfl, b1⟩

set_option maxHeartbeats 4000000 in
set_option maxRecDepth 100000 in
theorem indexFuncFracs0 (F : FuncId) (hent : ∀ args w, (callFunc F args).run Tryz.prog w = .ok (.enter F args) w) (v : Value) (n : Nat) (ev : Nat → Value) (p : Nat → Bool) (w : World) (h : Row1 w v n ev)
    (hF : ∀ i, i < n → ∀ w', Below w.heap.size w w' → Calls Tryz.prog F #[ev i] w' fun e w'' => e = .returned (.bool (p i)) ∧ Below w'.heap.size w' w'') :
    Calls Tryz.prog 142 #[v, .func (.func F) #[] #[]] w fun e w' => (∃ m : Int, e = .returned (.int .i64 m) ∧ (0 ≤ m ↔ ∃ i, i < n ∧ p i = true)) ∧ Below w.heap.size w w' := by
  obtain ⟨A, c, rfl, hc, hn, hel⟩ := h
  go_enter Tryz.func142, Tryz.ntmps142
  go_wp2_with fail
  go_loopw [8] (fun v8 wr => ∃ k : Nat, k ≤ n ∧ v8 = .int .i64 (k : Int) ∧ (∀ i, i < k → p i = false) ∧ Below w.heap.size w wr) (fun v8 _ => ((n : Int) - intOf v8).toNat)
  case atStart => exact ⟨0, by omega, rfl, fun i hi => by omega, Below.refl _ _⟩
  case round =>
    obtain ⟨k, hk, rfl, hno, hB⟩ := hrel
    by_cases hlt : k < n
    · obtain ⟨ad, rfl, hcell⟩ := hel k hlt
      have hcell' := cellLater hB hcell
      have j0 : (k : Int) < n := by omega
      have hFk := hF k hlt wr hB
      have HNO := Lib.hid hno
      clear hel hno hcell hF
      generalize ev k = x at hcell' hFk
      cases hp : p k with
      | true =>
        have hyes : ∃ i, i < n ∧ p i = true := ⟨k, hlt, hp⟩
        have HY := Lib.hid hyes
        rw [hp] at hFk
        clear hyes
        go_wp2_with fail
        refine hFk.mono ?_
        rintro e w1 ⟨rfl, b1⟩
        go_wp2_with fail
        go_ret
        exact ⟨⟨(k : Int), rfl, fun _ => HY.out, fun _ => by omega⟩, hB.trans (b1.mono hB.size)⟩
      | false =>
        have hno' : ∀ i, i < k + 1 → p i = false := fun i hi => by
          by_cases e : i = k
          · rw [e]; exact hp
          · exact HNO.out i (by omega)
        have HN := Lib.hid hno'
        rw [hp] at hFk
        clear hno'
        go_wp2_with fail
        refine hFk.mono ?_
        rintro e w1 ⟨rfl, b1⟩
        go_wp2_with fail
        exact ⟨⟨k + 1, by omega, by go_num, HN.out, hB.trans (b1.mono hB.size)⟩, by simp only [intOf]; omega⟩
    · have hkl : k = n := by omega
      subst hkl
      have hnone : ¬ ∃ i, i < k ∧ p i = true := by
        rintro ⟨i, hi, hp⟩
        rw [hno i hi] at hp
        cases hp
      have HN := Lib.hid hnone
      clear hel hno hnone hF
      go_wp2_with fail
      go_ret
      exact ⟨⟨-1, rfl, fun h => by omega, fun h => absurd h HN.out⟩, hB⟩

set_option maxRecDepth 100000 in
theorem containsFuncFracs0 (F : FuncId) (hent : ∀ args w, (callFunc F args).run Tryz.prog w = .ok (.enter F args) w) (v : Value) (n : Nat) (ev : Nat → Value) (p : Nat → Bool) (b : Bool) (w : World) (h : Row1 w v n ev)
    (hF : ∀ i, i < n → ∀ w', Below w.heap.size w w' → Calls Tryz.prog F #[ev i] w' fun e w'' => e = .returned (.bool (p i)) ∧ Below w'.heap.size w' w'') (hb : b = true ↔ ∃ i, i < n ∧ p i = true) :
    Calls Tryz.prog 110 #[v, .func (.func F) #[] #[]] w fun e w' => e = .returned (.bool b) ∧ Below w.heap.size w w' := by
  have hix := indexFuncFracs0 F hent v n ev p w h hF
  clear hF h
  go_enter Tryz.func110, Tryz.ntmps110
  go_wp2_with fail
  refine hix.mono ?_
  rintro e w' ⟨⟨m, rfl, hm⟩, b1⟩
  have hd : decide (0 ≤ m) = b := by
    rw [Bool.eq_iff_iff, decide_eq_true_eq]
    exact hm.trans hb.symm
  have HD := Lib.hid hd
  clear hm hb hix hd
  go_wp2_with fail
  go_ret
  rw [← HD.out]
  exact ⟨rfl, b1⟩

set_option maxHeartbeats 4000000 in
set_option maxRecDepth 100000 in
theorem indexFuncFracs1 (F : FuncId) (cv : Value) (hent : ∀ args w, (callFunc F args).run Tryz.prog w = .ok (.enter F args) w) (v : Value) (n : Nat) (ev : Nat → Value) (p : Nat → Bool) (w : World) (h : Row1 w v n ev)
    (hF : ∀ i, i < n → ∀ w', Below w.heap.size w w' → Calls Tryz.prog F #[ev i, cv] w' fun e w'' => e = .returned (.bool (p i)) ∧ Below w'.heap.size w' w'') :
    Calls Tryz.prog 142 #[v, .func (.func F) #[] #[cv]] w fun e w' => (∃ m : Int, e = .returned (.int .i64 m) ∧ (0 ≤ m ↔ ∃ i, i < n ∧ p i = true)) ∧ Below w.heap.size w w' := by
  obtain ⟨A, c, rfl, hc, hn, hel⟩ := h
  go_enter Tryz.func142, Tryz.ntmps142
  go_wp2_with fail
  go_loopw [8] (fun v8 wr => ∃ k : Nat, k ≤ n ∧ v8 = .int .i64 (k : Int) ∧ (∀ i, i < k → p i = false) ∧ Below w.heap.size w wr) (fun v8 _ => ((n : Int) - intOf v8).toNat)
  case atStart => exact ⟨0, by omega, rfl, fun i hi => by omega, Below.refl _ _⟩
  case round =>
    obtain ⟨k, hk, rfl, hno, hB⟩ := hrel
    by_cases hlt : k < n
    · obtain ⟨ad, rfl, hcell⟩ := hel k hlt
      have hcell' := cellLater hB hcell
      have j0 : (k : Int) < n := by omega
      have hFk := hF k hlt wr hB
      have HNO := Lib.hid hno
      clear hel hno hcell hF
      generalize ev k = x at hcell' hFk
      cases hp : p k with
      | true =>
        have hyes : ∃ i, i < n ∧ p i = true := ⟨k, hlt, hp⟩
        have HY := Lib.hid hyes
        rw [hp] at hFk
        clear hyes
        go_wp2_with fail
        refine hFk.mono ?_
        rintro e w1 ⟨rfl, b1⟩
        go_wp2_with fail
        go_ret
        exact ⟨⟨(k : Int), rfl, fun _ => HY.out, fun _ => by omega⟩, hB.trans (b1.mono hB.size)⟩
      | false =>
        have hno' : ∀ i, i < k + 1 → p i = false := fun i hi => by
          by_cases e : i = k
          · rw [e]; exact hp
          · exact HNO.out i (by omega)
        have HN := Lib.hid hno'
        rw [hp] at hFk
        clear hno'
        go_wp2_with fail
        refine hFk.mono ?_
        rintro e w1 ⟨rfl, b1⟩
        go_wp2_with fail
        exact ⟨⟨k + 1, by omega, by go_num, HN.out, hB.trans (b1.mono hB.size)⟩, by simp only [intOf]; omega⟩
    · have hkl : k = n := by omega
      subst hkl
      have hnone : ¬ ∃ i, i < k ∧ p i = true := by
        rintro ⟨i, hi, hp⟩
        rw [hno i hi] at hp
        cases hp
      have HN := Lib.hid hnone
      clear hel hno hnone hF
      go_wp2_with fail
      go_ret
      exact ⟨⟨-1, rfl, fun h => by omega, fun h => absurd h HN.out⟩, hB⟩

set_option maxRecDepth 100000 in
theorem containsFuncFracs1 (F : FuncId) (cv : Value) (hent : ∀ args w, (callFunc F args).run Tryz.prog w = .ok (.enter F args) w) (v : Value) (n : Nat) (ev : Nat → Value) (p : Nat → Bool) (b : Bool) (w : World) (h : Row1 w v n ev)
    (hF : ∀ i, i < n → ∀ w', Below w.heap.size w w' → Calls Tryz.prog F #[ev i, cv] w' fun e w'' => e = .returned (.bool (p i)) ∧ Below w'.heap.size w' w'') (hb : b = true ↔ ∃ i, i < n ∧ p i = true) :
    Calls Tryz.prog 110 #[v, .func (.func F) #[] #[cv]] w fun e w' => e = .returned (.bool b) ∧ Below w.heap.size w w' := by
  have hix := indexFuncFracs1 F cv hent v n ev p w h hF
  clear hF h
  go_enter Tryz.func110, Tryz.ntmps110
  go_wp2_with fail
  refine hix.mono ?_
  rintro e w' ⟨⟨m, rfl, hm⟩, b1⟩
  have hd : decide (0 ≤ m) = b := by
    rw [Bool.eq_iff_iff, decide_eq_true_eq]
    exact hm.trans hb.symm
  have HD := Lib.hid hd
  clear hm hb hix hd
  go_wp2_with fail
  go_ret
  rw [← HD.out]
  exact ⟨rfl, b1⟩

end Go.Proofs.YtkinlobfdkeamaaGreatDoor

namespace Go.Proofs.YtkinlobfdkeamaaGreatDoor
open Go.RowKit

/-- The cell behind an element's first one. -/
def cellPlus (w : World) (a : Addr) (j : Nat) : Option Value := w.cell? ⟨a.block, a.off + j, none⟩
/-- The slice value v has n elements of three cells each. -/
def Row3 (w : World) (v : Value) (n : Nat) (e0 e1 e2 : Nat → Value) : Prop := ∃ A c, v = .slice A n c ∧ n ≤ c ∧ n ≤ 1000000 ∧ ∀ i, i < n → ∃ ad, A = some ad ∧ w.cell? (ad.add (i * 3)) = some (e0 i) ∧ w.cell? ⟨(ad.add (i * 3)).block, (ad.add (i * 3)).off + 1, none⟩ = some (e1 i) ∧ w.cell? ⟨(ad.add (i * 3)).block, (ad.add (i * 3)).off + 2, none⟩ = some (e2 i)
/-- .. of two cells each. -/
def Row2 (w : World) (v : Value) (n : Nat) (e0 e1 : Nat → Value) : Prop := ∃ A c, v = .slice A n c ∧ n ≤ c ∧ n ≤ 1000000 ∧ ∀ i, i < n → ∃ ad, A = some ad ∧ w.cell? (ad.add (i * 2)) = some (e0 i) ∧ w.cell? ⟨(ad.add (i * 2)).block, (ad.add (i * 2)).off + 1, none⟩ = some (e1 i)

set_option maxHeartbeats 4000000 in
set_option maxRecDepth 100000 in
theorem indexFuncSeal0 (F : FuncId) (hent : ∀ args w, (callFunc F args).run Tryz.prog w = .ok (.enter F args) w) (v : Value) (n : Nat) (e0 e1 e2 : Nat → Value) (p : Nat → Bool) (w : World) (h : Row3 w v n e0 e1 e2)
    (hF : ∀ i, i < n → ∀ w', Below w.heap.size w w' → Calls Tryz.prog F #[.agg #[e0 i, e1 i, e2 i]] w' fun e w'' => e = .returned (.bool (p i)) ∧ Below w'.heap.size w' w'') :
    Calls Tryz.prog 84 #[v, .func (.func F) #[] #[]] w fun e w' => (∃ m : Int, e = .returned (.int .i64 m) ∧ (0 ≤ m ↔ ∃ i, i < n ∧ p i = true)) ∧ Below w.heap.size w w' := by
  obtain ⟨A, c, rfl, hc, hn, hel⟩ := h
  go_enter Tryz.func84, Tryz.ntmps84
  go_wp2_with fail
  go_loopw [8] (fun v8 wr => ∃ k : Nat, k ≤ n ∧ v8 = .int .i64 (k : Int) ∧ (∀ i, i < k → p i = false) ∧ Below w.heap.size w wr) (fun v8 _ => ((n : Int) - intOf v8).toNat)
  case atStart => exact ⟨0, by omega, rfl, fun i hi => by omega, Below.refl _ _⟩
  case round =>
    obtain ⟨k, hk, rfl, hno, hB⟩ := hrel
    by_cases hlt : k < n
    · obtain ⟨ad, rfl, hc0, hc1, hc2⟩ := hel k hlt
      have hd0 := cellLater hB hc0
      have hd1 := cellLater hB hc1
      have hd2 := cellLater hB hc2
      have j0 : (k : Int) < n := by omega
      have hFk := hF k hlt wr hB
      have HNO := Lib.hid hno
      clear hel hno hF hc0 hc1 hc2
      generalize e0 k = x0 at hd0 hFk
      generalize e1 k = x1 at hd1 hFk
      generalize e2 k = x2 at hd2 hFk
      cases hp : p k with
      | true =>
        have hyes : ∃ i, i < n ∧ p i = true := ⟨k, hlt, hp⟩
        have HY := Lib.hid hyes
        rw [hp] at hFk
        clear hyes
        go_wp2_with fail
        refine hFk.mono ?_
        rintro e w1 ⟨rfl, b1⟩
        go_wp2_with fail
        go_ret
        exact ⟨⟨(k : Int), rfl, fun _ => HY.out, fun _ => by omega⟩, hB.trans (b1.mono hB.size)⟩
      | false =>
        have hno' : ∀ i, i < k + 1 → p i = false := fun i hi => by
          by_cases e : i = k
          · rw [e]; exact hp
          · exact HNO.out i (by omega)
        have HN := Lib.hid hno'
        rw [hp] at hFk
        clear hno'
        go_wp2_with fail
        refine hFk.mono ?_
        rintro e w1 ⟨rfl, b1⟩
        go_wp2_with fail
        exact ⟨⟨k + 1, by omega, by go_num, HN.out, hB.trans (b1.mono hB.size)⟩, by simp only [intOf]; omega⟩
    · have hkl : k = n := by omega
      subst hkl
      have hnone : ¬ ∃ i, i < k ∧ p i = true := by
        rintro ⟨i, hi, hp⟩
        rw [hno i hi] at hp
        cases hp
      have HN := Lib.hid hnone
      clear hel hno hnone hF
      go_wp2_with fail
      go_ret
      exact ⟨⟨-1, rfl, fun h => by omega, fun h => absurd h HN.out⟩, hB⟩

set_option maxRecDepth 100000 in
theorem containsFuncSeal0 (F : FuncId) (hent : ∀ args w, (callFunc F args).run Tryz.prog w = .ok (.enter F args) w) (v : Value) (n : Nat) (e0 e1 e2 : Nat → Value) (p : Nat → Bool) (b : Bool) (w : World) (h : Row3 w v n e0 e1 e2)
    (hF : ∀ i, i < n → ∀ w', Below w.heap.size w w' → Calls Tryz.prog F #[.agg #[e0 i, e1 i, e2 i]] w' fun e w'' => e = .returned (.bool (p i)) ∧ Below w'.heap.size w' w'') (hb : b = true ↔ ∃ i, i < n ∧ p i = true) :
    Calls Tryz.prog 48 #[v, .func (.func F) #[] #[]] w fun e w' => e = .returned (.bool b) ∧ Below w.heap.size w w' := by
  have hix := indexFuncSeal0 F hent v n e0 e1 e2 p w h hF
  clear hF h
  go_enter Tryz.func48, Tryz.ntmps48
  go_wp2_with fail
  refine hix.mono ?_
  rintro e w' ⟨⟨m, rfl, hm⟩, b1⟩
  have hd : decide (0 ≤ m) = b := by
    rw [Bool.eq_iff_iff, decide_eq_true_eq]
    exact hm.trans hb.symm
  have HD := Lib.hid hd
  clear hm hb hix hd
  go_wp2_with fail
  go_ret
  rw [← HD.out]
  exact ⟨rfl, b1⟩

set_option maxHeartbeats 4000000 in
set_option maxRecDepth 100000 in
theorem indexFuncSeal1 (F : FuncId) (cv : Value) (hent : ∀ args w, (callFunc F args).run Tryz.prog w = .ok (.enter F args) w) (v : Value) (n : Nat) (e0 e1 e2 : Nat → Value) (p : Nat → Bool) (w : World) (h : Row3 w v n e0 e1 e2)
    (hF : ∀ i, i < n → ∀ w', Below w.heap.size w w' → Calls Tryz.prog F #[.agg #[e0 i, e1 i, e2 i], cv] w' fun e w'' => e = .returned (.bool (p i)) ∧ Below w'.heap.size w' w'') :
    Calls Tryz.prog 84 #[v, .func (.func F) #[] #[cv]] w fun e w' => (∃ m : Int, e = .returned (.int .i64 m) ∧ (0 ≤ m ↔ ∃ i, i < n ∧ p i = true)) ∧ Below w.heap.size w w' := by
  obtain ⟨A, c, rfl, hc, hn, hel⟩ := h
  go_enter Tryz.func84, Tryz.ntmps84
  go_wp2_with fail
  go_loopw [8] (fun v8 wr => ∃ k : Nat, k ≤ n ∧ v8 = .int .i64 (k : Int) ∧ (∀ i, i < k → p i = false) ∧ Below w.heap.size w wr) (fun v8 _ => ((n : Int) - intOf v8).toNat)
  case atStart => exact ⟨0, by omega, rfl, fun i hi => by omega, Below.refl _ _⟩
  case round =>
    obtain ⟨k, hk, rfl, hno, hB⟩ := hrel
    by_cases hlt : k < n
    · obtain ⟨ad, rfl, hc0, hc1, hc2⟩ := hel k hlt
      have hd0 := cellLater hB hc0
      have hd1 := cellLater hB hc1
      have hd2 := cellLater hB hc2
      have j0 : (k : Int) < n := by omega
      have hFk := hF k hlt wr hB
      have HNO := Lib.hid hno
      clear hel hno hF hc0 hc1 hc2
      generalize e0 k = x0 at hd0 hFk
      generalize e1 k = x1 at hd1 hFk
      generalize e2 k = x2 at hd2 hFk
      cases hp : p k with
      | true =>
        have hyes : ∃ i, i < n ∧ p i = true := ⟨k, hlt, hp⟩
        have HY := Lib.hid hyes
        rw [hp] at hFk
        clear hyes
        go_wp2_with fail
        refine hFk.mono ?_
        rintro e w1 ⟨rfl, b1⟩
        go_wp2_with fail
        go_ret
        exact ⟨⟨(k : Int), rfl, fun _ => HY.out, fun _ => by omega⟩, hB.trans (b1.mono hB.size)⟩
      | false =>
        have hno' : ∀ i, i < k + 1 → p i = false := fun i hi => by
          by_cases e : i = k
          · rw [e]; exact hp
          · exact HNO.out i (by omega)
        have HN := Lib.hid hno'
        rw [hp] at hFk
        clear hno'
        go_wp2_with fail
        refine hFk.mono ?_
        rintro e w1 ⟨rfl, b1⟩
        go_wp2_with fail
        exact ⟨⟨k + 1, by omega, by go_num, HN.out, hB.trans (b1.mono hB.size)⟩, by simp only [intOf]; omega⟩
    · have hkl : k = n := by omega
      subst hkl
      have hnone : ¬ ∃ i, i < k ∧ p i = true := by
        rintro ⟨i, hi, hp⟩
        rw [hno i hi] at hp
        cases hp
      have HN := Lib.hid hnone
      clear hel hno hnone hF
      go_wp2_with fail
      go_ret
      exact ⟨⟨-1, rfl, fun h => by omega, fun h => absurd h HN.out⟩, hB⟩

set_option maxRecDepth 100000 in
theorem containsFuncSeal1 (F : FuncId) (cv : Value) (hent : ∀ args w, (callFunc F args).run Tryz.prog w = .ok (.enter F args) w) (v : Value) (n : Nat) (e0 e1 e2 : Nat → Value) (p : Nat → Bool) (b : Bool) (w : World) (h : Row3 w v n e0 e1 e2)
    (hF : ∀ i, i < n → ∀ w', Below w.heap.size w w' → Calls Tryz.prog F #[.agg #[e0 i, e1 i, e2 i], cv] w' fun e w'' => e = .returned (.bool (p i)) ∧ Below w'.heap.size w' w'') (hb : b = true ↔ ∃ i, i < n ∧ p i = true) :
    Calls Tryz.prog 48 #[v, .func (.func F) #[] #[cv]] w fun e w' => e = .returned (.bool b) ∧ Below w.heap.size w w' := by
  have hix := indexFuncSeal1 F cv hent v n e0 e1 e2 p w h hF
  clear hF h
  go_enter Tryz.func48, Tryz.ntmps48
  go_wp2_with fail
  refine hix.mono ?_
  rintro e w' ⟨⟨m, rfl, hm⟩, b1⟩
  have hd : decide (0 ≤ m) = b := by
    rw [Bool.eq_iff_iff, decide_eq_true_eq]
    exact hm.trans hb.symm
  have HD := Lib.hid hd
  clear hm hb hix hd
  go_wp2_with fail
  go_ret
  rw [← HD.out]
  exact ⟨rfl, b1⟩

set_option maxHeartbeats 4000000 in
set_option maxRecDepth 100000 in
theorem indexFuncFrac0 (F : FuncId) (hent : ∀ args w, (callFunc F args).run Tryz.prog w = .ok (.enter F args) w) (v : Value) (n : Nat) (e0 e1 : Nat → Value) (p : Nat → Bool) (w : World) (h : Row2 w v n e0 e1)
    (hF : ∀ i, i < n → ∀ w', Below w.heap.size w w' → Calls Tryz.prog F #[.agg #[e0 i, e1 i]] w' fun e w'' => e = .returned (.bool (p i)) ∧ Below w'.heap.size w' w'') :
    Calls Tryz.prog 162 #[v, .func (.func F) #[] #[]] w fun e w' => (∃ m : Int, e = .returned (.int .i64 m) ∧ (0 ≤ m ↔ ∃ i, i < n ∧ p i = true)) ∧ Below w.heap.size w w' := by
  obtain ⟨A, c, rfl, hc, hn, hel⟩ := h
  go_enter Tryz.func162, Tryz.ntmps162
  go_wp2_with fail
  go_loopw [8] (fun v8 wr => ∃ k : Nat, k ≤ n ∧ v8 = .int .i64 (k : Int) ∧ (∀ i, i < k → p i = false) ∧ Below w.heap.size w wr) (fun v8 _ => ((n : Int) - intOf v8).toNat)
  case atStart => exact ⟨0, by omega, rfl, fun i hi => by omega, Below.refl _ _⟩
  case round =>
    obtain ⟨k, hk, rfl, hno, hB⟩ := hrel
    by_cases hlt : k < n
    · obtain ⟨ad, rfl, hc0, hc1⟩ := hel k hlt
      have hd0 := cellLater hB hc0
      have hd1 := cellLater hB hc1
      have j0 : (k : Int) < n := by omega
      have hFk := hF k hlt wr hB
      have HNO := Lib.hid hno
      clear hel hno hF hc0 hc1
      generalize e0 k = x0 at hd0 hFk
      generalize e1 k = x1 at hd1 hFk
      cases hp : p k with
      | true =>
        have hyes : ∃ i, i < n ∧ p i = true := ⟨k, hlt, hp⟩
        have HY := Lib.hid hyes
        rw [hp] at hFk
        clear hyes
        go_wp2_with fail
        refine hFk.mono ?_
        rintro e w1 ⟨rfl, b1⟩
        go_wp2_with fail
        go_ret
        exact ⟨⟨(k : Int), rfl, fun _ => HY.out, fun _ => by omega⟩, hB.trans (b1.mono hB.size)⟩
      | false =>
        have hno' : ∀ i, i < k + 1 → p i = false := fun i hi => by
          by_cases e : i = k
          · rw [e]; exact hp
          · exact HNO.out i (by omega)
        have HN := Lib.hid hno'
        rw [hp] at hFk
        clear hno'
        go_wp2_with fail
        refine hFk.mono ?_
        rintro e w1 ⟨rfl, b1⟩
        go_wp2_with fail
        exact ⟨⟨k + 1, by omega, by go_num, HN.out, hB.trans (b1.mono hB.size)⟩, by simp only [intOf]; omega⟩
    · have hkl : k = n := by omega
      subst hkl
      have hnone : ¬ ∃ i, i < k ∧ p i = true := by
        rintro ⟨i, hi, hp⟩
        rw [hno i hi] at hp
        cases hp
      have HN := Lib.hid hnone
      clear hel hno hnone hF
      go_wp2_with fail
      go_ret
      exact ⟨⟨-1, rfl, fun h => by omega, fun h => absurd h HN.out⟩, hB⟩

set_option maxRecDepth 100000 in
theorem containsFuncFrac0 (F : FuncId) (hent : ∀ args w, (callFunc F args).run Tryz.prog w = .ok (.enter F args) w) (v : Value) (n : Nat) (e0 e1 : Nat → Value) (p : Nat → Bool) (b : Bool) (w : World) (h : Row2 w v n e0 e1)
    (hF : ∀ i, i < n → ∀ w', Below w.heap.size w w' → Calls Tryz.prog F #[.agg #[e0 i, e1 i]] w' fun e w'' => e = .returned (.bool (p i)) ∧ Below w'.heap.size w' w'') (hb : b = true ↔ ∃ i, i < n ∧ p i = true) :
    Calls Tryz.prog 139 #[v, .func (.func F) #[] #[]] w fun e w' => e = .returned (.bool b) ∧ Below w.heap.size w w' := by
  have hix := indexFuncFrac0 F hent v n e0 e1 p w h hF
  clear hF h
  go_enter Tryz.func139, Tryz.ntmps139
  go_wp2_with fail
  refine hix.mono ?_
  rintro e w' ⟨⟨m, rfl, hm⟩, b1⟩
  have hd : decide (0 ≤ m) = b := by
    rw [Bool.eq_iff_iff, decide_eq_true_eq]
    exact hm.trans hb.symm
  have HD := Lib.hid hd
  clear hm hb hix hd
  go_wp2_with fail
  go_ret
  rw [← HD.out]
  exact ⟨rfl, b1⟩

set_option maxHeartbeats 4000000 in
set_option maxRecDepth 100000 in
theorem indexFuncFrac1 (F : FuncId) (cv : Value) (hent : ∀ args w, (callFunc F args).run Tryz.prog w = .ok (.enter F args) w) (v : Value) (n : Nat) (e0 e1 : Nat → Value) (p : Nat → Bool) (w : World) (h : Row2 w v n e0 e1)
    (hF : ∀ i, i < n → ∀ w', Below w.heap.size w w' → Calls Tryz.prog F #[.agg #[e0 i, e1 i], cv] w' fun e w'' => e = .returned (.bool (p i)) ∧ Below w'.heap.size w' w'') :
    Calls Tryz.prog 162 #[v, .func (.func F) #[] #[cv]] w fun e w' => (∃ m : Int, e = .returned (.int .i64 m) ∧ (0 ≤ m ↔ ∃ i, i < n ∧ p i = true)) ∧ Below w.heap.size w w' := by
  obtain ⟨A, c, rfl, hc, hn, hel⟩ := h
  go_enter Tryz.func162, Tryz.ntmps162
  go_wp2_with fail
  go_loopw [8] (fun v8 wr => ∃ k : Nat, k ≤ n ∧ v8 = .int .i64 (k : Int) ∧ (∀ i, i < k → p i = false) ∧ Below w.heap.size w wr) (fun v8 _ => ((n : Int) - intOf v8).toNat)
  case atStart => exact ⟨0, by omega, rfl, fun i hi => by omega, Below.refl _ _⟩
  case round =>
    obtain ⟨k, hk, rfl, hno, hB⟩ := hrel
    by_cases hlt : k < n
    · obtain ⟨ad, rfl, hc0, hc1⟩ := hel k hlt
      have hd0 := cellLater hB hc0
      have hd1 := cellLater hB hc1
      have j0 : (k : Int) < n := by omega
      have hFk := hF k hlt wr hB
      have HNO := Lib.hid hno
      clear hel hno hF hc0 hc1
      generalize e0 k = x0 at hd0 hFk
      generalize e1 k = x1 at hd1 hFk
      cases hp : p k with
      | true =>
        have hyes : ∃ i, i < n ∧ p i = true := ⟨k, hlt, hp⟩
        have HY := Lib.hid hyes
        rw [hp] at hFk
        clear hyes
        go_wp2_with fail
        refine hFk.mono ?_
        rintro e w1 ⟨rfl, b1⟩
        go_wp2_with fail
        go_ret
        exact ⟨⟨(k : Int), rfl, fun _ => HY.out, fun _ => by omega⟩, hB.trans (b1.mono hB.size)⟩
      | false =>
        have hno' : ∀ i, i < k + 1 → p i = false := fun i hi => by
          by_cases e : i = k
          · rw [e]; exact hp
          · exact HNO.out i (by omega)
        have HN := Lib.hid hno'
        rw [hp] at hFk
        clear hno'
        go_wp2_with fail
        refine hFk.mono ?_
        rintro e w1 ⟨rfl, b1⟩
        go_wp2_with fail
        exact ⟨⟨k + 1, by omega, by go_num, HN.out, hB.trans (b1.mono hB.size)⟩, by simp only [intOf]; omega⟩
    · have hkl : k = n := by omega
      subst hkl
      have hnone : ¬ ∃ i, i < k ∧ p i = true := by
        rintro ⟨i, hi, hp⟩
        rw [hno i hi] at hp
        cases hp
      have HN := Lib.hid hnone
      clear hel hno hnone hF
      go_wp2_with fail
      go_ret
      exact ⟨⟨-1, rfl, fun h => by omega, fun h => absurd h HN.out⟩, hB⟩

set_option maxRecDepth 100000 in
theorem containsFuncFrac1 (F : FuncId) (cv : Value) (hent : ∀ args w, (callFunc F args).run Tryz.prog w = .ok (.enter F args) w) (v : Value) (n : Nat) (e0 e1 : Nat → Value) (p : Nat → Bool) (b : Bool) (w : World) (h : Row2 w v n e0 e1)
    (hF : ∀ i, i < n → ∀ w', Below w.heap.size w w' → Calls Tryz.prog F #[.agg #[e0 i, e1 i], cv] w' fun e w'' => e = .returned (.bool (p i)) ∧ Below w'.heap.size w' w'') (hb : b = true ↔ ∃ i, i < n ∧ p i = true) :
    Calls Tryz.prog 139 #[v, .func (.func F) #[] #[cv]] w fun e w' => e = .returned (.bool b) ∧ Below w.heap.size w w' := by
  have hix := indexFuncFrac1 F cv hent v n e0 e1 p w h hF
  clear hF h
  go_enter Tryz.func139, Tryz.ntmps139
  go_wp2_with fail
  refine hix.mono ?_
  rintro e w' ⟨⟨m, rfl, hm⟩, b1⟩
  have hd : decide (0 ≤ m) = b := by
    rw [Bool.eq_iff_iff, decide_eq_true_eq]
    exact hm.trans hb.symm
  have HD := Lib.hid hd
  clear hm hb hix hd
  go_wp2_with fail
  go_ret
  rw [← HD.out]
  exact ⟨rfl, b1⟩

end Go.Proofs.YtkinlobfdkeamaaGreatDoor

