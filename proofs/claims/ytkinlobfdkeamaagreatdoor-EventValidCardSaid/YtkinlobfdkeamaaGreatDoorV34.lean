/- Which events are valid: the reference's answer. (Printed by gen_valid14.py.) -/
import Derived.Test.YtkinlobfdkeamaaGreatDoorV33
import Derived.Test.YtkinlobfdkeamaaGreatDoorV30
namespace Go.Proofs.YtkinlobfdkeamaaGreatDoor
open Go.RowKit

theorem wP_ref (l : List (List UInt8)) : (decide (l.length ≤ 8) && allP 3 l) = wP l := by
  unfold wP
  rw [show decide (0 ≤ l.length ∧ l.length ≤ 8) = decide (l.length ≤ 8) by rw [decide_eq_decide]; omega]

theorem keysP_ref (e : EvV) : keysP e = if estR e ≠ 0 then estR e else if witP e = false then 18 else 0 := by
  unfold keysP estR
  have h1 : (keysA e = false) ↔ (e.keys.length = 0 ∨ keysB e = false) := by
    unfold keysA keysB
    by_cases h : e.keys.length = 0
    · rw [decide_eq_false (by omega)]; simp [h]
    · rw [show decide (1 ≤ e.keys.length ∧ e.keys.length ≤ 8) = decide (e.keys.length ≤ 8) by rw [decide_eq_decide]; omega]
      simp only [h, false_or]
  have h2 : (nextA e = false ∨ freshP e.next e.keys = false) ↔ nextB e = false := by
    unfold nextA nextB
    rw [show decide (0 ≤ e.next.length ∧ e.next.length ≤ 8) = decide (e.next.length ≤ 8) by rw [decide_eq_decide]; omega]
    generalize (decide (e.next.length ≤ 8) && allP 1 e.next) = q
    cases q <;> cases freshP e.next e.keys <;> simp
  by_cases c1 : keysA e = false
  · rw [if_pos c1, if_pos (h1.1 c1)]; simp
  · have c1' : ¬ (e.keys.length = 0 ∨ keysB e = false) := fun h => c1 (h1.2 h)
    rw [if_neg c1, if_neg c1']
    by_cases c2 : thrP e.thr e.keys.length = false
    · rw [if_pos c2, if_pos c2]; simp
    · rw [if_neg c2, if_neg c2]
      by_cases c3 : nextB e = false
      · rw [if_pos c3]
        rcases h2.2 c3 with h | h
        · rw [if_pos h]; simp
        · by_cases c : nextA e = false
          · rw [if_pos c]; simp
          · rw [if_neg c, if_pos h]; simp
      · rw [if_neg c3, if_neg (fun h => c3 (h2.1 (Or.inl h))), if_neg (fun h => c3 (h2.1 (Or.inr h)))]
        by_cases c4 : thrP e.nthr e.next.length = false
        · rw [if_pos c4, if_pos c4]; simp
        · rw [if_neg c4, if_neg c4]; simp

def restP (e : EvV) : Int := if ancP e = false then 4 else if e.kind = 4 ∧ isP 1 e.del = false then 17 else if leanP e = false then 1 else 0

theorem validP_flat (e : EvV) : validP e = if e.form < 1 ∨ 3 < e.form then 2 else if e.kind < 1 ∨ 5 < e.kind then 11 else if numP e = false then 16 else if preP e = false then 17 else if priorP e = false then 15 else if estK e.kind = true ∧ estR e ≠ 0 then estR e else if estK e.kind = true ∧ witP e = false then 18 else if inK e.kind = true ∧ confP e = false then 4 else restP e := by
  have hk := keysP_ref e
  unfold validP begP restP
  by_cases c1 : e.form < 1 ∨ 3 < e.form
  · rw [if_pos c1, if_pos c1]; simp
  by_cases c2 : e.kind < 1 ∨ 5 < e.kind
  · rw [if_neg c1, if_neg c1, if_pos c2, if_pos c2]; simp
  by_cases c3 : numP e = false
  · rw [if_neg c1, if_neg c1, if_neg c2, if_neg c2, if_pos c3, if_pos c3]; simp
  by_cases c4 : preP e = false
  · rw [if_neg c1, if_neg c1, if_neg c2, if_neg c2, if_neg c3, if_neg c3, if_pos c4, if_pos c4]; simp
  by_cases c5 : priorP e = false
  · rw [if_neg c1, if_neg c1, if_neg c2, if_neg c2, if_neg c3, if_neg c3, if_neg c4, if_neg c4, if_pos c5, if_pos c5]; simp
  rw [if_neg c1, if_neg c1, if_neg c2, if_neg c2, if_neg c3, if_neg c3, if_neg c4, if_neg c4, if_neg c5, if_neg c5]
  rw [if_neg (by simp)]
  cases estK e.kind with
  | false => simp
  | true =>
    simp only [true_and]
    by_cases c6 : estR e ≠ 0
    · rw [if_pos c6] at hk
      rw [hk, if_pos c6, if_pos c6]
    · rw [if_neg c6] at hk
      rw [hk, if_neg c6]
      by_cases c7 : witP e = false
      · rw [if_pos c7, if_pos c7]; simp
      · rw [if_neg c7, if_neg c7]; simp

theorem preP_step (e : EvV) (x : Int) : (if preP e = false then 17 else x) = if isP 1 e.pre = false then 17 else if isP 1 e.said = false then 17 else if inK e.kind = true ∧ e.pre ≠ e.said then 17 else x := by
  unfold preP
  cases isP 1 e.pre <;> cases isP 1 e.said <;> cases inK e.kind <;> simp

theorem validP_in (e : EvV) (h : inK e.kind = true) : validP e = if e.form < 1 ∨ 3 < e.form then 2 else if e.kind < 1 ∨ 5 < e.kind then 11 else if ¬ (e.num = 0) then 16 else if isP 1 e.pre = false then 17 else if isP 1 e.said = false then 17 else if e.pre ≠ e.said then 17 else if e.prior.isEmpty = false then 15 else if estR e ≠ 0 then estR e else if wP e.wits = false then 18 else if ¬ (0 ≤ e.tol) then 18 else if ¬ (e.tol ≤ 8) then 18 else if confP e = false then 4 else restP e := by
  have hE : estK e.kind = true := by unfold estK; rw [h]; rfl
  rw [validP_flat, preP_step, hE, h]
  unfold numP priorP witP
  rw [h]
  simp only [if_true, true_and]
  cases wP e.wits <;> by_cases t1 : 0 ≤ e.tol <;> by_cases t2 : e.tol ≤ 8 <;> simp [t1, t2]

theorem validP_rot (e : EvV) (h : inK e.kind = false) (hr : rotK e.kind = true) : validP e = if e.form < 1 ∨ 3 < e.form then 2 else if e.kind < 1 ∨ 5 < e.kind then 11 else if ¬ (1 ≤ e.num) then 16 else if ¬ (e.num ≤ 1099511627776) then 16 else if isP 1 e.pre = false then 17 else if isP 1 e.said = false then 17 else if isP 1 e.prior = false then 15 else if estR e ≠ 0 then estR e else if wP e.cuts = false then 18 else if wP e.adds = false then 18 else if ¬ (0 ≤ e.tol) then 18 else if ¬ (e.tol ≤ 8) then 18 else restP e := by
  have hE : estK e.kind = true := by unfold estK; rw [hr]; simp
  rw [validP_flat, preP_step, hE, h]
  unfold numP priorP witP
  rw [h]
  simp only [true_and, Bool.false_eq_true, if_false, false_and]
  cases wP e.cuts <;> cases wP e.adds <;> by_cases t1 : 0 ≤ e.tol <;> by_cases t2 : e.tol ≤ 8 <;> by_cases t3 : 1 ≤ e.num <;> by_cases t4 : e.num ≤ 1099511627776 <;> simp [t1, t2, t3, t4]

theorem validP_ixn (e : EvV) (h : inK e.kind = false) (hr : rotK e.kind = false) : validP e = if e.form < 1 ∨ 3 < e.form then 2 else if e.kind < 1 ∨ 5 < e.kind then 11 else if ¬ (1 ≤ e.num) then 16 else if ¬ (e.num ≤ 1099511627776) then 16 else if isP 1 e.pre = false then 17 else if isP 1 e.said = false then 17 else if isP 1 e.prior = false then 15 else restP e := by
  have hE : estK e.kind = false := by unfold estK; rw [h, hr]; rfl
  rw [validP_flat, preP_step, hE, h]
  unfold numP priorP
  rw [h]
  simp only [Bool.false_eq_true, if_false, false_and]
  by_cases t3 : 1 ≤ e.num <;> by_cases t4 : e.num ≤ 1099511627776 <;> simp [t3, t4]

set_option maxHeartbeats 20000000 in
set_option maxRecDepth 100000 in
theorem r14_valid (e : EvV) (u : EvS) (w : World) (h : EvM w e u) : Calls Tryz.prog 15 #[.agg (evCells e u)] w fun r w' => r = .returned (.int .i64 (validP e)) ∧ Below w.heap.size w w' := by
  have h2 := fun w' (hb : Below w.heap.size w w') => r14_established e u w' (h.later hb)
  have hwi := fun w' (hb : Below w.heap.size w w') => r14_all 3 8 u.ws e.wits w' (h.later hb).ws
  have hcu := fun w' (hb : Below w.heap.size w w') => r14_all 3 8 u.cs e.cuts w' (h.later hb).cs
  have had := fun w' (hb : Below w.heap.size w w') => r14_all 3 8 u.aa e.adds w' (h.later hb).aa
  have hcf := fun w' (hb : Below w.heap.size w w') => r14_config u.cf e.conf w' (h.later hb).cf
  have hac := fun w' (hb : Below w.heap.size w w') => r14_anchors u.an e.anc w' (h.later hb).an
  have h6 := fun w' (hb : Below w.heap.size w w') => r14_clean e u w' (h.later hb)
  change ∀ w', Below w.heap.size w w' → Calls Tryz.prog _ _ _ (fun r w2 => r = .returned (.bool (confP e)) ∧ _) at hcf
  change ∀ w', Below w.heap.size w w' → Calls Tryz.prog _ _ _ (fun r w2 => r = .returned (.bool (ancP e)) ∧ _) at hac
  rw [wP_ref] at hwi hcu had
  obtain ⟨A1, c1, e1⟩ := h.ws.is
  obtain ⟨A2, c2, e2⟩ := h.cs.is
  obtain ⟨A3, c3, e3⟩ := h.aa.is
  obtain ⟨A4, c4, e4⟩ := h.cf.is
  obtain ⟨A5, c5, e5⟩ := h.an.is
  clear h
  have hLi := validP_in e
  have hLr := validP_rot e
  have hLx := validP_ixn e
  unfold restP at hLi hLr hLx
  obtain ⟨b, hb⟩ : ∃ b, b = validP e := ⟨_, rfl⟩
  rw [← hb] at hLi hLr hLx ⊢
  clear hb
  generalize estR e = g2 at *
  generalize wP e.wits = qw at *
  generalize wP e.cuts = qc at *
  generalize wP e.adds = qa at *
  generalize confP e = qf at *
  generalize ancP e = qn at *
  generalize leanP e = ql at *
  obtain ⟨form, kind, said, pre, num, prior, thr, keys, nthr, next, tol, wits, cuts, adds, conf, anc, del⟩ := e
  obtain ⟨tw, ks, nw, nx, ws, cs, aa, cf, an⟩ := u
  unfold evCells at *
  dsimp only at *
  subst e1 e2 e3 e4 e5
  have hk := fun w => r14_inception kind w
  have hr := fun w => r14_rotation kind w
  have hs := fun w => r14_established_kind kind w
  have hd1 := fun w => r14_digest pre w
  have hd2 := fun w => r14_digest said w
  have hd3 := fun w => r14_digest prior w
  have hd5 := fun w => r14_digest del w
  generalize isP 1 pre = d1 at *
  generalize isP 1 said = d2 at *
  generalize isP 1 prior = d3 at *
  generalize isP 1 del = d5 at *
  have HLi := Lib.hid hLi
  have HLr := Lib.hid hLr
  have HLx := Lib.hid hLx
  clear hLi hLr hLx
  go_enter Tryz.func15, Tryz.ntmps15
  go_wp2_with fail
  refine (hk _).mono ?_
  rintro r w1 ⟨rfl, rfl⟩
  clear hk
  have hB0 := ext_alloc w (.cells #[.int .i64 form, .int .i64 kind, .string ⟨said.toArray⟩, .string ⟨pre.toArray⟩, .int .i64 num, .string ⟨prior.toArray⟩, .int .i64 thr.num, tw, ks, .int .i64 nthr.num, nw, nx, .int .i64 tol, .slice A1 wits.length c1, .slice A2 cuts.length c2, .slice A3 adds.length c3, .slice A4 conf.length c4, .slice A5 anc.length c5, .string ⟨del.toArray⟩] 35)
  have hrow0 := hA1_0 w (.cells #[.int .i64 form, .int .i64 kind, .string ⟨said.toArray⟩, .string ⟨pre.toArray⟩, .int .i64 num, .string ⟨prior.toArray⟩, .int .i64 thr.num, tw, ks, .int .i64 nthr.num, nw, nx, .int .i64 tol, .slice A1 wits.length c1, .slice A2 cuts.length c2, .slice A3 adds.length c3, .slice A4 conf.length c4, .slice A5 anc.length c5, .string ⟨del.toArray⟩] 35)
  cases hI : inK kind with
  | true =>
    have hE : estK kind = true := by unfold estK; rw [hI]; rfl
    have hR : rotK kind = false := by
      unfold inK at hI
      unfold rotK
      rw [Bool.or_eq_true, beq_iff_eq, beq_iff_eq] at hI
      rcases hI with rfl | rfl <;> rfl
    rw [hE] at hs
    rw [hR] at hr
    have HA := Lib.hid (HLi.out hI)
    clear HLi HLr HLx hE hR
    by_cases f1 : form < 1
    · skip
      have HR := Lib.hid (HA.out.trans (if_pos (by first | exact (Or.inl f1) | omega | simp)))
      go_wp2_with fail
      go_ret
      rw [HR.out]
      exact ⟨rfl, hB0⟩
    by_cases f2 : 3 < form
    · skip
      have HR := Lib.hid (HA.out.trans (if_pos (by first | exact (Or.inr f2) | omega | simp)))
      go_wp2_with fail
      go_ret
      rw [HR.out]
      exact ⟨rfl, hB0⟩
    have HC1 := Lib.hid (HA.out.trans (if_neg (by omega)))
    clear HA
    by_cases k1 : kind < 1
    · skip
      have HR := Lib.hid (HC1.out.trans (if_pos (by first | exact (Or.inl k1) | omega | simp)))
      go_wp2_with fail
      go_ret
      rw [HR.out]
      exact ⟨rfl, hB0⟩
    by_cases k2 : 5 < kind
    · skip
      have HR := Lib.hid (HC1.out.trans (if_pos (by first | exact (Or.inr k2) | omega | simp)))
      go_wp2_with fail
      go_ret
      rw [HR.out]
      exact ⟨rfl, hB0⟩
    have HC2 := Lib.hid (HC1.out.trans (if_neg (by omega)))
    clear HC1
    by_cases z0 : num = 0
    · subst z0
      have HC3 := Lib.hid (HC2.out.trans (if_neg (by simp)))
      clear HC2
      go_wp2_with fail
      refine (hd1 _).mono ?_
      rintro r w4 ⟨rfl, b4⟩
      have hrow4 := rowLater b4 hrow0
      have hB4 := ext_trans hB0 b4
      clear b4 hd1
      cases d1 with
      | false =>
        have HR := Lib.hid (HC3.out.trans (if_pos (by first | exact rfl | omega | simp)))
        go_wp2_with fail
        go_ret
        rw [HR.out]
        exact ⟨rfl, hB4⟩
      | true =>
        have HC5 := Lib.hid (HC3.out.trans (if_neg (by simp)))
        clear HC3
        have e2 := cell_of_row _ _ 2 _ _ _ hrow4
        go_wp2_with fail
        refine (hd2 _).mono ?_
        rintro r w6 ⟨rfl, b6⟩
        have hrow6 := rowLater b6 hrow4
        have hB6 := ext_trans hB4 b6
        clear b6 hd2 e2
        cases d2 with
        | false =>
          have HR := Lib.hid (HC5.out.trans (if_pos (by first | exact rfl | omega | simp)))
          go_wp2_with fail
          go_ret
          rw [HR.out]
          exact ⟨rfl, hB6⟩
        | true =>
          have HC7 := Lib.hid (HC5.out.trans (if_neg (by simp)))
          clear HC5
          have e1 := cell_of_row _ _ 1 _ _ _ hrow6
          have e2 := cell_of_row _ _ 2 _ _ _ hrow6
          have e3 := cell_of_row _ _ 3 _ _ _ hrow6
          have e5 := cell_of_row _ _ 5 _ _ _ hrow6
          by_cases ps : pre = said
          · subst ps
            have HC8 := Lib.hid (HC7.out.trans (if_neg (by simp)))
            clear HC7
            cases hp : prior.isEmpty with
            | false =>
              have HR := Lib.hid (HC8.out.trans (if_pos (by first | exact hp | omega | simp)))
              go_wp2_with fail
              go_ret
              rw [HR.out]
              exact ⟨rfl, hB6⟩
            | true =>
              have HC9 := Lib.hid (HC8.out.trans (if_neg (by rw [hp]; simp)))
              clear HC8
              go_wp2_with fail
              refine (hs _).mono ?_
              rintro r w10 ⟨rfl, rfl⟩
              go_wp2_with (refine wpList_load_row rfl 35 _ rfl w.heap.size rfl 35 _ _ _ hrow6 Tryz.underlying35 rfl (by kernel_rfl) ?_)
              refine (h2 _ hB6).mono ?_
              rintro r w11 ⟨rfl, b11⟩
              have hrow11 := rowLater b11 hrow6
              have hB11 := ext_trans hB6 b11
              clear b11 h2
              by_cases z2 : g2 = 0
              · skip
                have z2b : (g2 != 0) = false := by rw [z2]; rfl
                have HC12 := Lib.hid (HC9.out.trans (if_neg (by simpa using z2)))
                clear HC9
                clear e1 e2 e3 e5
                have e1 := cell_of_row _ _ 1 _ _ _ hrow11
                have e12 := cell_of_row _ _ 12 _ _ _ hrow11
                have e13 := cell_of_row _ _ 13 _ _ _ hrow11
                go_wp2_with fail
                refine (hwi _ hB11).mono ?_
                rintro r w13 ⟨rfl, b13⟩
                have hrow13 := rowLater b13 hrow11
                have hB13 := ext_trans hB11 b13
                clear b13 hwi e1 e12 e13
                have e1 := cell_of_row _ _ 1 _ _ _ hrow13
                have e12 := cell_of_row _ _ 12 _ _ _ hrow13
                have e16 := cell_of_row _ _ 16 _ _ _ hrow13
                cases qw with
                | false =>
                  go_wp2_with fail
                  refine (hs _).mono ?_
                  rintro r w14 ⟨rfl, rfl⟩
                  have HR := Lib.hid (HC12.out.trans (if_pos (by first | exact rfl | omega | simp)))
                  go_wp2_with fail
                  go_ret
                  rw [HR.out]
                  exact ⟨rfl, hB13⟩
                | true =>
                  have HC15 := Lib.hid (HC12.out.trans (if_neg (by simp)))
                  clear HC12
                  go_wp2_with fail
                  refine (hr _).mono ?_
                  rintro r w16 ⟨rfl, rfl⟩
                  go_wp2_with fail
                  refine (hs _).mono ?_
                  rintro r w17 ⟨rfl, rfl⟩
                  by_cases t1 : 0 ≤ tol
                  · skip
                    have HC18 := Lib.hid (HC15.out.trans (if_neg (by first | exact (fun hx => hx t1) | omega | simp)))
                    clear HC15
                    by_cases t2 : tol ≤ 8
                    · skip
                      have HC19 := Lib.hid (HC18.out.trans (if_neg (by first | exact (fun hx => hx t2) | omega | simp)))
                      clear HC18
                      go_wp2_with fail
                      refine (hcf _ hB13).mono ?_
                      rintro r w20 ⟨rfl, rfl⟩
                      clear hcf e1 e12 e16
                      cases qf with
                      | false =>
                        have HR := Lib.hid (HC19.out.trans (if_pos (by first | exact rfl | omega | simp)))
                        go_wp2_with fail
                        go_ret
                        rw [HR.out]
                        exact ⟨rfl, hB13⟩
                      | true =>
                        have HC21 := Lib.hid (HC19.out.trans (if_neg (by simp)))
                        clear HC19
                        have e17 := cell_of_row _ _ 17 _ _ _ hrow13
                        go_wp2_with fail
                        refine (hac _ hB13).mono ?_
                        rintro r w22 ⟨rfl, b22⟩
                        have hrow22 := rowLater b22 hrow13
                        have hB22 := ext_trans hB13 b22
                        clear b22 hac e17
                        cases qn with
                        | false =>
                          have HR := Lib.hid (HC21.out.trans (if_pos (by first | exact rfl | omega | simp)))
                          go_wp2_with fail
                          go_ret
                          rw [HR.out]
                          exact ⟨rfl, hB22⟩
                        | true =>
                          have HC23 := Lib.hid (HC21.out.trans (if_neg (by simp)))
                          clear HC21
                          have e1 := cell_of_row _ _ 1 _ _ _ hrow22
                          by_cases k4 : kind = 4
                          · subst k4
                            have e18 := cell_of_row _ _ 18 _ _ _ hrow22
                            go_wp2_with fail
                            refine (hd5 _).mono ?_
                            rintro r w24 ⟨rfl, b24⟩
                            have hrow24 := rowLater b24 hrow22
                            have hB24 := ext_trans hB22 b24
                            clear b24 hd5 e18 e1
                            cases d5 with
                            | false =>
                              have HR := Lib.hid (HC23.out.trans (if_pos (by first | exact ⟨rfl, rfl⟩ | omega | simp)))
                              go_wp2_with fail
                              go_ret
                              rw [HR.out]
                              exact ⟨rfl, hB24⟩
                            | true =>
                              have HC25 := Lib.hid (HC23.out.trans (if_neg (by simp)))
                              clear HC23
                              go_wp2_with (refine wpList_load_row rfl 35 _ rfl w.heap.size rfl 35 _ _ _ hrow24 Tryz.underlying35 rfl (by kernel_rfl) ?_)
                              refine (h6 _ hB24).mono ?_
                              rintro r w26 ⟨rfl, b26⟩
                              have hrow26 := rowLater b26 hrow24
                              have hB26 := ext_trans hB24 b26
                              clear b26 h6
                              cases ql with
                              | false =>
                                have HR := Lib.hid (HC25.out.trans (if_pos (by first | exact rfl | omega | simp)))
                                go_wp2_with fail
                                go_ret
                                rw [HR.out]
                                exact ⟨rfl, hB26⟩
                              | true =>
                                have HC27 := Lib.hid (HC25.out.trans (if_neg (by simp)))
                                clear HC25
                                have HR := Lib.hid HC27.out
                                go_wp2_with fail
                                go_ret
                                rw [HR.out]
                                exact ⟨rfl, hB26⟩
                          · have k4b : (kind == 4) = false := by simpa using k4
                            have HC28 := Lib.hid (HC23.out.trans (if_neg (by first | exact (fun hx => k4 hx.1) | omega | simp)))
                            clear HC23
                            clear k4
                            go_wp2_with (refine wpList_load_row rfl 35 _ rfl w.heap.size rfl 35 _ _ _ hrow22 Tryz.underlying35 rfl (by kernel_rfl) ?_)
                            refine (h6 _ hB22).mono ?_
                            rintro r w29 ⟨rfl, b29⟩
                            have hrow29 := rowLater b29 hrow22
                            have hB29 := ext_trans hB22 b29
                            clear b29 h6
                            cases ql with
                            | false =>
                              have HR := Lib.hid (HC28.out.trans (if_pos (by first | exact rfl | omega | simp)))
                              go_wp2_with fail
                              go_ret
                              rw [HR.out]
                              exact ⟨rfl, hB29⟩
                            | true =>
                              have HC30 := Lib.hid (HC28.out.trans (if_neg (by simp)))
                              clear HC28
                              have HR := Lib.hid HC30.out
                              go_wp2_with fail
                              go_ret
                              rw [HR.out]
                              exact ⟨rfl, hB29⟩
                    · skip
                      have HR := Lib.hid (HC18.out.trans (if_pos (by first | exact t2 | omega | simp)))
                      go_wp2_with fail
                      go_ret
                      rw [HR.out]
                      exact ⟨rfl, hB13⟩
                  · skip
                    have HR := Lib.hid (HC15.out.trans (if_pos (by first | exact t1 | omega | simp)))
                    go_wp2_with fail
                    go_ret
                    rw [HR.out]
                    exact ⟨rfl, hB13⟩
              · skip
                have z2b : (g2 != 0) = true := by simpa using z2
                have HR := Lib.hid (HC9.out.trans (if_pos (by first | exact z2 | omega | simp)))
                go_wp2_with fail
                go_ret
                rw [HR.out]
                exact ⟨rfl, hB11⟩
          · have ps2 : (pre == said) = false := by simpa using ps
            have HR := Lib.hid (HC7.out.trans (if_pos (by first | exact ps | omega | simp)))
            go_wp2_with fail
            go_ret
            rw [HR.out]
            exact ⟨rfl, hB6⟩
    · have z1 : (num != 0) = true := by simpa using z0
      have HR := Lib.hid (HC2.out.trans (if_pos (by first | exact z0 | omega | simp)))
      go_wp2_with fail
      go_ret
      rw [HR.out]
      exact ⟨rfl, hB0⟩
  | false =>
    cases hR : rotK kind with
    | true =>
      have hE : estK kind = true := by unfold estK; rw [hR]; simp
      rw [hE] at hs
      rw [hR] at hr
      have HA := Lib.hid (HLr.out hI hR)
      clear HLi HLr HLx hE
      by_cases f1 : form < 1
      · skip
        have HR := Lib.hid (HA.out.trans (if_pos (by first | exact (Or.inl f1) | omega | simp)))
        go_wp2_with fail
        go_ret
        rw [HR.out]
        exact ⟨rfl, hB0⟩
      by_cases f2 : 3 < form
      · skip
        have HR := Lib.hid (HA.out.trans (if_pos (by first | exact (Or.inr f2) | omega | simp)))
        go_wp2_with fail
        go_ret
        rw [HR.out]
        exact ⟨rfl, hB0⟩
      have HC31 := Lib.hid (HA.out.trans (if_neg (by omega)))
      clear HA
      by_cases k1 : kind < 1
      · skip
        have HR := Lib.hid (HC31.out.trans (if_pos (by first | exact (Or.inl k1) | omega | simp)))
        go_wp2_with fail
        go_ret
        rw [HR.out]
        exact ⟨rfl, hB0⟩
      by_cases k2 : 5 < kind
      · skip
        have HR := Lib.hid (HC31.out.trans (if_pos (by first | exact (Or.inr k2) | omega | simp)))
        go_wp2_with fail
        go_ret
        rw [HR.out]
        exact ⟨rfl, hB0⟩
      have HC32 := Lib.hid (HC31.out.trans (if_neg (by omega)))
      clear HC31
      by_cases m1 : 1 ≤ num
      · skip
        have HC33 := Lib.hid (HC32.out.trans (if_neg (by first | exact (fun hx => hx m1) | omega | simp)))
        clear HC32
        by_cases m2 : num ≤ 1099511627776
        · skip
          have HC34 := Lib.hid (HC33.out.trans (if_neg (by first | exact (fun hx => hx m2) | omega | simp)))
          clear HC33
          go_wp2_with fail
          refine (hd1 _).mono ?_
          rintro r w35 ⟨rfl, b35⟩
          have hrow35 := rowLater b35 hrow0
          have hB35 := ext_trans hB0 b35
          clear b35 hd1
          cases d1 with
          | false =>
            have HR := Lib.hid (HC34.out.trans (if_pos (by first | exact rfl | omega | simp)))
            go_wp2_with fail
            go_ret
            rw [HR.out]
            exact ⟨rfl, hB35⟩
          | true =>
            have HC36 := Lib.hid (HC34.out.trans (if_neg (by simp)))
            clear HC34
            have e2 := cell_of_row _ _ 2 _ _ _ hrow35
            go_wp2_with fail
            refine (hd2 _).mono ?_
            rintro r w37 ⟨rfl, b37⟩
            have hrow37 := rowLater b37 hrow35
            have hB37 := ext_trans hB35 b37
            clear b37 hd2 e2
            cases d2 with
            | false =>
              have HR := Lib.hid (HC36.out.trans (if_pos (by first | exact rfl | omega | simp)))
              go_wp2_with fail
              go_ret
              rw [HR.out]
              exact ⟨rfl, hB37⟩
            | true =>
              have HC38 := Lib.hid (HC36.out.trans (if_neg (by simp)))
              clear HC36
              have e5 := cell_of_row _ _ 5 _ _ _ hrow37
              go_wp2_with fail
              refine (hd3 _).mono ?_
              rintro r w39 ⟨rfl, b39⟩
              have hrow39 := rowLater b39 hrow37
              have hB39 := ext_trans hB37 b39
              clear b39 hd3 e5
              cases d3 with
              | false =>
                have HR := Lib.hid (HC38.out.trans (if_pos (by first | exact rfl | omega | simp)))
                go_wp2_with fail
                go_ret
                rw [HR.out]
                exact ⟨rfl, hB39⟩
              | true =>
                have HC40 := Lib.hid (HC38.out.trans (if_neg (by simp)))
                clear HC38
                have e1 := cell_of_row _ _ 1 _ _ _ hrow39
                go_wp2_with fail
                refine (hs _).mono ?_
                rintro r w41 ⟨rfl, rfl⟩
                go_wp2_with (refine wpList_load_row rfl 35 _ rfl w.heap.size rfl 35 _ _ _ hrow39 Tryz.underlying35 rfl (by kernel_rfl) ?_)
                refine (h2 _ hB39).mono ?_
                rintro r w42 ⟨rfl, b42⟩
                have hrow42 := rowLater b42 hrow39
                have hB42 := ext_trans hB39 b42
                clear b42 h2
                by_cases z2 : g2 = 0
                · skip
                  have z2b : (g2 != 0) = false := by rw [z2]; rfl
                  have HC43 := Lib.hid (HC40.out.trans (if_neg (by simpa using z2)))
                  clear HC40
                  clear e1
                  have e1 := cell_of_row _ _ 1 _ _ _ hrow42
                  have e14 := cell_of_row _ _ 14 _ _ _ hrow42
                  go_wp2_with fail
                  refine (hr _).mono ?_
                  rintro r w44 ⟨rfl, rfl⟩
                  go_wp2_with fail
                  refine (hcu _ hB42).mono ?_
                  rintro r w45 ⟨rfl, b45⟩
                  have hrow45 := rowLater b45 hrow42
                  have hB45 := ext_trans hB42 b45
                  clear b45 hcu e1 e14
                  have e1 := cell_of_row _ _ 1 _ _ _ hrow45
                  have e12 := cell_of_row _ _ 12 _ _ _ hrow45
                  have e15 := cell_of_row _ _ 15 _ _ _ hrow45
                  cases qc with
                  | false =>
                    go_wp2_with fail
                    refine (hs _).mono ?_
                    rintro r w46 ⟨rfl, rfl⟩
                    have HR := Lib.hid (HC43.out.trans (if_pos (by first | exact rfl | omega | simp)))
                    go_wp2_with fail
                    go_ret
                    rw [HR.out]
                    exact ⟨rfl, hB45⟩
                  | true =>
                    have HC47 := Lib.hid (HC43.out.trans (if_neg (by simp)))
                    clear HC43
                    go_wp2_with fail
                    refine (had _ hB45).mono ?_
                    rintro r w48 ⟨rfl, b48⟩
                    have hrow48 := rowLater b48 hrow45
                    have hB48 := ext_trans hB45 b48
                    clear b48 had e1 e12 e15
                    have e1 := cell_of_row _ _ 1 _ _ _ hrow48
                    have e12 := cell_of_row _ _ 12 _ _ _ hrow48
                    cases qa with
                    | false =>
                      go_wp2_with fail
                      refine (hs _).mono ?_
                      rintro r w49 ⟨rfl, rfl⟩
                      have HR := Lib.hid (HC47.out.trans (if_pos (by first | exact rfl | omega | simp)))
                      go_wp2_with fail
                      go_ret
                      rw [HR.out]
                      exact ⟨rfl, hB48⟩
                    | true =>
                      have HC50 := Lib.hid (HC47.out.trans (if_neg (by simp)))
                      clear HC47
                      go_wp2_with fail
                      refine (hs _).mono ?_
                      rintro r w51 ⟨rfl, rfl⟩
                      by_cases t1 : 0 ≤ tol
                      · skip
                        have HC52 := Lib.hid (HC50.out.trans (if_neg (by first | exact (fun hx => hx t1) | omega | simp)))
                        clear HC50
                        by_cases t2 : tol ≤ 8
                        · skip
                          have HC53 := Lib.hid (HC52.out.trans (if_neg (by first | exact (fun hx => hx t2) | omega | simp)))
                          clear HC52
                          have e17 := cell_of_row _ _ 17 _ _ _ hrow48
                          go_wp2_with fail
                          refine (hac _ hB48).mono ?_
                          rintro r w54 ⟨rfl, b54⟩
                          have hrow54 := rowLater b54 hrow48
                          have hB54 := ext_trans hB48 b54
                          clear b54 hac e17 e1 e12
                          cases qn with
                          | false =>
                            have HR := Lib.hid (HC53.out.trans (if_pos (by first | exact rfl | omega | simp)))
                            go_wp2_with fail
                            go_ret
                            rw [HR.out]
                            exact ⟨rfl, hB54⟩
                          | true =>
                            have HC55 := Lib.hid (HC53.out.trans (if_neg (by simp)))
                            clear HC53
                            have e1 := cell_of_row _ _ 1 _ _ _ hrow54
                            obtain ⟨k4b, k4⟩ := inK_four hI
                            have HC56 := Lib.hid (HC55.out.trans (if_neg (by first | exact (fun hx => k4 hx.1) | omega | simp)))
                            clear HC55
                            clear k4
                            go_wp2_with (refine wpList_load_row rfl 35 _ rfl w.heap.size rfl 35 _ _ _ hrow54 Tryz.underlying35 rfl (by kernel_rfl) ?_)
                            refine (h6 _ hB54).mono ?_
                            rintro r w57 ⟨rfl, b57⟩
                            have hrow57 := rowLater b57 hrow54
                            have hB57 := ext_trans hB54 b57
                            clear b57 h6
                            cases ql with
                            | false =>
                              have HR := Lib.hid (HC56.out.trans (if_pos (by first | exact rfl | omega | simp)))
                              go_wp2_with fail
                              go_ret
                              rw [HR.out]
                              exact ⟨rfl, hB57⟩
                            | true =>
                              have HC58 := Lib.hid (HC56.out.trans (if_neg (by simp)))
                              clear HC56
                              have HR := Lib.hid HC58.out
                              go_wp2_with fail
                              go_ret
                              rw [HR.out]
                              exact ⟨rfl, hB57⟩
                        · skip
                          have HR := Lib.hid (HC52.out.trans (if_pos (by first | exact t2 | omega | simp)))
                          go_wp2_with fail
                          go_ret
                          rw [HR.out]
                          exact ⟨rfl, hB48⟩
                      · skip
                        have HR := Lib.hid (HC50.out.trans (if_pos (by first | exact t1 | omega | simp)))
                        go_wp2_with fail
                        go_ret
                        rw [HR.out]
                        exact ⟨rfl, hB48⟩
                · skip
                  have z2b : (g2 != 0) = true := by simpa using z2
                  have HR := Lib.hid (HC40.out.trans (if_pos (by first | exact z2 | omega | simp)))
                  go_wp2_with fail
                  go_ret
                  rw [HR.out]
                  exact ⟨rfl, hB42⟩
        · skip
          have HR := Lib.hid (HC33.out.trans (if_pos (by first | exact m2 | omega | simp)))
          go_wp2_with fail
          go_ret
          rw [HR.out]
          exact ⟨rfl, hB0⟩
      · skip
        have HR := Lib.hid (HC32.out.trans (if_pos (by first | exact m1 | omega | simp)))
        go_wp2_with fail
        go_ret
        rw [HR.out]
        exact ⟨rfl, hB0⟩
    | false =>
      have hE : estK kind = false := by unfold estK; rw [hI, hR]; rfl
      rw [hE] at hs
      rw [hR] at hr
      have HA := Lib.hid (HLx.out hI hR)
      clear HLi HLr HLx hE
      by_cases f1 : form < 1
      · skip
        have HR := Lib.hid (HA.out.trans (if_pos (by first | exact (Or.inl f1) | omega | simp)))
        go_wp2_with fail
        go_ret
        rw [HR.out]
        exact ⟨rfl, hB0⟩
      by_cases f2 : 3 < form
      · skip
        have HR := Lib.hid (HA.out.trans (if_pos (by first | exact (Or.inr f2) | omega | simp)))
        go_wp2_with fail
        go_ret
        rw [HR.out]
        exact ⟨rfl, hB0⟩
      have HC59 := Lib.hid (HA.out.trans (if_neg (by omega)))
      clear HA
      by_cases k1 : kind < 1
      · skip
        have HR := Lib.hid (HC59.out.trans (if_pos (by first | exact (Or.inl k1) | omega | simp)))
        go_wp2_with fail
        go_ret
        rw [HR.out]
        exact ⟨rfl, hB0⟩
      by_cases k2 : 5 < kind
      · skip
        have HR := Lib.hid (HC59.out.trans (if_pos (by first | exact (Or.inr k2) | omega | simp)))
        go_wp2_with fail
        go_ret
        rw [HR.out]
        exact ⟨rfl, hB0⟩
      have HC60 := Lib.hid (HC59.out.trans (if_neg (by omega)))
      clear HC59
      by_cases m1 : 1 ≤ num
      · skip
        have HC61 := Lib.hid (HC60.out.trans (if_neg (by first | exact (fun hx => hx m1) | omega | simp)))
        clear HC60
        by_cases m2 : num ≤ 1099511627776
        · skip
          have HC62 := Lib.hid (HC61.out.trans (if_neg (by first | exact (fun hx => hx m2) | omega | simp)))
          clear HC61
          go_wp2_with fail
          refine (hd1 _).mono ?_
          rintro r w63 ⟨rfl, b63⟩
          have hrow63 := rowLater b63 hrow0
          have hB63 := ext_trans hB0 b63
          clear b63 hd1
          cases d1 with
          | false =>
            have HR := Lib.hid (HC62.out.trans (if_pos (by first | exact rfl | omega | simp)))
            go_wp2_with fail
            go_ret
            rw [HR.out]
            exact ⟨rfl, hB63⟩
          | true =>
            have HC64 := Lib.hid (HC62.out.trans (if_neg (by simp)))
            clear HC62
            have e2 := cell_of_row _ _ 2 _ _ _ hrow63
            go_wp2_with fail
            refine (hd2 _).mono ?_
            rintro r w65 ⟨rfl, b65⟩
            have hrow65 := rowLater b65 hrow63
            have hB65 := ext_trans hB63 b65
            clear b65 hd2 e2
            cases d2 with
            | false =>
              have HR := Lib.hid (HC64.out.trans (if_pos (by first | exact rfl | omega | simp)))
              go_wp2_with fail
              go_ret
              rw [HR.out]
              exact ⟨rfl, hB65⟩
            | true =>
              have HC66 := Lib.hid (HC64.out.trans (if_neg (by simp)))
              clear HC64
              have e5 := cell_of_row _ _ 5 _ _ _ hrow65
              go_wp2_with fail
              refine (hd3 _).mono ?_
              rintro r w67 ⟨rfl, b67⟩
              have hrow67 := rowLater b67 hrow65
              have hB67 := ext_trans hB65 b67
              clear b67 hd3 e5
              cases d3 with
              | false =>
                have HR := Lib.hid (HC66.out.trans (if_pos (by first | exact rfl | omega | simp)))
                go_wp2_with fail
                go_ret
                rw [HR.out]
                exact ⟨rfl, hB67⟩
              | true =>
                have HC68 := Lib.hid (HC66.out.trans (if_neg (by simp)))
                clear HC66
                have e1 := cell_of_row _ _ 1 _ _ _ hrow67
                go_wp2_with fail
                refine (hs _).mono ?_
                rintro r w69 ⟨rfl, rfl⟩
                go_wp2_with fail
                refine (hr _).mono ?_
                rintro r w70 ⟨rfl, rfl⟩
                go_wp2_with fail
                refine (hs _).mono ?_
                rintro r w71 ⟨rfl, rfl⟩
                have e17 := cell_of_row _ _ 17 _ _ _ hrow67
                go_wp2_with fail
                refine (hac _ hB67).mono ?_
                rintro r w72 ⟨rfl, b72⟩
                have hrow72 := rowLater b72 hrow67
                have hB72 := ext_trans hB67 b72
                clear b72 hac e17 e1
                cases qn with
                | false =>
                  have HR := Lib.hid (HC68.out.trans (if_pos (by first | exact rfl | omega | simp)))
                  go_wp2_with fail
                  go_ret
                  rw [HR.out]
                  exact ⟨rfl, hB72⟩
                | true =>
                  have HC73 := Lib.hid (HC68.out.trans (if_neg (by simp)))
                  clear HC68
                  have e1 := cell_of_row _ _ 1 _ _ _ hrow72
                  obtain ⟨k4b, k4⟩ := inK_four hI
                  have HC74 := Lib.hid (HC73.out.trans (if_neg (by first | exact (fun hx => k4 hx.1) | omega | simp)))
                  clear HC73
                  clear k4
                  go_wp2_with (refine wpList_load_row rfl 35 _ rfl w.heap.size rfl 35 _ _ _ hrow72 Tryz.underlying35 rfl (by kernel_rfl) ?_)
                  refine (h6 _ hB72).mono ?_
                  rintro r w75 ⟨rfl, b75⟩
                  have hrow75 := rowLater b75 hrow72
                  have hB75 := ext_trans hB72 b75
                  clear b75 h6
                  cases ql with
                  | false =>
                    have HR := Lib.hid (HC74.out.trans (if_pos (by first | exact rfl | omega | simp)))
                    go_wp2_with fail
                    go_ret
                    rw [HR.out]
                    exact ⟨rfl, hB75⟩
                  | true =>
                    have HC76 := Lib.hid (HC74.out.trans (if_neg (by simp)))
                    clear HC74
                    have HR := Lib.hid HC76.out
                    go_wp2_with fail
                    go_ret
                    rw [HR.out]
                    exact ⟨rfl, hB75⟩
        · skip
          have HR := Lib.hid (HC61.out.trans (if_pos (by first | exact m2 | omega | simp)))
          go_wp2_with fail
          go_ret
          rw [HR.out]
          exact ⟨rfl, hB0⟩
      · skip
        have HR := Lib.hid (HC60.out.trans (if_pos (by first | exact m1 | omega | simp)))
        go_wp2_with fail
        go_ret
        rw [HR.out]
        exact ⟨rfl, hB0⟩

end Go.Proofs.YtkinlobfdkeamaaGreatDoor

