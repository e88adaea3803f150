/- The first error of the keys of an established event, the program's way. Which events are valid: the program's answer. (Printed by gen_valid.py.) The seals that may be anchors, the reference's test. -/
import Derived.Test.YtkinlobfdkeamaaGreatDoorV30
import Derived.Test.YtkinlobfdkeamaaGreatDoorV31
import Derived.Test.YtkinlobfdkeamaaGreatDoorV19
namespace Go.Proofs.YtkinlobfdkeamaaGreatDoor
open Go.RowKit

def keysA (e : EvV) : Bool := decide (1 ≤ e.keys.length ∧ e.keys.length ≤ 8) && allP 2 e.keys
def nextA (e : EvV) : Bool := decide (0 ≤ e.next.length ∧ e.next.length ≤ 8) && allP 1 e.next
def keysP (e : EvV) : Int := if keysA e = false then 13 else if thrP e.thr e.keys.length = false then 12 else if nextA e = false then 14 else if freshP e.next e.keys = false then 14 else if thrP e.nthr e.next.length = false then 12 else if witP e = false then 18 else 0

set_option maxHeartbeats 8000000 in
set_option maxRecDepth 100000 in
theorem ev_keys (e : EvV) (u : EvS) (w : World) (h : EvM w e u) : Calls Tryz.prog 43 #[.agg (evCells e u)] w fun r w' => r = .returned (.int .i64 (keysP e)) ∧ Below w.heap.size w w' := by
  have h1 := fun w' (hb : Below w.heap.size w w') => all_key 1 8 u.ks e.keys w' (h.later hb).ks
  change ∀ w', Below w.heap.size w w' → Calls Tryz.prog _ _ _ (fun r w' => r = .returned (.bool (keysA e)) ∧ _) at h1
  have h2 := fun w' (hb : Below w.heap.size w w') => thr_valid _ _ e.keys.length w' (h.later hb).thr
  have h3 := fun w' (hb : Below w.heap.size w w') => all_digest 0 8 u.nx e.next w' (h.later hb).nx
  change ∀ w', Below w.heap.size w w' → Calls Tryz.prog _ _ _ (fun r w' => r = .returned (.bool (nextA e)) ∧ _) at h3
  have h4 := fun w' (hb : Below w.heap.size w w') => fresh_any u.nx u.ks e.next e.keys w' (h.later hb).nx (h.later hb).ks
  have h5 := fun w' (hb : Below w.heap.size w w') => thr_valid _ _ e.next.length w' (h.later hb).nthr
  have h6 := fun w' (hb : Below w.heap.size w w') => ev_witnesses e u w' (h.later hb)
  obtain ⟨A1, c1, e1⟩ := h.ks.is
  obtain ⟨A2, c2, e2⟩ := h.nx.is
  clear h
  have hL : keysP e = if keysA e = false then 13 else if thrP e.thr e.keys.length = false then 12 else if nextA e = false then 14 else if freshP e.next e.keys = false then 14 else if thrP e.nthr e.next.length = false then 12 else if witP e = false then 18 else 0 := rfl
  obtain ⟨b, hb⟩ : ∃ b, b = keysP e := ⟨_, rfl⟩
  rw [← hb] at hL ⊢
  clear hb
  generalize keysA e = q1 at *
  generalize thrP e.thr e.keys.length = q2 at *
  generalize nextA e = q3 at *
  generalize freshP e.next e.keys = q4 at *
  generalize thrP e.nthr e.next.length = q5 at *
  generalize witP e = q6 at *
  obtain ⟨form, kind, said, pre, num, prior, thr, keys, nthr, next, tol, wits, cuts, adds, conf, anc, del⟩ := e
  obtain ⟨tw, ks, nw, nx, ws, cs, aa, cf, an⟩ := u
  unfold evCells at *
  dsimp only at *
  subst e1 e2
  have HL := Lib.hid hL
  clear hL
  go_enter Tryz.func43, Tryz.ntmps43
  go_wp2_with fail
  refine (h1 _ (ext_alloc _ _)).mono ?_
  rintro r w1 ⟨rfl, b1⟩
  have hrow1 := rowLater b1 (hA1_0 _ _)
  have hB1 := ext_trans (ext_alloc _ _) b1
  clear h1 b1
  cases q1 with
  | false =>
    have HR := Lib.hid (show b = 13 by rw [HL.out]; rfl)
    go_wp2_with fail
    go_ret
    rw [HR.out]
    exact ⟨rfl, hB1⟩
  | true =>
  have d6 := cell_of_row _ _ 6 _ _ _ hrow1
  have d7 := cell_of_row _ _ 7 _ _ _ hrow1
  have d8 := cell_of_row _ _ 8 _ _ _ hrow1
  go_wp2_with fail
  refine (h2 _ hB1).mono ?_
  rintro r w2 ⟨rfl, b2⟩
  have hrow2 := rowLater b2 hrow1
  have hB2 := ext_trans hB1 b2
  clear h2 b2 hrow1 hB1 d6 d7 d8
  cases q2 with
  | false =>
    have HR := Lib.hid (show b = 12 by rw [HL.out]; rfl)
    go_wp2_with fail
    go_ret
    rw [HR.out]
    exact ⟨rfl, hB2⟩
  | true =>
  have d11 := cell_of_row _ _ 11 _ _ _ hrow2
  go_wp2_with fail
  refine (h3 _ hB2).mono ?_
  rintro r w3 ⟨rfl, b3⟩
  have hrow3 := rowLater b3 hrow2
  have hB3 := ext_trans hB2 b3
  clear h3 b3 hrow2 hB2 d11
  cases q3 with
  | false =>
    have HR := Lib.hid (show b = 14 by rw [HL.out]; rfl)
    go_wp2_with fail
    go_ret
    rw [HR.out]
    exact ⟨rfl, hB3⟩
  | true =>
  have d11 := cell_of_row _ _ 11 _ _ _ hrow3
  have d8 := cell_of_row _ _ 8 _ _ _ hrow3
  go_wp2_with fail
  refine (h4 _ hB3).mono ?_
  rintro r w4 ⟨rfl, b4⟩
  have hrow4 := rowLater b4 hrow3
  have hB4 := ext_trans hB3 b4
  clear h4 b4 hrow3 hB3 d11 d8
  cases q4 with
  | false =>
    have HR := Lib.hid (show b = 14 by rw [HL.out]; rfl)
    go_wp2_with fail
    go_ret
    rw [HR.out]
    exact ⟨rfl, hB4⟩
  | true =>
  have d9 := cell_of_row _ _ 9 _ _ _ hrow4
  have d10 := cell_of_row _ _ 10 _ _ _ hrow4
  have d11 := cell_of_row _ _ 11 _ _ _ hrow4
  go_wp2_with fail
  refine (h5 _ hB4).mono ?_
  rintro r w5 ⟨rfl, b5⟩
  have hrow5 := rowLater b5 hrow4
  have hB5 := ext_trans hB4 b5
  clear h5 b5 hrow4 hB4 d11 d9 d10
  cases q5 with
  | false =>
    have HR := Lib.hid (show b = 12 by rw [HL.out]; rfl)
    go_wp2_with fail
    go_ret
    rw [HR.out]
    exact ⟨rfl, hB5⟩
  | true =>
  go_wp2_with (refine wpList_load_row rfl 35 _ rfl w.heap.size rfl 35 _ _ _ hrow5 Tryz.underlying35 rfl (by kernel_rfl) ?_)
  refine (h6 _ hB5).mono ?_
  rintro r w6 ⟨rfl, b6⟩
  cases q6 with
  | false =>
    have HR := Lib.hid (show b = 18 by rw [HL.out]; rfl)
    go_wp2_with fail
    go_ret
    rw [HR.out]
    exact ⟨rfl, ext_trans hB5 b6⟩
  | true =>
    have HR := Lib.hid (show b = 0 by rw [HL.out]; rfl)
    go_wp2_with fail
    go_ret
    rw [HR.out]
    exact ⟨rfl, ext_trans hB5 b6⟩

end Go.Proofs.YtkinlobfdkeamaaGreatDoor

namespace Go.Proofs.YtkinlobfdkeamaaGreatDoor
open Go.RowKit

def confP (e : EvV) : Bool := decide (e.conf.length ≤ 8) && e.conf.all cfgP
def ancP (e : EvV) : Bool := decide (e.anc.length ≤ 16) && e.anc.all sealP
/-- The first error of an event. -/
def validP (e : EvV) : Int := if begP e ≠ 0 then begP e else if estK e.kind = true ∧ keysP e ≠ 0 then keysP e else if inK e.kind = true ∧ confP e = false then 4 else if ancP e = false then 4 else if e.kind = 4 ∧ isP 1 e.del = false then 17 else if leanP e = false then 1 else 0

theorem inK_four {k : Int} (h : inK k = false) : (k == 4) = false ∧ k ≠ 4 := by
  unfold inK at h
  rw [Bool.or_eq_false_iff] at h
  exact ⟨h.2, by simpa using h.2⟩
theorem estK_in {k : Int} (h : estK k = false) : inK k = false := (estK_false h).1

set_option maxHeartbeats 8000000 in
set_option maxRecDepth 100000 in
theorem ev_valid (e : EvV) (u : EvS) (w : World) (h : EvM w e u) : Calls Tryz.prog 14 #[.agg (evCells e u)] w fun r w' => r = .returned (.int .i64 (validP e)) ∧ Below w.heap.size w w' := by
  have h1 := fun w' => ev_begins e u w'
  have h2 := fun w' (hb : Below w.heap.size w w') => ev_keys e u w' (h.later hb)
  have h3 := fun w' (hb : Below w.heap.size w w') => noconfig u.cf e.conf w' (h.later hb).cf
  have h4 := fun w' (hb : Below w.heap.size w w') => noseal u.an e.anc w' (h.later hb).an
  have h5 := fun w' => digest_any e.del w'
  have h6 := fun w' (hb : Below w.heap.size w w') => ev_lean e u w' (h.later hb)
  obtain ⟨A1, c1, e1⟩ := h.cf.is
  obtain ⟨A2, c2, e2⟩ := h.an.is
  clear h
  have hL : validP e = if begP e ≠ 0 then begP e else if estK e.kind = true ∧ keysP e ≠ 0 then keysP e else if inK e.kind = true ∧ (decide (e.conf.length ≤ 8) && e.conf.all cfgP) = false then 4 else if (decide (e.anc.length ≤ 16) && e.anc.all sealP) = false then 4 else if e.kind = 4 ∧ isP 1 e.del = false then 17 else if leanP e = false then 1 else 0 := rfl
  obtain ⟨b, hb⟩ : ∃ b, b = validP e := ⟨_, rfl⟩
  rw [← hb] at hL ⊢
  clear hb
  generalize begP e = g1 at *
  generalize keysP e = g2 at *
  generalize e.conf.all cfgP = q3 at *
  generalize e.anc.all sealP = q4 at *
  generalize isP 1 e.del = q5 at *
  generalize leanP e = q6 at *
  obtain ⟨form, kind, said, pre, num, prior, thr, keys, nthr, next, tol, wits, cuts, adds, conf, anc, del⟩ := e
  obtain ⟨tw, ks, nw, nx, ws, cs, aa, cf, an⟩ := u
  unfold evCells at *
  dsimp only at *
  subst e1 e2
  have hk := fun w => event_inception kind w
  have hs := fun w => event_established kind w
  have HL := Lib.hid hL
  clear hL
  go_enter Tryz.func14, Tryz.ntmps14
  go_wp2_with (refine wpList_load_row rfl 35 _ rfl w.heap.size rfl 35 _ _ _ (heap_alloc_new _ _) Tryz.underlying35 rfl (by kernel_rfl) ?_)
  refine (h1 _).mono ?_
  rintro r w1 ⟨rfl, b1⟩
  have hrow1 := rowLater b1 (hA1_0 _ _)
  have hB1 := ext_trans (ext_alloc _ _) b1
  clear h1 b1
  by_cases z1 : g1 = 0
  · have z1b : (g1 != 0) = false := by rw [z1]; rfl
    have HL1 := Lib.hid (show b = if estK kind = true ∧ g2 ≠ 0 then g2 else if inK kind = true ∧ (decide (conf.length ≤ 8) && q3) = false then 4 else if (decide (anc.length ≤ 16) && q4) = false then 4 else if kind = 4 ∧ q5 = false then 17 else if q6 = false then 1 else 0 by rw [HL.out, if_neg (by simpa using z1)])
    clear HL
    have d1 := cell_of_row _ _ 1 _ _ _ hrow1
    go_wp2_with fail
    refine (hs _).mono ?_
    rintro r w2 ⟨rfl, rfl⟩
    clear hs
    cases hE : estK kind with
    | false =>
      have hI := estK_in hE
      have HL2 := Lib.hid (show b = if (decide (anc.length ≤ 16) && q4) = false then 4 else if kind = 4 ∧ q5 = false then 17 else if q6 = false then 1 else 0 by rw [HL1.out, hE, hI]; simp)
      clear HL1 hE
      clear d1
      rw [hI] at hk
      have d1 := cell_of_row _ _ 1 _ _ _ hrow1
      go_wp2_with fail
      refine (hk _).mono ?_
      rintro r w3 ⟨rfl, rfl⟩
      clear hk
      have d17 := cell_of_row _ _ 17 _ _ _ hrow1
      by_cases la : anc.length ≤ 16
      · have lb : ¬ ((16 : Int) < (anc.length : Int)) := by omega
        have lb' : ¬ (16 < anc.length) := by omega
        go_wp2_with fail
        refine (h4 _ hB1).mono ?_
        rintro r w11 ⟨rfl, b11⟩
        have hrow11 := rowLater b11 hrow1
        have hB11 := ext_trans hB1 b11
        clear h4 b11 d17
        cases q4 with
        | false =>
          have HR := Lib.hid (show b = 4 by rw [HL2.out]; simp)
          go_wp2_with fail
          go_ret
          rw [HR.out]
          exact ⟨rfl, hB11⟩
        | true =>
          have HL3 := Lib.hid (show b = if kind = 4 ∧ q5 = false then 17 else if q6 = false then 1 else 0 by rw [HL2.out, decide_eq_true la]; simp)
          have e1 := cell_of_row _ _ 1 _ _ _ hrow11
          obtain ⟨k4b, k4⟩ := inK_four hI
          have HL4 := Lib.hid (show b = if q6 = false then 1 else 0 by rw [HL3.out, if_neg (by rintro ⟨h, _⟩; exact k4 h)])
          go_wp2_with (refine wpList_load_row rfl 35 _ rfl w.heap.size rfl 35 _ _ _ hrow11 Tryz.underlying35 rfl (by kernel_rfl) ?_)
          refine (h6 _ hB11).mono ?_
          rintro r w12 ⟨rfl, b12⟩
          cases q6 with
          | false =>
            have HR := Lib.hid (show b = 1 by rw [HL4.out]; simp)
            go_wp2_with fail
            go_ret
            rw [HR.out]
            exact ⟨rfl, ext_trans hB11 b12⟩
          | true =>
            have HR := Lib.hid (show b = 0 by rw [HL4.out]; simp)
            go_wp2_with fail
            go_ret
            rw [HR.out]
            exact ⟨rfl, ext_trans hB11 b12⟩
      · have lb : (16 : Int) < (anc.length : Int) := by omega
        have lb' : 16 < anc.length := by omega
        have HR := Lib.hid (show b = 4 by rw [HL2.out, decide_eq_false la]; simp)
        go_wp2_with fail
        go_ret
        rw [HR.out]
        exact ⟨rfl, hB1⟩
    | true =>
      have HL2 := Lib.hid (show b = if g2 ≠ 0 then g2 else if inK kind = true ∧ (decide (conf.length ≤ 8) && q3) = false then 4 else if (decide (anc.length ≤ 16) && q4) = false then 4 else if kind = 4 ∧ q5 = false then 17 else if q6 = false then 1 else 0 by rw [HL1.out, hE]; simp)
      clear HL1 d1
      go_wp2_with (refine wpList_load_row rfl 35 _ rfl w.heap.size rfl 35 _ _ _ hrow1 Tryz.underlying35 rfl (by kernel_rfl) ?_)
      refine (h2 _ hB1).mono ?_
      rintro r w3 ⟨rfl, b3⟩
      have hrow3 := rowLater b3 hrow1
      have hB3 := ext_trans hB1 b3
      clear h2 b3
      by_cases z2 : g2 = 0
      · have z2b : (g2 != 0) = false := by rw [z2]; rfl
        have HL3 := Lib.hid (show b = if inK kind = true ∧ (decide (conf.length ≤ 8) && q3) = false then 4 else if (decide (anc.length ≤ 16) && q4) = false then 4 else if kind = 4 ∧ q5 = false then 17 else if q6 = false then 1 else 0 by rw [HL2.out, if_neg (by simpa using z2)])
        clear HL2 hrow1 hB1
        cases hI : inK kind with
        | false =>
          have HL2 := Lib.hid (show b = if (decide (anc.length ≤ 16) && q4) = false then 4 else if kind = 4 ∧ q5 = false then 17 else if q6 = false then 1 else 0 by rw [HL3.out, hI]; simp)
          clear HL3
          rw [hI] at hk
          have d1 := cell_of_row _ _ 1 _ _ _ hrow3
          go_wp2_with fail
          refine (hk _).mono ?_
          rintro r w3 ⟨rfl, rfl⟩
          clear hk
          have d17 := cell_of_row _ _ 17 _ _ _ hrow3
          by_cases la : anc.length ≤ 16
          · have lb : ¬ ((16 : Int) < (anc.length : Int)) := by omega
            have lb' : ¬ (16 < anc.length) := by omega
            go_wp2_with fail
            refine (h4 _ hB3).mono ?_
            rintro r w13 ⟨rfl, b13⟩
            have hrow13 := rowLater b13 hrow3
            have hB13 := ext_trans hB3 b13
            clear h4 b13 d17
            cases q4 with
            | false =>
              have HR := Lib.hid (show b = 4 by rw [HL2.out]; simp)
              go_wp2_with fail
              go_ret
              rw [HR.out]
              exact ⟨rfl, hB13⟩
            | true =>
              have HL3 := Lib.hid (show b = if kind = 4 ∧ q5 = false then 17 else if q6 = false then 1 else 0 by rw [HL2.out, decide_eq_true la]; simp)
              have e1 := cell_of_row _ _ 1 _ _ _ hrow13
              obtain ⟨k4b, k4⟩ := inK_four hI
              have HL4 := Lib.hid (show b = if q6 = false then 1 else 0 by rw [HL3.out, if_neg (by rintro ⟨h, _⟩; exact k4 h)])
              go_wp2_with (refine wpList_load_row rfl 35 _ rfl w.heap.size rfl 35 _ _ _ hrow13 Tryz.underlying35 rfl (by kernel_rfl) ?_)
              refine (h6 _ hB13).mono ?_
              rintro r w14 ⟨rfl, b14⟩
              cases q6 with
              | false =>
                have HR := Lib.hid (show b = 1 by rw [HL4.out]; simp)
                go_wp2_with fail
                go_ret
                rw [HR.out]
                exact ⟨rfl, ext_trans hB13 b14⟩
              | true =>
                have HR := Lib.hid (show b = 0 by rw [HL4.out]; simp)
                go_wp2_with fail
                go_ret
                rw [HR.out]
                exact ⟨rfl, ext_trans hB13 b14⟩
          · have lb : (16 : Int) < (anc.length : Int) := by omega
            have lb' : 16 < anc.length := by omega
            have HR := Lib.hid (show b = 4 by rw [HL2.out, decide_eq_false la]; simp)
            go_wp2_with fail
            go_ret
            rw [HR.out]
            exact ⟨rfl, hB3⟩
        | true =>
          have HL4 := Lib.hid (show b = if (decide (conf.length ≤ 8) && q3) = false then 4 else if (decide (anc.length ≤ 16) && q4) = false then 4 else if kind = 4 ∧ q5 = false then 17 else if q6 = false then 1 else 0 by rw [HL3.out, hI]; simp)
          clear HL3
          rw [hI] at hk
          have d1 := cell_of_row _ _ 1 _ _ _ hrow3
          have d16 := cell_of_row _ _ 16 _ _ _ hrow3
          go_wp2_with fail
          refine (hk _).mono ?_
          rintro r w4 ⟨rfl, rfl⟩
          clear hk
          by_cases lc : conf.length ≤ 8
          · have ld : ¬ ((8 : Int) < (conf.length : Int)) := by omega
            have ld' : ¬ (8 < conf.length) := by omega
            go_wp2_with fail
            refine (h3 _ hB3).mono ?_
            rintro r w5 ⟨rfl, b5⟩
            have hrow5 := rowLater b5 hrow3
            have hB5 := ext_trans hB3 b5
            clear h3 b5 d1 d16
            cases q3 with
            | false =>
              have HR := Lib.hid (show b = 4 by rw [HL4.out]; simp)
              go_wp2_with fail
              go_ret
              rw [HR.out]
              exact ⟨rfl, hB5⟩
            | true =>
              have HL2 := Lib.hid (show b = if (decide (anc.length ≤ 16) && q4) = false then 4 else if kind = 4 ∧ q5 = false then 17 else if q6 = false then 1 else 0 by rw [HL4.out, decide_eq_true lc]; simp)
              have d17 := cell_of_row _ _ 17 _ _ _ hrow5
              by_cases la : anc.length ≤ 16
              · have lb : ¬ ((16 : Int) < (anc.length : Int)) := by omega
                have lb' : ¬ (16 < anc.length) := by omega
                go_wp2_with fail
                refine (h4 _ hB5).mono ?_
                rintro r w15 ⟨rfl, b15⟩
                have hrow15 := rowLater b15 hrow5
                have hB15 := ext_trans hB5 b15
                clear h4 b15 d17
                cases q4 with
                | false =>
                  have HR := Lib.hid (show b = 4 by rw [HL2.out]; simp)
                  go_wp2_with fail
                  go_ret
                  rw [HR.out]
                  exact ⟨rfl, hB15⟩
                | true =>
                  have HL3 := Lib.hid (show b = if kind = 4 ∧ q5 = false then 17 else if q6 = false then 1 else 0 by rw [HL2.out, decide_eq_true la]; simp)
                  have e1 := cell_of_row _ _ 1 _ _ _ hrow15
                  by_cases k4 : kind = 4
                  · subst k4
                    have e18 := cell_of_row _ _ 18 _ _ _ hrow15
                    go_wp2_with fail
                    refine (h5 _).mono ?_
                    rintro r w16 ⟨rfl, b16⟩
                    have hrow16 := rowLater b16 hrow15
                    have hB16 := ext_trans hB15 b16
                    clear h5 b16 e1 e18
                    cases q5 with
                    | false =>
                      have HR := Lib.hid (show b = 17 by rw [HL3.out]; simp)
                      go_wp2_with fail
                      go_ret
                      rw [HR.out]
                      exact ⟨rfl, hB16⟩
                    | true =>
                      have HL4 := Lib.hid (show b = if q6 = false then 1 else 0 by rw [HL3.out]; simp)
                      go_wp2_with (refine wpList_load_row rfl 35 _ rfl w.heap.size rfl 35 _ _ _ hrow16 Tryz.underlying35 rfl (by kernel_rfl) ?_)
                      refine (h6 _ hB16).mono ?_
                      rintro r w17 ⟨rfl, b17⟩
                      cases q6 with
                      | false =>
                        have HR := Lib.hid (show b = 1 by rw [HL4.out]; simp)
                        go_wp2_with fail
                        go_ret
                        rw [HR.out]
                        exact ⟨rfl, ext_trans hB16 b17⟩
                      | true =>
                        have HR := Lib.hid (show b = 0 by rw [HL4.out]; simp)
                        go_wp2_with fail
                        go_ret
                        rw [HR.out]
                        exact ⟨rfl, ext_trans hB16 b17⟩
                  · have k4b : (kind == 4) = false := by simpa using k4
                    have HL4 := Lib.hid (show b = if q6 = false then 1 else 0 by rw [HL3.out, if_neg (by rintro ⟨h, _⟩; exact k4 h)])
                    go_wp2_with (refine wpList_load_row rfl 35 _ rfl w.heap.size rfl 35 _ _ _ hrow15 Tryz.underlying35 rfl (by kernel_rfl) ?_)
                    refine (h6 _ hB15).mono ?_
                    rintro r w18 ⟨rfl, b18⟩
                    cases q6 with
                    | false =>
                      have HR := Lib.hid (show b = 1 by rw [HL4.out]; simp)
                      go_wp2_with fail
                      go_ret
                      rw [HR.out]
                      exact ⟨rfl, ext_trans hB15 b18⟩
                    | true =>
                      have HR := Lib.hid (show b = 0 by rw [HL4.out]; simp)
                      go_wp2_with fail
                      go_ret
                      rw [HR.out]
                      exact ⟨rfl, ext_trans hB15 b18⟩
              · have lb : (16 : Int) < (anc.length : Int) := by omega
                have lb' : 16 < anc.length := by omega
                have HR := Lib.hid (show b = 4 by rw [HL2.out, decide_eq_false la]; simp)
                go_wp2_with fail
                go_ret
                rw [HR.out]
                exact ⟨rfl, hB5⟩
          · have ld : (8 : Int) < (conf.length : Int) := by omega
            have ld' : 8 < conf.length := by omega
            have HR := Lib.hid (show b = 4 by rw [HL4.out, decide_eq_false lc]; simp)
            go_wp2_with fail
            go_ret
            rw [HR.out]
            exact ⟨rfl, hB3⟩
      · have z2b : (g2 != 0) = true := by simpa using z2
        have HR := Lib.hid (show b = g2 by rw [HL2.out, if_pos z2])
        go_wp2_with fail
        go_ret
        rw [HR.out]
        exact ⟨rfl, hB3⟩
  · have z1b : (g1 != 0) = true := by simpa using z1
    have HR := Lib.hid (show b = g1 by rw [HL.out, if_pos z1])
    go_wp2_with fail
    go_ret
    rw [HR.out]
    exact ⟨rfl, hB1⟩

end Go.Proofs.YtkinlobfdkeamaaGreatDoor

namespace Go.Proofs.YtkinlobfdkeamaaGreatDoor
open Go.RowKit

theorem isP_nil : isP 1 [] = false := by decide +kernel

theorem sealP_ref (s : SealV) : sealP s = (isP 1 s.said && ((s.pre.isEmpty && (s.num == 0)) || (isP 1 s.pre && (decide (0 ≤ s.num) && decide (s.num ≤ 1099511627776))))) := by
  obtain ⟨pre, num, said⟩ := s
  unfold sealP
  dsimp only
  cases pre with
  | nil =>
    rw [isP_nil, if_pos (by rfl)]
    simp [Bool.and_comm]
  | cons x r =>
    rw [if_neg (by simp)]
    show _ = (isP 1 said && (false || _))
    rw [Bool.false_or]
    cases isP 1 said <;> simp

set_option maxHeartbeats 8000000 in
set_option maxRecDepth 100000 in
theorem r14_anchors (v : Value) (l : List SealV) (w : World) (h : Seals w v l) : Calls Tryz.prog 57 #[v] w fun e w' => e = .returned (.bool (decide (l.length ≤ 16) && l.all sealP)) ∧ Below w.heap.size w w' := by
  obtain ⟨⟨A, c, rfl, hc, hn, hel⟩, hsh⟩ := h
  clear hsh
  go_enter Tryz.func57, Tryz.ntmps57
  go_wp2_with fail
  go_loopw [9] (fun vk wr => ∃ k : Nat, k ≤ l.length ∧ vk = .int .i64 (k : Int) ∧ (l.take k).all sealP = true ∧ Below w.heap.size w wr) (fun vk _ => ((l.length : Int) - intOf vk).toNat)
  case atStart => exact ⟨0, by omega, rfl, rfl, Below.refl _ _⟩
  case round =>
    obtain ⟨k, hk, rfl, hall, hB⟩ := hrel
    by_cases hlt : k < l.length
    · obtain ⟨ad, rfl, h0, h1, h2⟩ := hel k hlt
      have q0 := cellLater hB h0
      have q1 := cellLater hB h1
      have q2 := cellLater hB h2
      have j0 : (k : Int) < l.length := by omega
      have hst := all_take_step l sealP ⟨[], 0, []⟩ k hlt
      have hno := all_take_false l sealP ⟨[], 0, []⟩ k hlt
      rw [hall, Bool.true_and] at hst
      have hsp := sealP_ref (l.getD k ⟨[], 0, []⟩)
      clear hel h0 h1 h2 hall
      generalize l.getD k ⟨[], 0, []⟩ = s at *
      generalize sealP s = q at *
      obtain ⟨pre, num, said⟩ := s
      dsimp only at q0 q1 q2 hsp
      have hd1 := fun w => r14_digest pre w
      have hd2 := fun w => r14_digest said w
      have hempty : pre = [] → isP 1 pre = false := fun hx => by rw [hx]; exact isP_nil
      generalize isP 1 pre = d1 at *
      generalize isP 1 said = d2 at *
      have HSP := Lib.hid hsp
      have HNO := Lib.hid hno
      have HST := Lib.hid hst
      have HE := Lib.hid hempty
      clear hsp hno hst hempty
      have X := ext_alloc wr (.cells #[.string ⟨pre.toArray⟩, .int .i64 num, .string ⟨said.toArray⟩] 68)
      have hBX := ext_trans hB X
      clear X
      by_cases hpe : pre = []
      · have hd1f := HE.out hpe
        subst hpe
        subst hd1f
        by_cases hz : num = 0
        · subst hz
          go_wp2_with fail
          refine (hd1 _).mono ?_
          rintro e w1 ⟨rfl, b1⟩
          have hrow := rowLater b1 (hA1_0 _ _)
          have c0 := cell_of_row _ _ 0 _ _ _ hrow
          have c1 := cell_of_row _ _ 1 _ _ _ hrow
          have c2 := cell_of_row _ _ 2 _ _ _ hrow
          have hB1 := ext_trans hBX b1
          clear hd1 b1 q0 q1 q2
          go_wp2_with fail
          refine (hd2 _).mono ?_
          rintro e w2 ⟨rfl, b2⟩
          have hB2 := ext_trans hB1 b2
          clear hd2 b2 c0 c1 c2
          cases d2 with
          | false =>
            have HR := Lib.hid (HNO.out (by rw [HSP.out]; simp))
            go_wp2_with fail
            go_ret
            rw [HR.out, Bool.and_false]
            exact ⟨rfl, hB2⟩
          | true =>
            have HR := Lib.hid (show (l.take (k + 1)).all sealP = true by rw [HST.out, HSP.out]; simp)
            go_wp2_with fail
            exact ⟨⟨k + 1, by omega, by go_num, HR.out, hB2⟩, by simp only [intOf]; omega⟩
        · have hzb : (num == 0) = false := by simpa using hz
          have HR := Lib.hid (HNO.out (by rw [HSP.out, hzb]; simp))
          go_wp2_with fail
          refine (hd1 _).mono ?_
          rintro e w1 ⟨rfl, b1⟩
          have hrow := rowLater b1 (hA1_0 _ _)
          have c0 := cell_of_row _ _ 0 _ _ _ hrow
          have c1 := cell_of_row _ _ 1 _ _ _ hrow
          have c2 := cell_of_row _ _ 2 _ _ _ hrow
          have hB1 := ext_trans hBX b1
          clear hd1 b1 q0 q1 q2
          go_wp2_with fail
          refine (hd2 _).mono ?_
          rintro e w2 ⟨rfl, b2⟩
          have hB2 := ext_trans hB1 b2
          clear hd2 b2 c0 c1 c2
          cases d2 with
          | false =>
            go_wp2_with fail
            go_ret
            rw [HR.out, Bool.and_false]
            exact ⟨rfl, hB2⟩
          | true =>
            go_wp2_with fail
            go_ret
            rw [HR.out, Bool.and_false]
            exact ⟨rfl, hB2⟩
      · have he : pre.isEmpty = false := by simpa using hpe
        have HSP2 := Lib.hid (show q = (d2 && (d1 && (decide (0 ≤ num) && decide (num ≤ 1099511627776)))) by rw [HSP.out, he]; simp)
        clear HSP HE hpe
        go_wp2_with fail
        refine (hd1 _).mono ?_
        rintro e w1 ⟨rfl, b1⟩
        have hrow := rowLater b1 (hA1_0 _ _)
        have c0 := cell_of_row _ _ 0 _ _ _ hrow
        have c1 := cell_of_row _ _ 1 _ _ _ hrow
        have c2 := cell_of_row _ _ 2 _ _ _ hrow
        have hB1 := ext_trans hBX b1
        clear hd1 b1 q0 q1 q2
        cases d1 with
        | false =>
          have HR := Lib.hid (HNO.out (by rw [HSP2.out]; simp))
          go_wp2_with fail
          refine (hd2 _).mono ?_
          rintro e w2 ⟨rfl, b2⟩
          have hB2 := ext_trans hB1 b2
          clear hd2 b2 c0 c1 c2
          cases d2 with
          | false =>
            go_wp2_with fail
            go_ret
            rw [HR.out, Bool.and_false]
            exact ⟨rfl, hB2⟩
          | true =>
            go_wp2_with fail
            go_ret
            rw [HR.out, Bool.and_false]
            exact ⟨rfl, hB2⟩
        | true =>
          by_cases hin : 0 ≤ num ∧ num ≤ 1099511627776
          · obtain ⟨hi1, hi2⟩ := hin
            have HSP3 := Lib.hid (show q = d2 by rw [HSP2.out, decide_eq_true hi1, decide_eq_true hi2]; simp)
            go_wp2_with fail
            refine (hd2 _).mono ?_
            rintro e w2 ⟨rfl, b2⟩
            have hB2 := ext_trans hB1 b2
            clear hd2 b2 c0 c1 c2
            cases d2 with
            | false =>
              have HR := Lib.hid (HNO.out (by rw [HSP3.out]))
              go_wp2_with fail
              go_ret
              rw [HR.out, Bool.and_false]
              exact ⟨rfl, hB2⟩
            | true =>
              have HR := Lib.hid (show (l.take (k + 1)).all sealP = true by rw [HST.out, HSP3.out])
              go_wp2_with fail
              exact ⟨⟨k + 1, by omega, by go_num, HR.out, hB2⟩, by simp only [intOf]; omega⟩
          · have HR := Lib.hid (HNO.out (by
              rw [HSP2.out]
              by_cases hi1 : 0 ≤ num
              · rw [decide_eq_false (show ¬ num ≤ 1099511627776 from fun hx => hin ⟨hi1, hx⟩)]; simp
              · rw [decide_eq_false hi1]; simp))
            by_cases hi1 : 0 ≤ num
            · have hi2 : ¬ num ≤ 1099511627776 := fun hx => hin ⟨hi1, hx⟩
              clear hin
              go_wp2_with fail
              refine (hd2 _).mono ?_
              rintro e w2 ⟨rfl, b2⟩
              have hB2 := ext_trans hB1 b2
              clear hd2 b2 c0 c1 c2
              rw [decide_eq_false (show ¬ num ≤ 1099511627776 by omega)]
              cases d2 with
              | false =>
                go_wp2_with fail
                go_ret
                rw [HR.out, Bool.and_false]
                exact ⟨rfl, hB2⟩
              | true =>
                go_wp2_with fail
                go_ret
                rw [HR.out, Bool.and_false]
                exact ⟨rfl, hB2⟩
            · clear hin
              go_wp2_with fail
              refine (hd2 _).mono ?_
              rintro e w2 ⟨rfl, b2⟩
              have hB2 := ext_trans hB1 b2
              clear hd2 b2 c0 c1 c2
              have hi1' : ¬ 0 ≤ num := by omega
              cases d2 with
              | false =>
                go_wp2_with fail
                go_ret
                rw [HR.out, Bool.and_false]
                exact ⟨rfl, hB2⟩
              | true =>
                go_wp2_with fail
                go_ret
                rw [HR.out, Bool.and_false]
                exact ⟨rfl, hB2⟩
    · have hkl : k = l.length := by omega
      subst hkl
      rw [List.take_length] at hall
      have HA := Lib.hid hall
      clear hall hel
      have HE := Lib.hid (show decide (l.length ≤ 16) = decide ((l.length : Int) ≤ 16) by rw [decide_eq_decide]; omega)
      go_wp2_with fail
      go_ret
      rw [HA.out, Bool.and_true, HE.out]
      exact ⟨rfl, hB⟩

end Go.Proofs.YtkinlobfdkeamaaGreatDoor

