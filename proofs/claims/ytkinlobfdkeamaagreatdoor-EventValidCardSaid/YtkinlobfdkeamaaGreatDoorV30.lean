/- The fields that a kind does not have are zero: the program's test. (Printed by gen_lean.py.) The fields that a kind does not have are zero: the reference's test. (Printed by gen_clean.py.) That no digest of a list is that of a key. -/
import Derived.Test.YtkinlobfdkeamaaGreatDoorV22
import Derived.Test.YtkinlobfdkeamaaGreatDoorV13
import Derived.Test.YtkinlobfdkeamaaGreatDoorV19
namespace Go.Proofs.YtkinlobfdkeamaaGreatDoor
open Go.RowKit

/-- Are the fields that a kind does not have zero? -/
def leanP (e : EvV) : Bool := (estK e.kind || (zeroP e.thr && (decide (e.keys.length = 0) && (zeroP e.nthr && (decide (e.next.length = 0) && (e.tol == 0)))))) && ((inK e.kind || (decide (e.wits.length = 0) && decide (e.conf.length = 0))) && ((rotK e.kind || (decide (e.cuts.length = 0) && decide (e.adds.length = 0))) && (e.kind == 4 || e.del.isEmpty)))

theorem estK_false {k : Int} (h : estK k = false) : inK k = false ∧ rotK k = false ∧ (k == 4) = false := by
  unfold estK at h
  rw [Bool.or_eq_false_iff] at h
  refine ⟨h.1, h.2, ?_⟩
  have := h.1
  unfold inK at this
  rw [Bool.or_eq_false_iff] at this
  exact this.2
theorem estK_true {k : Int} (h : estK k = true) : k = 1 ∨ k = 4 ∨ k = 2 ∨ k = 5 := by
  unfold estK inK rotK at h
  simp only [Bool.or_eq_true, beq_iff_eq] at h
  rcases h with (h | h) | (h | h)
  · exact Or.inl h
  · exact Or.inr (Or.inl h)
  · exact Or.inr (Or.inr (Or.inl h))
  · exact Or.inr (Or.inr (Or.inr h))

set_option maxHeartbeats 8000000 in
set_option maxRecDepth 100000 in
theorem ev_lean (e : EvV) (u : EvS) (w : World) (h : EvM w e u) : Calls Tryz.prog 52 #[.agg (evCells e u)] w fun r w' => r = .returned (.bool (leanP e)) ∧ Below w.heap.size w w' := by
  have hz1 := fun w' (hb : Below w.heap.size w w') => thr_zero _ _ w' (h.later hb).thr
  have hz2 := fun w' (hb : Below w.heap.size w w') => thr_zero _ _ w' (h.later hb).nthr
  obtain ⟨A1, c1, e1⟩ := h.ks.is
  obtain ⟨A2, c2, e2⟩ := h.nx.is
  obtain ⟨A3, c3, e3⟩ := h.ws.is
  obtain ⟨A4, c4, e4⟩ := h.cs.is
  obtain ⟨A5, c5, e5⟩ := h.aa.is
  obtain ⟨A6, c6, e6⟩ := h.cf.is
  clear h
  have hL : leanP e = ((estK e.kind || (zeroP e.thr && (decide (e.keys.length = 0) && (zeroP e.nthr && (decide (e.next.length = 0) && (e.tol == 0)))))) && ((inK e.kind || (decide (e.wits.length = 0) && decide (e.conf.length = 0))) && ((rotK e.kind || (decide (e.cuts.length = 0) && decide (e.adds.length = 0))) && (e.kind == 4 || e.del.isEmpty)))) := rfl
  obtain ⟨b, hb⟩ : ∃ b, b = leanP e := ⟨_, rfl⟩
  rw [← hb] at hL ⊢
  clear hb
  obtain ⟨form, kind, said, pre, num, prior, thr, keys, nthr, next, tol, wits, cuts, adds, conf, anc, del⟩ := e
  obtain ⟨tw, ks, nw, nx, ws, cs, aa, cf, an⟩ := u
  unfold evCells
  dsimp only at *
  subst e1 e2 e3 e4 e5 e6
  generalize zeroP thr = z1 at *
  generalize zeroP nthr = z2 at *
  have hk := fun w => event_inception kind w
  have hr := fun w => event_rotates kind w
  have hs := fun w => event_established kind w
  have HL := Lib.hid hL
  clear hL
  go_enter Tryz.func52, Tryz.ntmps52
  go_wp2_with fail
  refine (hs _).mono ?_
  rintro r w1 ⟨rfl, rfl⟩
  clear hs
  cases hE : estK kind with
  | false =>
    obtain ⟨i1, i2, i3⟩ := estK_false hE
    rw [i1] at hk
    rw [i2] at hr
    have HL2 := Lib.hid (show b = ((z1 && (decide (keys.length = 0) && (z2 && (decide (next.length = 0) && (tol == 0))))) && (((decide (wits.length = 0) && decide (conf.length = 0))) && (((decide (cuts.length = 0) && decide (adds.length = 0))) && del.isEmpty))) by rw [HL.out, hE, i1, i2, i3]; simp)
    clear HL hE i1 i2
    go_wp2_with fail
    refine (hz1 _ (ext_alloc _ _)).mono ?_
    rintro r w2 ⟨rfl, b1⟩
    have hrow := rowLater b1 (hA1_0 _ _)
    have hB := ext_trans (ext_alloc _ _) b1
    clear hz1 b1
    cases z1 with
    | false =>
      have HR := Lib.hid (show b = false by rw [HL2.out]; simp)
      go_wp2_with fail
      go_ret
      rw [HR.out]
      exact ⟨rfl, hB⟩
    | true =>
    have c8 := cell_of_row _ _ 8 _ _ _ hrow
    by_cases l_keys : keys.length = 0
    · have t_keys : ((keys.length : Int) == 0) = true := by rw [l_keys]; rfl
      have s_keys : ¬ (0 < keys.length) := by omega
      have c9 := cell_of_row _ _ 9 _ _ _ hrow
      have c10 := cell_of_row _ _ 10 _ _ _ hrow
      have c8 := cell_of_row _ _ 8 _ _ _ hrow
      go_wp2_with fail
      refine (hz2 _ hB).mono ?_
      rintro r w3 ⟨rfl, b2⟩
      have hrow2 := rowLater b2 hrow
      have hB2 := ext_trans hB b2
      clear hz2 b2 hrow hB c8 c9 c10
      have c1 := cell_of_row _ _ 1 _ _ _ hrow2
      have c11 := cell_of_row _ _ 11 _ _ _ hrow2
      have c12 := cell_of_row _ _ 12 _ _ _ hrow2
      have c13 := cell_of_row _ _ 13 _ _ _ hrow2
      have c14 := cell_of_row _ _ 14 _ _ _ hrow2
      have c15 := cell_of_row _ _ 15 _ _ _ hrow2
      have c16 := cell_of_row _ _ 16 _ _ _ hrow2
      have c18 := cell_of_row _ _ 18 _ _ _ hrow2
      cases z2 with
      | false =>
        have HR := Lib.hid (show b = false by rw [HL2.out]; simp)
        go_wp2_with fail
        go_ret
        rw [HR.out]
        exact ⟨rfl, hB2⟩
      | true =>
      by_cases l_next : next.length = 0
      · have t_next : ((next.length : Int) == 0) = true := by rw [l_next]; rfl
        have s_next : ¬ (0 < next.length) := by omega
        by_cases t0 : tol = 0
        · have t00 : (tol == 0) = true := by rw [t0]; rfl
          have t01 : (tol != 0) = false := by rw [t0]; rfl
          go_wp2_with fail
          refine (hk _).mono ?_
          rintro r w4 ⟨rfl, rfl⟩
          by_cases l_wits : wits.length = 0
          · have t_wits : ((wits.length : Int) == 0) = true := by rw [l_wits]; rfl
            have s_wits : ¬ (0 < wits.length) := by omega
            by_cases l_conf : conf.length = 0
            · have t_conf : ((conf.length : Int) == 0) = true := by rw [l_conf]; rfl
              have s_conf : ¬ (0 < conf.length) := by omega
              go_wp2_with fail
              refine (hr _).mono ?_
              rintro r w5 ⟨rfl, rfl⟩
              by_cases l_cuts : cuts.length = 0
              · have t_cuts : ((cuts.length : Int) == 0) = true := by rw [l_cuts]; rfl
                have s_cuts : ¬ (0 < cuts.length) := by omega
                by_cases l_adds : adds.length = 0
                · have t_adds : ((adds.length : Int) == 0) = true := by rw [l_adds]; rfl
                  have s_adds : ¬ (0 < adds.length) := by omega
                  have HR := Lib.hid (show b = del.isEmpty by rw [HL2.out, l_keys, l_next, t00, l_wits, l_conf, l_cuts, l_adds]; simp)
                  go_wp2_with fail
                  go_ret
                  rw [HR.out]
                  exact ⟨rfl, hB2⟩
                · have t_adds : ((adds.length : Int) == 0) = false := by rw [beq_eq_false_iff_ne]; omega
                  have s_adds : 0 < adds.length := by omega
                  have HR := Lib.hid (show b = false by rw [HL2.out, decide_eq_false l_adds]; simp)
                  go_wp2_with fail
                  go_ret
                  rw [HR.out]
                  exact ⟨rfl, hB2⟩
              · have t_cuts : ((cuts.length : Int) == 0) = false := by rw [beq_eq_false_iff_ne]; omega
                have s_cuts : 0 < cuts.length := by omega
                have HR := Lib.hid (show b = false by rw [HL2.out, decide_eq_false l_cuts]; simp)
                go_wp2_with fail
                go_ret
                rw [HR.out]
                exact ⟨rfl, hB2⟩
            · have t_conf : ((conf.length : Int) == 0) = false := by rw [beq_eq_false_iff_ne]; omega
              have s_conf : 0 < conf.length := by omega
              have HR := Lib.hid (show b = false by rw [HL2.out, decide_eq_false l_conf]; simp)
              go_wp2_with fail
              go_ret
              rw [HR.out]
              exact ⟨rfl, hB2⟩
          · have t_wits : ((wits.length : Int) == 0) = false := by rw [beq_eq_false_iff_ne]; omega
            have s_wits : 0 < wits.length := by omega
            have HR := Lib.hid (show b = false by rw [HL2.out, decide_eq_false l_wits]; simp)
            go_wp2_with fail
            go_ret
            rw [HR.out]
            exact ⟨rfl, hB2⟩
        · have t00 : (tol == 0) = false := by simpa using t0
          have t01 : (tol != 0) = true := by simpa using t0
          have HR := Lib.hid (show b = false by rw [HL2.out, t00]; simp)
          go_wp2_with fail
          go_ret
          rw [HR.out]
          exact ⟨rfl, hB2⟩
      · have t_next : ((next.length : Int) == 0) = false := by rw [beq_eq_false_iff_ne]; omega
        have s_next : 0 < next.length := by omega
        have HR := Lib.hid (show b = false by rw [HL2.out, decide_eq_false l_next]; simp)
        go_wp2_with fail
        go_ret
        rw [HR.out]
        exact ⟨rfl, hB2⟩
    · have t_keys : ((keys.length : Int) == 0) = false := by rw [beq_eq_false_iff_ne]; omega
      have s_keys : 0 < keys.length := by omega
      have HR := Lib.hid (show b = false by rw [HL2.out, decide_eq_false l_keys]; simp)
      go_wp2_with fail
      go_ret
      rw [HR.out]
      exact ⟨rfl, hB⟩
  | true =>
    clear hz1 hz2
    rcases estK_true hE with rfl | rfl | rfl | rfl
    · have HL2 := Lib.hid (show b = ((decide (cuts.length = 0) && decide (adds.length = 0)) && del.isEmpty) by rw [HL.out, hE, show inK 1 = true from rfl, show rotK 1 = false from rfl]; simp)
      rw [show inK 1 = true from rfl] at hk
      rw [show rotK 1 = false from rfl] at hr
      clear HL hE
      go_wp2_with fail
      refine (hk _).mono ?_
      rintro r w4 ⟨rfl, rfl⟩
      go_wp2_with fail
      refine (hr _).mono ?_
      rintro r w5 ⟨rfl, rfl⟩
      by_cases l_cuts : cuts.length = 0
      · have t_cuts : ((cuts.length : Int) == 0) = true := by rw [l_cuts]; rfl
        have s_cuts : ¬ (0 < cuts.length) := by omega
        by_cases l_adds : adds.length = 0
        · have t_adds : ((adds.length : Int) == 0) = true := by rw [l_adds]; rfl
          have s_adds : ¬ (0 < adds.length) := by omega
          have HR := Lib.hid (show b = del.isEmpty by rw [HL2.out, l_cuts, l_adds]; simp)
          go_wp2_with fail
          go_ret
          rw [HR.out]
          exact ⟨rfl, ext_alloc _ _⟩
        · have t_adds : ((adds.length : Int) == 0) = false := by rw [beq_eq_false_iff_ne]; omega
          have s_adds : 0 < adds.length := by omega
          have HR := Lib.hid (show b = false by rw [HL2.out, decide_eq_false l_adds]; simp)
          go_wp2_with fail
          go_ret
          rw [HR.out]
          exact ⟨rfl, ext_alloc _ _⟩
      · have t_cuts : ((cuts.length : Int) == 0) = false := by rw [beq_eq_false_iff_ne]; omega
        have s_cuts : 0 < cuts.length := by omega
        have HR := Lib.hid (show b = false by rw [HL2.out, decide_eq_false l_cuts]; simp)
        go_wp2_with fail
        go_ret
        rw [HR.out]
        exact ⟨rfl, ext_alloc _ _⟩
    · have HL2 := Lib.hid (show b = ((decide (cuts.length = 0) && decide (adds.length = 0)) && true) by rw [HL.out, hE, show inK 4 = true from rfl, show rotK 4 = false from rfl]; simp)
      rw [show inK 4 = true from rfl] at hk
      rw [show rotK 4 = false from rfl] at hr
      clear HL hE
      go_wp2_with fail
      refine (hk _).mono ?_
      rintro r w4 ⟨rfl, rfl⟩
      go_wp2_with fail
      refine (hr _).mono ?_
      rintro r w5 ⟨rfl, rfl⟩
      by_cases l_cuts : cuts.length = 0
      · have t_cuts : ((cuts.length : Int) == 0) = true := by rw [l_cuts]; rfl
        have s_cuts : ¬ (0 < cuts.length) := by omega
        by_cases l_adds : adds.length = 0
        · have t_adds : ((adds.length : Int) == 0) = true := by rw [l_adds]; rfl
          have s_adds : ¬ (0 < adds.length) := by omega
          have HR := Lib.hid (show b = true by rw [HL2.out, l_cuts, l_adds]; simp)
          go_wp2_with fail
          go_ret
          rw [HR.out]
          exact ⟨rfl, ext_alloc _ _⟩
        · have t_adds : ((adds.length : Int) == 0) = false := by rw [beq_eq_false_iff_ne]; omega
          have s_adds : 0 < adds.length := by omega
          have HR := Lib.hid (show b = false by rw [HL2.out, decide_eq_false l_adds]; simp)
          go_wp2_with fail
          go_ret
          rw [HR.out]
          exact ⟨rfl, ext_alloc _ _⟩
      · have t_cuts : ((cuts.length : Int) == 0) = false := by rw [beq_eq_false_iff_ne]; omega
        have s_cuts : 0 < cuts.length := by omega
        have HR := Lib.hid (show b = false by rw [HL2.out, decide_eq_false l_cuts]; simp)
        go_wp2_with fail
        go_ret
        rw [HR.out]
        exact ⟨rfl, ext_alloc _ _⟩
    · have HL2 := Lib.hid (show b = ((decide (wits.length = 0) && decide (conf.length = 0)) && del.isEmpty) by rw [HL.out, hE, show inK 2 = false from rfl, show rotK 2 = true from rfl]; simp)
      rw [show inK 2 = false from rfl] at hk
      rw [show rotK 2 = true from rfl] at hr
      clear HL hE
      go_wp2_with fail
      refine (hk _).mono ?_
      rintro r w4 ⟨rfl, rfl⟩
      by_cases l_wits : wits.length = 0
      · have t_wits : ((wits.length : Int) == 0) = true := by rw [l_wits]; rfl
        have s_wits : ¬ (0 < wits.length) := by omega
        by_cases l_conf : conf.length = 0
        · have t_conf : ((conf.length : Int) == 0) = true := by rw [l_conf]; rfl
          have s_conf : ¬ (0 < conf.length) := by omega
          go_wp2_with fail
          refine (hr _).mono ?_
          rintro r w5 ⟨rfl, rfl⟩
          have HR := Lib.hid (show b = del.isEmpty by rw [HL2.out, l_wits, l_conf]; simp)
          go_wp2_with fail
          go_ret
          rw [HR.out]
          exact ⟨rfl, ext_alloc _ _⟩
        · have t_conf : ((conf.length : Int) == 0) = false := by rw [beq_eq_false_iff_ne]; omega
          have s_conf : 0 < conf.length := by omega
          have HR := Lib.hid (show b = false by rw [HL2.out, decide_eq_false l_conf]; simp)
          go_wp2_with fail
          go_ret
          rw [HR.out]
          exact ⟨rfl, ext_alloc _ _⟩
      · have t_wits : ((wits.length : Int) == 0) = false := by rw [beq_eq_false_iff_ne]; omega
        have s_wits : 0 < wits.length := by omega
        have HR := Lib.hid (show b = false by rw [HL2.out, decide_eq_false l_wits]; simp)
        go_wp2_with fail
        go_ret
        rw [HR.out]
        exact ⟨rfl, ext_alloc _ _⟩
    · have HL2 := Lib.hid (show b = ((decide (wits.length = 0) && decide (conf.length = 0)) && del.isEmpty) by rw [HL.out, hE, show inK 5 = false from rfl, show rotK 5 = true from rfl]; simp)
      rw [show inK 5 = false from rfl] at hk
      rw [show rotK 5 = true from rfl] at hr
      clear HL hE
      go_wp2_with fail
      refine (hk _).mono ?_
      rintro r w4 ⟨rfl, rfl⟩
      by_cases l_wits : wits.length = 0
      · have t_wits : ((wits.length : Int) == 0) = true := by rw [l_wits]; rfl
        have s_wits : ¬ (0 < wits.length) := by omega
        by_cases l_conf : conf.length = 0
        · have t_conf : ((conf.length : Int) == 0) = true := by rw [l_conf]; rfl
          have s_conf : ¬ (0 < conf.length) := by omega
          go_wp2_with fail
          refine (hr _).mono ?_
          rintro r w5 ⟨rfl, rfl⟩
          have HR := Lib.hid (show b = del.isEmpty by rw [HL2.out, l_wits, l_conf]; simp)
          go_wp2_with fail
          go_ret
          rw [HR.out]
          exact ⟨rfl, ext_alloc _ _⟩
        · have t_conf : ((conf.length : Int) == 0) = false := by rw [beq_eq_false_iff_ne]; omega
          have s_conf : 0 < conf.length := by omega
          have HR := Lib.hid (show b = false by rw [HL2.out, decide_eq_false l_conf]; simp)
          go_wp2_with fail
          go_ret
          rw [HR.out]
          exact ⟨rfl, ext_alloc _ _⟩
      · have t_wits : ((wits.length : Int) == 0) = false := by rw [beq_eq_false_iff_ne]; omega
        have s_wits : 0 < wits.length := by omega
        have HR := Lib.hid (show b = false by rw [HL2.out, decide_eq_false l_wits]; simp)
        go_wp2_with fail
        go_ret
        rw [HR.out]
        exact ⟨rfl, ext_alloc _ _⟩

end Go.Proofs.YtkinlobfdkeamaaGreatDoor

namespace Go.Proofs.YtkinlobfdkeamaaGreatDoor
open Go.RowKit

set_option maxHeartbeats 8000000 in
set_option maxRecDepth 100000 in
theorem r14_clean (e : EvV) (u : EvS) (w : World) (h : EvM w e u) : Calls Tryz.prog 58 #[.agg (evCells e u)] w fun r w' => r = .returned (.bool (leanP e)) ∧ Below w.heap.size w w' := by
  have hz1 := fun w' (hb : Below w.heap.size w w') => r14_empty _ _ w' (h.later hb).thr
  have hz2 := fun w' (hb : Below w.heap.size w w') => r14_empty _ _ w' (h.later hb).nthr
  obtain ⟨A1, c1, e1⟩ := h.ks.is
  obtain ⟨A2, c2, e2⟩ := h.nx.is
  obtain ⟨A3, c3, e3⟩ := h.ws.is
  obtain ⟨A4, c4, e4⟩ := h.cs.is
  obtain ⟨A5, c5, e5⟩ := h.aa.is
  obtain ⟨A6, c6, e6⟩ := h.cf.is
  have n4 := h.cs.few
  have n5 := h.aa.few
  clear h
  have hL : leanP e = ((estK e.kind || (zeroP e.thr && (decide (e.keys.length = 0) && (zeroP e.nthr && (decide (e.next.length = 0) && (e.tol == 0)))))) && ((inK e.kind || (decide (e.wits.length = 0) && decide (e.conf.length = 0))) && ((rotK e.kind || (decide (e.cuts.length = 0) && decide (e.adds.length = 0))) && (e.kind == 4 || e.del.isEmpty)))) := rfl
  obtain ⟨b, hb⟩ : ∃ b, b = leanP e := ⟨_, rfl⟩
  rw [← hb] at hL ⊢
  clear hb
  obtain ⟨form, kind, said, pre, num, prior, thr, keys, nthr, next, tol, wits, cuts, adds, conf, anc, del⟩ := e
  obtain ⟨tw, ks, nw, nx, ws, cs, aa, cf, an⟩ := u
  unfold evCells
  dsimp only at *
  subst e1 e2 e3 e4 e5 e6
  generalize zeroP thr = z1 at *
  generalize zeroP nthr = z2 at *
  have hk := fun w => r14_inception kind w
  have hr := fun w => r14_rotation kind w
  have hs := fun w => r14_established_kind kind w
  have HL := Lib.hid hL
  clear hL
  go_enter Tryz.func58, Tryz.ntmps58
  go_wp2_with fail
  refine (hs _).mono ?_
  rintro r w1 ⟨rfl, rfl⟩
  clear hs
  cases hE : estK kind with
  | false =>
    obtain ⟨i1, i2, i3⟩ := estK_false hE
    rw [i1] at hk
    rw [i2] at hr
    have HL2 := Lib.hid (show b = ((z1 && (decide (keys.length = 0) && (z2 && (decide (next.length = 0) && (tol == 0))))) && (((decide (wits.length = 0) && decide (conf.length = 0))) && (((decide (cuts.length = 0) && decide (adds.length = 0))) && del.isEmpty))) by rw [HL.out, hE, i1, i2, i3]; simp)
    clear HL hE i1 i2
    go_wp2_with fail
    refine (hz1 _ (ext_alloc _ _)).mono ?_
    rintro r w2 ⟨rfl, b1⟩
    have hrow := rowLater b1 (hA1_0 _ _)
    have hB := ext_trans (ext_alloc _ _) b1
    clear hz1 b1
    cases z1 with
    | false =>
      have HR := Lib.hid (show b = false by rw [HL2.out]; simp)
      go_wp2_with fail
      go_ret
      rw [HR.out]
      exact ⟨rfl, hB⟩
    | true =>
    have c8 := cell_of_row _ _ 8 _ _ _ hrow
    by_cases l_keys : keys.length = 0
    · have t_keys : ((keys.length : Int) == 0) = true := by rw [l_keys]; rfl
      have s_keys : ¬ (0 < keys.length) := by omega
      have c9 := cell_of_row _ _ 9 _ _ _ hrow
      have c10 := cell_of_row _ _ 10 _ _ _ hrow
      have c8 := cell_of_row _ _ 8 _ _ _ hrow
      go_wp2_with fail
      refine (hz2 _ hB).mono ?_
      rintro r w3 ⟨rfl, b2⟩
      have hrow2 := rowLater b2 hrow
      have hB2 := ext_trans hB b2
      clear hz2 b2 hrow hB c8 c9 c10
      have c1 := cell_of_row _ _ 1 _ _ _ hrow2
      have c11 := cell_of_row _ _ 11 _ _ _ hrow2
      have c12 := cell_of_row _ _ 12 _ _ _ hrow2
      have c13 := cell_of_row _ _ 13 _ _ _ hrow2
      have c14 := cell_of_row _ _ 14 _ _ _ hrow2
      have c15 := cell_of_row _ _ 15 _ _ _ hrow2
      have c16 := cell_of_row _ _ 16 _ _ _ hrow2
      have c18 := cell_of_row _ _ 18 _ _ _ hrow2
      cases z2 with
      | false =>
        have HR := Lib.hid (show b = false by rw [HL2.out]; simp)
        go_wp2_with fail
        go_ret
        rw [HR.out]
        exact ⟨rfl, hB2⟩
      | true =>
      by_cases l_next : next.length = 0
      · have t_next : ((next.length : Int) == 0) = true := by rw [l_next]; rfl
        have s_next : ¬ (0 < next.length) := by omega
        by_cases t0 : tol = 0
        · have t00 : (tol == 0) = true := by rw [t0]; rfl
          have t01 : (tol != 0) = false := by rw [t0]; rfl
          go_wp2_with fail
          refine (hk _).mono ?_
          rintro r w4 ⟨rfl, rfl⟩
          by_cases l_wits : wits.length = 0
          · have t_wits : ((wits.length : Int) == 0) = true := by rw [l_wits]; rfl
            have s_wits : ¬ (0 < wits.length) := by omega
            by_cases l_conf : conf.length = 0
            · have t_conf : ((conf.length : Int) == 0) = true := by rw [l_conf]; rfl
              have s_conf : ¬ (0 < conf.length) := by omega
              go_wp2_with fail
              refine (hr _).mono ?_
              rintro r w5 ⟨rfl, rfl⟩
              by_cases l_sum : cuts.length = 0 ∧ adds.length = 0
              · obtain ⟨l_cuts, l_adds⟩ := l_sum
                have HR := Lib.hid (show b = del.isEmpty by rw [HL2.out, l_keys, l_next, t00, l_wits, l_conf, l_cuts, l_adds]; simp)
                go_wp2_with fail
                go_ret
                rw [HR.out]
                exact ⟨rfl, hB2⟩
              · have s_sum : (0 : Int) < (cuts.length : Int) + (adds.length : Int) := by omega
                have s_sum2 : 0 < cuts.length + adds.length := by omega
                have HR := Lib.hid (show b = false by
                  rw [HL2.out]
                  by_cases l_cuts : cuts.length = 0
                  · rw [decide_eq_false (show ¬ adds.length = 0 by omega)]; simp
                  · rw [decide_eq_false l_cuts]; simp)
                clear l_sum
                go_wp2_with fail
                go_ret
                rw [HR.out]
                exact ⟨rfl, hB2⟩
            · have t_conf : ((conf.length : Int) == 0) = false := by rw [beq_eq_false_iff_ne]; omega
              have s_conf : 0 < conf.length := by omega
              have HR := Lib.hid (show b = false by rw [HL2.out, decide_eq_false l_conf]; simp)
              go_wp2_with fail
              go_ret
              rw [HR.out]
              exact ⟨rfl, hB2⟩
          · have t_wits : ((wits.length : Int) == 0) = false := by rw [beq_eq_false_iff_ne]; omega
            have s_wits : 0 < wits.length := by omega
            have HR := Lib.hid (show b = false by rw [HL2.out, decide_eq_false l_wits]; simp)
            go_wp2_with fail
            go_ret
            rw [HR.out]
            exact ⟨rfl, hB2⟩
        · have t00 : (tol == 0) = false := by simpa using t0
          have t01 : (tol != 0) = true := by simpa using t0
          have HR := Lib.hid (show b = false by rw [HL2.out, t00]; simp)
          go_wp2_with fail
          go_ret
          rw [HR.out]
          exact ⟨rfl, hB2⟩
      · have t_next : ((next.length : Int) == 0) = false := by rw [beq_eq_false_iff_ne]; omega
        have s_next : 0 < next.length := by omega
        have HR := Lib.hid (show b = false by rw [HL2.out, decide_eq_false l_next]; simp)
        go_wp2_with fail
        go_ret
        rw [HR.out]
        exact ⟨rfl, hB2⟩
    · have t_keys : ((keys.length : Int) == 0) = false := by rw [beq_eq_false_iff_ne]; omega
      have s_keys : 0 < keys.length := by omega
      have HR := Lib.hid (show b = false by rw [HL2.out, decide_eq_false l_keys]; simp)
      go_wp2_with fail
      go_ret
      rw [HR.out]
      exact ⟨rfl, hB⟩
  | true =>
    clear hz1 hz2
    rcases estK_true hE with rfl | rfl | rfl | rfl
    · have HL2 := Lib.hid (show b = ((decide (cuts.length = 0) && decide (adds.length = 0)) && del.isEmpty) by rw [HL.out, hE, show inK 1 = true from rfl, show rotK 1 = false from rfl]; simp)
      rw [show inK 1 = true from rfl] at hk
      rw [show rotK 1 = false from rfl] at hr
      clear HL hE
      go_wp2_with fail
      refine (hk _).mono ?_
      rintro r w4 ⟨rfl, rfl⟩
      go_wp2_with fail
      refine (hr _).mono ?_
      rintro r w5 ⟨rfl, rfl⟩
      by_cases l_sum : cuts.length = 0 ∧ adds.length = 0
      · obtain ⟨l_cuts, l_adds⟩ := l_sum
        have HR := Lib.hid (show b = del.isEmpty by rw [HL2.out, l_cuts, l_adds]; simp)
        go_wp2_with fail
        go_ret
        rw [HR.out]
        exact ⟨rfl, ext_alloc _ _⟩
      · have s_sum : (0 : Int) < (cuts.length : Int) + (adds.length : Int) := by omega
        have s_sum2 : 0 < cuts.length + adds.length := by omega
        have HR := Lib.hid (show b = false by
          rw [HL2.out]
          by_cases l_cuts : cuts.length = 0
          · rw [decide_eq_false (show ¬ adds.length = 0 by omega)]; simp
          · rw [decide_eq_false l_cuts]; simp)
        clear l_sum
        go_wp2_with fail
        go_ret
        rw [HR.out]
        exact ⟨rfl, ext_alloc _ _⟩
    · have HL2 := Lib.hid (show b = ((decide (cuts.length = 0) && decide (adds.length = 0)) && true) by rw [HL.out, hE, show inK 4 = true from rfl, show rotK 4 = false from rfl]; simp)
      rw [show inK 4 = true from rfl] at hk
      rw [show rotK 4 = false from rfl] at hr
      clear HL hE
      go_wp2_with fail
      refine (hk _).mono ?_
      rintro r w4 ⟨rfl, rfl⟩
      go_wp2_with fail
      refine (hr _).mono ?_
      rintro r w5 ⟨rfl, rfl⟩
      by_cases l_sum : cuts.length = 0 ∧ adds.length = 0
      · obtain ⟨l_cuts, l_adds⟩ := l_sum
        have HR := Lib.hid (show b = true by rw [HL2.out, l_cuts, l_adds]; simp)
        go_wp2_with fail
        go_ret
        rw [HR.out]
        exact ⟨rfl, ext_alloc _ _⟩
      · have s_sum : (0 : Int) < (cuts.length : Int) + (adds.length : Int) := by omega
        have s_sum2 : 0 < cuts.length + adds.length := by omega
        have HR := Lib.hid (show b = false by
          rw [HL2.out]
          by_cases l_cuts : cuts.length = 0
          · rw [decide_eq_false (show ¬ adds.length = 0 by omega)]; simp
          · rw [decide_eq_false l_cuts]; simp)
        clear l_sum
        go_wp2_with fail
        go_ret
        rw [HR.out]
        exact ⟨rfl, ext_alloc _ _⟩
    · have HL2 := Lib.hid (show b = ((decide (wits.length = 0) && decide (conf.length = 0)) && del.isEmpty) by rw [HL.out, hE, show inK 2 = false from rfl, show rotK 2 = true from rfl]; simp)
      rw [show inK 2 = false from rfl] at hk
      rw [show rotK 2 = true from rfl] at hr
      clear HL hE
      go_wp2_with fail
      refine (hk _).mono ?_
      rintro r w4 ⟨rfl, rfl⟩
      by_cases l_wits : wits.length = 0
      · have t_wits : ((wits.length : Int) == 0) = true := by rw [l_wits]; rfl
        have s_wits : ¬ (0 < wits.length) := by omega
        by_cases l_conf : conf.length = 0
        · have t_conf : ((conf.length : Int) == 0) = true := by rw [l_conf]; rfl
          have s_conf : ¬ (0 < conf.length) := by omega
          go_wp2_with fail
          refine (hr _).mono ?_
          rintro r w5 ⟨rfl, rfl⟩
          have HR := Lib.hid (show b = del.isEmpty by rw [HL2.out, l_wits, l_conf]; simp)
          go_wp2_with fail
          go_ret
          rw [HR.out]
          exact ⟨rfl, ext_alloc _ _⟩
        · have t_conf : ((conf.length : Int) == 0) = false := by rw [beq_eq_false_iff_ne]; omega
          have s_conf : 0 < conf.length := by omega
          have HR := Lib.hid (show b = false by rw [HL2.out, decide_eq_false l_conf]; simp)
          go_wp2_with fail
          go_ret
          rw [HR.out]
          exact ⟨rfl, ext_alloc _ _⟩
      · have t_wits : ((wits.length : Int) == 0) = false := by rw [beq_eq_false_iff_ne]; omega
        have s_wits : 0 < wits.length := by omega
        have HR := Lib.hid (show b = false by rw [HL2.out, decide_eq_false l_wits]; simp)
        go_wp2_with fail
        go_ret
        rw [HR.out]
        exact ⟨rfl, ext_alloc _ _⟩
    · have HL2 := Lib.hid (show b = ((decide (wits.length = 0) && decide (conf.length = 0)) && del.isEmpty) by rw [HL.out, hE, show inK 5 = false from rfl, show rotK 5 = true from rfl]; simp)
      rw [show inK 5 = false from rfl] at hk
      rw [show rotK 5 = true from rfl] at hr
      clear HL hE
      go_wp2_with fail
      refine (hk _).mono ?_
      rintro r w4 ⟨rfl, rfl⟩
      by_cases l_wits : wits.length = 0
      · have t_wits : ((wits.length : Int) == 0) = true := by rw [l_wits]; rfl
        have s_wits : ¬ (0 < wits.length) := by omega
        by_cases l_conf : conf.length = 0
        · have t_conf : ((conf.length : Int) == 0) = true := by rw [l_conf]; rfl
          have s_conf : ¬ (0 < conf.length) := by omega
          go_wp2_with fail
          refine (hr _).mono ?_
          rintro r w5 ⟨rfl, rfl⟩
          have HR := Lib.hid (show b = del.isEmpty by rw [HL2.out, l_wits, l_conf]; simp)
          go_wp2_with fail
          go_ret
          rw [HR.out]
          exact ⟨rfl, ext_alloc _ _⟩
        · have t_conf : ((conf.length : Int) == 0) = false := by rw [beq_eq_false_iff_ne]; omega
          have s_conf : 0 < conf.length := by omega
          have HR := Lib.hid (show b = false by rw [HL2.out, decide_eq_false l_conf]; simp)
          go_wp2_with fail
          go_ret
          rw [HR.out]
          exact ⟨rfl, ext_alloc _ _⟩
      · have t_wits : ((wits.length : Int) == 0) = false := by rw [beq_eq_false_iff_ne]; omega
        have s_wits : 0 < wits.length := by omega
        have HR := Lib.hid (show b = false by rw [HL2.out, decide_eq_false l_wits]; simp)
        go_wp2_with fail
        go_ret
        rw [HR.out]
        exact ⟨rfl, ext_alloc _ _⟩

end Go.Proofs.YtkinlobfdkeamaaGreatDoor

namespace Go.Proofs.YtkinlobfdkeamaaGreatDoor
open Go.RowKit

def freshP (next keys : List (List UInt8)) : Bool := keys.all fun k => !decide (digP k ∈ next)

structure FreW (w0 w : World) (b : Nat) (nv : Value) (next : List (List UInt8)) : Prop where
  c : w.cell? ⟨b, 0, none⟩ = some nv
  s : Strs w nv next
  low : Below w0.heap.size w0 w
theorem FreW.later {w0 w w' : World} {b : Nat} {nv : Value} {next : List (List UInt8)} (h : FreW w0 w b nv next) (bb : Below w.heap.size w w') : FreW w0 w' b nv next := ⟨cellLater bb h.c, h.s.later bb, ext_trans h.low bb⟩
theorem FreW.both {w0 w : World} {b : Nat} {nv : Value} {next : List (List UInt8)} (h : FreW w0 w b nv next) : w.cell? ⟨b, 0, none⟩ = some nv ∧ FreW w0 w b nv next := ⟨h.c, h⟩

set_option maxHeartbeats 4000000 in
set_option maxRecDepth 100000 in
theorem fresh1_any (k : List UInt8) (hk : k.length ≤ 1000000) (b : Nat) (nv : Value) (next : List (List UInt8)) (w : World) (hc : w.cell? ⟨b, 0, none⟩ = some nv) (hs : Strs w nv next) :
    Calls Tryz.prog 113 #[.string ⟨k.toArray⟩, .pointer (some ⟨b, 0, none⟩)] w fun e w' => e = .returned (.bool (decide (digP k ∈ next))) ∧ Below w.heap.size w w' := by
  have hdig := fun w => said_digest k (by omega) w
  have hW : FreW w w.drew b nv next := ⟨hc, hs.later ⟨rfl, rfl, rfl, Nat.le_refl _, fun _ _ => rfl⟩, (Below.refl _ _).drew⟩
  have hcon := fun w' (h : FreW w w' b nv next) => contains_any nv next (digP k) w' h.s
  generalize digP k = D at hdig hcon ⊢
  go_enter Tryz.func113, Tryz.ntmps113
  go_wp2_with fail
  go_region_held3 (fun w' => w'.cell? ⟨b, 0, none⟩ = some nv ∧ FreW w w' b nv next)
    (first | exact hW.both | exact (hW.later bb).both | assumption | go_keep)
    (first
      | (go_at_call 114; refine (hdig _).mono ?_; rintro e w' ⟨rfl, bb⟩)
      | (go_at_call 108; refine (hcon _ (hW.later bb)).mono ?_; rintro e w'' ⟨rfl, rfl⟩))
  have hlow := (hW.later bb).low
  go_simp
  go_wp2_with fail
  go_ret
  exact ⟨rfl, hlow⟩

theorem any_getD (l : List (List UInt8)) (p : List UInt8 → Bool) : l.any p = true ↔ ∃ i, i < l.length ∧ p (l.getD i []) = true := by
  rw [List.any_eq_true]
  constructor
  · rintro ⟨x, hx, hp⟩
    obtain ⟨i, hi, rfl⟩ := List.mem_iff_getElem.1 hx
    exact ⟨i, hi, by rw [List.getD_eq_getElem?_getD, List.getElem?_eq_getElem hi]; exact hp⟩
  · rintro ⟨i, hi, hp⟩
    exact ⟨_, getD_mem hi, hp⟩
theorem freshP_any (next keys : List (List UInt8)) : freshP next keys = !(keys.any fun k => decide (digP k ∈ next)) := by
  unfold freshP
  induction keys with
  | nil => rfl
  | cons a l ih => rw [List.all_cons, List.any_cons, ih, Bool.not_or]

set_option maxHeartbeats 4000000 in
set_option maxRecDepth 100000 in
theorem fresh_any (nv kv : Value) (next keys : List (List UInt8)) (w : World) (hn : Strs w nv next) (hk : Strs w kv keys) :
    Calls Tryz.prog 80 #[nv, kv] w fun e w' => e = .returned (.bool (freshP next keys)) ∧ Below w.heap.size w w' := by
  rw [freshP_any]
  obtain ⟨A, c, rfl⟩ : ∃ A c, nv = .slice A next.length c := by obtain ⟨⟨A, c, e, _⟩, _⟩ := hn; exact ⟨A, c, e⟩
  have hb := any_getD keys fun k => decide (digP k ∈ next)
  have hcf := fun (w1 : World) (h1 : Below w.heap.size w w1) (hc : w1.cell? ⟨w.heap.size, 0, none⟩ = some (.slice A next.length c)) =>
    containsFuncStr1 113 (.pointer (some ⟨w.heap.size, 0, none⟩)) (fun args w => MuLone.run_callFunc_enter Tryz.func113 (by kernel_rfl) rfl args w) kv keys.length (fun i => .string ⟨(keys.getD i []).toArray⟩) (fun i => decide (digP (keys.getD i []) ∈ next))
      (keys.any fun k => decide (digP k ∈ next)) w1 (hk.later h1).row
      (fun i hi w' hb' => fresh1_any (keys.getD i []) (hk.short _ (getD_mem hi)) w.heap.size _ next w' (cellLater hb' hc) (hn.later (ext_trans h1 hb'))) hb
  generalize (keys.any fun k => decide (digP k ∈ next)) = q at hcf ⊢
  go_enter Tryz.func80, Tryz.ntmps80
  go_wp2_with fail
  refine (hcf _ (ext_alloc _ _) (cell_of_row _ _ 0 _ _ _ (heap_alloc_new _ _))).mono ?_
  rintro e w1 ⟨rfl, b1⟩
  clear hcf
  go_wp2_with fail
  go_ret
  exact ⟨rfl, ext_trans (ext_alloc _ _) b1⟩

end Go.Proofs.YtkinlobfdkeamaaGreatDoor

