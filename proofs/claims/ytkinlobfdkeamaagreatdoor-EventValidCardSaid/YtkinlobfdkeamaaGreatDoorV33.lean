/- The commitments of an event, the reference's test. The first error of the fields of established events, the reference's way. -/
import Derived.Test.YtkinlobfdkeamaaGreatDoorV32
namespace Go.Proofs.YtkinlobfdkeamaaGreatDoor
open Go.RowKit

set_option maxHeartbeats 8000000 in
set_option maxRecDepth 100000 in
theorem r14_next (e : EvV) (u : EvS) (w : World) (h : EvM w e u) : Calls Tryz.prog 89 #[.agg (evCells e u)] w fun r w' => r = .returned (.bool (freshP e.next e.keys && (decide (e.next.length ≤ 8) && allP 1 e.next))) ∧ Below w.heap.size w w' := by
  have hall := fun w' (hb : Below w.heap.size w w') => r14_all 1 8 u.nx e.next w' (h.later hb).nx
  obtain ⟨⟨A1, c1, e1, hc1, hel⟩, hks, hsh⟩ := h.ks
  obtain ⟨⟨A2, c2, e2, hc2, hel'⟩, hnx, hsh'⟩ := h.nx
  clear h
  obtain ⟨form, kind, said, pre, num, prior, thr, keys, nthr, next, tol, wits, cuts, adds, conf, anc, del⟩ := e
  obtain ⟨tw, ks, nw, nx, ws, cs, aa, cf, an⟩ := u
  unfold evCells
  dsimp only at *
  subst e1 e2
  go_enter Tryz.func89, Tryz.ntmps89
  go_wp2_with fail
  go_loopw [10] (fun vk wr => ∃ k : Nat, k ≤ keys.length ∧ vk = .int .i64 (k : Int) ∧ (keys.take k).all (fun k => !decide (digP k ∈ next)) = true ∧ wr.heap[w.heap.size]? = some (.cells #[.int .i64 form, .int .i64 kind, .string ⟨said.toArray⟩, .string ⟨pre.toArray⟩, .int .i64 num, .string ⟨prior.toArray⟩, .int .i64 thr.num, tw, .slice A1 keys.length c1, .int .i64 nthr.num, nw, .slice A2 next.length c2, .int .i64 tol, ws, cs, aa, cf, an, .string ⟨del.toArray⟩] 35 (0, 0)) ∧ Below w.heap.size w wr) (fun vk _ => ((keys.length : Int) - intOf vk).toNat)
  case atStart => exact ⟨0, by omega, rfl, rfl, hA1_0 _ _, ext_alloc _ _⟩
  case round =>
    obtain ⟨k, hk, rfl, hal, hrow, hB⟩ := hrel
    by_cases hlt : k < keys.length
    · obtain ⟨ad, rfl, h0⟩ := hel k hlt
      have q0 := cellLater hB h0
      have j0 : (k : Int) < keys.length := by omega
      have hst := all_take_step keys (fun k => !decide (digP k ∈ next)) [] k hlt
      have hno := all_take_false keys (fun k => !decide (digP k ∈ next)) [] k hlt
      rw [hal, Bool.true_and] at hst
      have hkl := hsh _ (getD_mem hlt)
      have c11 := cell_of_row _ _ 11 _ _ _ hrow
      have hdg := fun w => r10_digest (keys.getD k []) (by omega) w
      clear hel h0 hal hall hsh hkl
      generalize keys.getD k [] = x at *
      generalize digP x = D at *
      have HST := Lib.hid hst
      have HNO := Lib.hid hno
      clear hst hno
      go_wp2_with fail
      obtain ⟨wo, rfl⟩ : ∃ wo : World, wo = wr := ⟨_, rfl⟩
      go_loopw [17] (fun vj wq => ∃ j : Nat, j ≤ next.length ∧ vj = .int .i64 (j : Int) ∧ D ∉ next.take j ∧ Below wo.heap.size wo wq) (fun vj _ => ((next.length : Int) - intOf vj).toNat)
      case atStart => exact ⟨0, by omega, rfl, by simp, Below.refl _ _⟩
      case round =>
        obtain ⟨j, hj, rfl, hnj, hB2⟩ := hrel
        by_cases hjk : j < next.length
        · obtain ⟨ad', rfl, hcj⟩ := hel' j hjk
          have hcj' := cellLater hB2 (cellLater hB hcj)
          have j1 : (j : Int) < next.length := by omega
          have hsn := take_snoc next j hjk
          have hin : next.getD j [] ∈ next := getD_mem hjk
          clear hel' hcj q0
          generalize next.getD j [] = y at *
          by_cases hxy : y = D
          · subst hxy
            have HR := Lib.hid (show freshP next keys = false from HNO.out (by simp [hin]))
            clear hsn hin hnj
            go_wp2_with fail
            refine (hdg _).mono ?_
            rintro e w1 ⟨rfl, b1⟩
            go_wp2_with fail
            go_ret
            rw [HR.out]
            exact ⟨rfl, ext_trans hB (ext_trans hB2 b1)⟩
          · have t0 : (y == D) = false := by simpa using hxy
            have hn' : D ∉ next.take (j + 1) := by
              rw [hsn, List.mem_append, List.mem_singleton]
              rintro (h | h)
              · exact hnj h
              · exact hxy h.symm
            have HN := Lib.hid hn'
            clear hn' hsn hin hnj
            go_wp2_with fail
            refine (hdg _).mono ?_
            rintro e w1 ⟨rfl, b1⟩
            go_wp2_with fail
            exact ⟨⟨j + 1, by omega, by go_num, HN.out, ext_trans hB2 b1⟩, by simp only [intOf]; omega⟩
        · have hjk' : j = next.length := by omega
          subst hjk'
          rw [List.take_length] at hnj
          have HY := Lib.hid (show (keys.take (k + 1)).all (fun k => !decide (digP k ∈ next)) = true by rw [HST.out, decide_eq_false hnj]; rfl)
          have hrow2 := rowLater hB2 hrow
          clear hnj hel' c11 hrow
          go_wp2_with fail
          exact ⟨⟨k + 1, by omega, by go_num, HY.out, hrow2, ext_trans hB hB2⟩, by simp only [intOf]; omega⟩
    · have hkl : k = keys.length := by omega
      subst hkl
      rw [List.take_length] at hal
      have HA := Lib.hid (show freshP next keys = true from hal)
      have hall' := hall _ hB
      have c11 := cell_of_row _ _ 11 _ _ _ hrow
      clear hal hel hel' hsh hsh' hall
      obtain ⟨q, hq⟩ : ∃ q, q = (decide (next.length ≤ 8) && allP 1 next) := ⟨_, rfl⟩
      rw [← hq] at hall'
      have HQ := Lib.hid hq
      clear hq
      go_wp2_with fail
      refine hall'.mono ?_
      rintro e w1 ⟨rfl, b1⟩
      clear hall'
      go_wp2_with fail
      go_ret
      rw [HA.out, ← HQ.out]
      exact ⟨by simp, ext_trans hB b1⟩

end Go.Proofs.YtkinlobfdkeamaaGreatDoor

namespace Go.Proofs.YtkinlobfdkeamaaGreatDoor
open Go.RowKit

def keysB (e : EvV) : Bool := decide (e.keys.length ≤ 8) && allP 2 e.keys
def nextB (e : EvV) : Bool := freshP e.next e.keys && (decide (e.next.length ≤ 8) && allP 1 e.next)
def estR (e : EvV) : Int := if e.keys.length = 0 ∨ keysB e = false then 13 else if thrP e.thr e.keys.length = false then 12 else if nextB e = false then 14 else if thrP e.nthr e.next.length = false then 12 else 0

set_option maxHeartbeats 8000000 in
set_option maxRecDepth 100000 in
theorem r14_established (e : EvV) (u : EvS) (w : World) (h : EvM w e u) : Calls Tryz.prog 54 #[.agg (evCells e u)] w fun r w' => r = .returned (.int .i64 (estR e)) ∧ Below w.heap.size w w' := by
  have h1 := fun w' (hb : Below w.heap.size w w') => r14_all 2 8 u.ks e.keys w' (h.later hb).ks
  change ∀ w', Below w.heap.size w w' → Calls Tryz.prog _ _ _ (fun r w' => r = .returned (.bool (keysB e)) ∧ _) at h1
  have h2 := fun w' (hb : Below w.heap.size w w') => r13_valid _ _ e.keys.length w' (h.later hb).thr
  have h4 := fun w' (hb : Below w.heap.size w w') => r14_next e u w' (h.later hb)
  change ∀ w', Below w.heap.size w w' → Calls Tryz.prog _ _ _ (fun r w' => r = .returned (.bool (nextB e)) ∧ _) at h4
  have h5 := fun w' (hb : Below w.heap.size w w') => r13_valid _ _ e.next.length w' (h.later hb).nthr
  obtain ⟨A1, c1, e1⟩ := h.ks.is
  obtain ⟨A2, c2, e2⟩ := h.nx.is
  clear h
  have hL : estR e = if e.keys.length = 0 ∨ keysB e = false then 13 else if thrP e.thr e.keys.length = false then 12 else if nextB e = false then 14 else if thrP e.nthr e.next.length = false then 12 else 0 := rfl
  obtain ⟨b, hb⟩ : ∃ b, b = estR e := ⟨_, rfl⟩
  rw [← hb] at hL ⊢
  clear hb
  generalize keysB e = q1 at *
  generalize thrP e.thr e.keys.length = q2 at *
  generalize nextB e = q4 at *
  generalize thrP e.nthr e.next.length = q5 at *
  obtain ⟨form, kind, said, pre, num, prior, thr, keys, nthr, next, tol, wits, cuts, adds, conf, anc, del⟩ := e
  obtain ⟨tw, ks, nw, nx, ws, cs, aa, cf, an⟩ := u
  unfold evCells at *
  dsimp only at *
  subst e1 e2
  have HL := Lib.hid hL
  clear hL
  go_enter Tryz.func54, Tryz.ntmps54
  by_cases l0 : keys.length = 0
  · have HR := Lib.hid (show b = 13 by rw [HL.out, if_pos (Or.inl l0)])
    have t0 : ((keys.length : Int) == 0) = true := by rw [l0]; rfl
    go_wp2_with fail
    go_ret
    rw [HR.out]
    exact ⟨rfl, ext_alloc _ _⟩
  have t0 : ((keys.length : Int) == 0) = false := by rw [beq_eq_false_iff_ne]; omega
  have t00 : ¬ keys.length = 0 := l0
  have HL1 := Lib.hid (show b = if q1 = false then 13 else if q2 = false then 12 else if q4 = false then 14 else if q5 = false then 12 else 0 by rw [HL.out]; simp only [l0, false_or])
  clear HL
  go_wp2_with fail
  refine (h1 _ (ext_alloc _ _)).mono ?_
  rintro r w1 ⟨rfl, b1⟩
  have hrow1 := rowLater b1 (hA1_0 _ _)
  have hB1 := ext_trans (ext_alloc _ _) b1
  clear h1 b1
  cases q1 with
  | false =>
    have HR := Lib.hid (show b = 13 by rw [HL1.out]; rfl)
    go_wp2_with fail
    go_ret
    rw [HR.out]
    exact ⟨rfl, hB1⟩
  | true =>
  have d6 := cell_of_row _ _ 6 _ _ _ hrow1
  have d7 := cell_of_row _ _ 7 _ _ _ hrow1
  have d8 := cell_of_row _ _ 8 _ _ _ hrow1
  go_wp2_with fail
  refine (h2 _ hB1).mono ?_
  rintro r w2 ⟨rfl, b2⟩
  have hrow2 := rowLater b2 hrow1
  have hB2 := ext_trans hB1 b2
  clear h2 b2 hrow1 hB1 d6 d7 d8
  cases q2 with
  | false =>
    have HR := Lib.hid (show b = 12 by rw [HL1.out]; rfl)
    go_wp2_with fail
    go_ret
    rw [HR.out]
    exact ⟨rfl, hB2⟩
  | true =>
  go_wp2_with (refine wpList_load_row rfl 35 _ rfl w.heap.size rfl 35 _ _ _ hrow2 Tryz.underlying35 rfl (by kernel_rfl) ?_)
  refine (h4 _ hB2).mono ?_
  rintro r w4 ⟨rfl, b4⟩
  have hrow4 := rowLater b4 hrow2
  have hB4 := ext_trans hB2 b4
  clear h4 b4 hrow2 hB2
  cases q4 with
  | false =>
    have HR := Lib.hid (show b = 14 by rw [HL1.out]; rfl)
    go_wp2_with fail
    go_ret
    rw [HR.out]
    exact ⟨rfl, hB4⟩
  | true =>
  have d9 := cell_of_row _ _ 9 _ _ _ hrow4
  have d10 := cell_of_row _ _ 10 _ _ _ hrow4
  have d11 := cell_of_row _ _ 11 _ _ _ hrow4
  go_wp2_with fail
  refine (h5 _ hB4).mono ?_
  rintro r w5 ⟨rfl, b5⟩
  have hB5 := ext_trans hB4 b5
  clear h5 b5 hrow4 hB4 d11 d9 d10
  cases q5 with
  | false =>
    have HR := Lib.hid (show b = 12 by rw [HL1.out]; rfl)
    go_wp2_with fail
    go_ret
    rw [HR.out]
    exact ⟨rfl, hB5⟩
  | true =>
    have HR := Lib.hid (show b = 0 by rw [HL1.out]; rfl)
    go_wp2_with fail
    go_ret
    rw [HR.out]
    exact ⟨rfl, hB5⟩

end Go.Proofs.YtkinlobfdkeamaaGreatDoor

