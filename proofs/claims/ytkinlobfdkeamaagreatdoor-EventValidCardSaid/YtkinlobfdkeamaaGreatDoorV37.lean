/- Whether a raw event is small. For the law's own walk: rows loaded under a guard and first in a region, four events in a row, texts of numbers. -/
import Derived.Test.YtkinlobfdkeamaaGreatDoorV22
import Derived.Test.YtkinlobfdkeamaaGreatDoorV27
import Derived.Test.YtkinlobfdkeamaaGreatDoorV28
import Derived.Test.YtkinlobfdkeamaaGreatDoorV29
import Derived.Test.YtkinlobfdkeamaaGreatDoorV36
import Derived.Test.YtkinlobfdkeamaaGreatDoorV34
import Derived.Test.YtkinlobfdkeamaaGreatDoorV32
import Derived.Test.YtkinlobfdkeamaaGreatDoorV35
import Derived.Test.YtkinlobfdkeamaaGreatDoorV03
import Derived.Great.BuildSlice
namespace Go.Proofs.YtkinlobfdkeamaaGreatDoor
open Go.RowKit

/-- A []string of whatever length. -/
structure StrsB (w : World) (v : Value) (l : List (List UInt8)) : Prop where
  val : ∃ A c, v = .slice A l.length c ∧ l.length ≤ c ∧ ∀ i, i < l.length → ∃ ad, A = some ad ∧ w.cell? (ad.add i) = some (.string ⟨(l.getD i []).toArray⟩)
  few : l.length ≤ 9223372036854775807
  short : ∀ s ∈ l, s.length ≤ 9223372036854775807
theorem StrsB.later {w w' : World} {v : Value} {l : List (List UInt8)} (h : StrsB w v l) (hb : Below w.heap.size w w') : StrsB w' v l := by
  obtain ⟨⟨A, c, rfl, hc, hi⟩, h2, h3⟩ := h
  exact ⟨⟨A, c, rfl, hc, fun i hl => by obtain ⟨ad, rfl, hcell⟩ := hi i hl; exact ⟨ad, rfl, cellLater hb hcell⟩⟩, h2, h3⟩
/-- Is a list of texts small? -/
def okL (l : List (List UInt8)) : Prop := l.length ≤ 12 ∧ ∀ s ∈ l, s.length ≤ 1000
theorem StrsB.small {w : World} {v : Value} {l : List (List UInt8)} (h : StrsB w v l) (ho : okL l) : Strs w v l :=
  ⟨h.val, by have := ho.1; omega, fun s hs => by have := ho.2 s hs; omega⟩

/-- The lengths of lists of lists. -/
structure LensB (w : World) (v : Value) (ns : List Nat) : Prop where
  val : ∃ A c, v = .slice A ns.length c ∧ ns.length ≤ c ∧ ∀ i, i < ns.length → ∃ ad B d, A = some ad ∧ w.cell? (ad.add i) = some (.slice B (ns.getD i 0) d)
  few : ns.length ≤ 9223372036854775807
  short : ∀ m ∈ ns, m ≤ 9223372036854775807
theorem LensB.later {w w' : World} {v : Value} {l : List Nat} (h : LensB w v l) (hb : Below w.heap.size w w') : LensB w' v l := by
  obtain ⟨⟨A, c, rfl, hc, hi⟩, h2, h3⟩ := h
  exact ⟨⟨A, c, rfl, hc, fun i hl => by obtain ⟨ad, B, d, rfl, hcell⟩ := hi i hl; exact ⟨ad, B, d, rfl, cellLater hb hcell⟩⟩, h2, h3⟩
def okN (ns : List Nat) : Prop := ns.length ≤ 10 ∧ ∀ m ∈ ns, m ≤ 10

theorem getD_mem' {α : Type} {l : List α} {d : α} {i : Nat} (hi : i < l.length) : l.getD i d ∈ l := by
  rw [List.getD_eq_getElem?_getD, List.getElem?_eq_getElem hi]; exact List.getElem_mem _

set_option maxHeartbeats 8000000 in
set_option maxRecDepth 100000 in
theorem small_any (e : EvV) (u : EvS) (n1 n2 : List Nat) (w : World) (h1 : StrsB w u.ks e.keys) (h2 : StrsB w u.nx e.next) (h3 : StrsB w u.ws e.wits) (h4 : StrsB w u.cs e.cuts) (h5 : StrsB w u.aa e.adds) (h6 : StrsB w u.cf e.conf)
    (h7 : LensB w u.tw n1) (h8 : LensB w u.nw n2) (h9 : ∃ A c, u.an = .slice A e.anc.length c) :
    Calls Tryz.prog 10 #[.agg (evCells e u)] w fun r w' => (∃ b : Bool, r = .returned (.bool b) ∧ (b = true → (okL e.keys ∧ okL e.next ∧ okL e.wits ∧ okL e.cuts ∧ okL e.adds ∧ okL e.conf) ∧ okN n1 ∧ okN n2 ∧ e.anc.length ≤ 20)) ∧ Below w.heap.size w w' := by
  obtain ⟨A9, c9, e9⟩ := h9
  obtain ⟨form, kind, said, pre, num, prior, thr, keys, nthr, next, tol, wits, cuts, adds, conf, anc, del⟩ := e
  obtain ⟨tw, ks, nw, nx, ws, cs, aa, cf, an⟩ := u
  unfold evCells
  dsimp only at *
  subst e9
  obtain ⟨A1, c1, rfl⟩ : ∃ A c, ks = .slice A keys.length c := by obtain ⟨⟨A, c, e, _⟩, _⟩ := h1; exact ⟨A, c, e⟩
  obtain ⟨A2, c2, rfl⟩ : ∃ A c, nx = .slice A next.length c := by obtain ⟨⟨A, c, e, _⟩, _⟩ := h2; exact ⟨A, c, e⟩
  obtain ⟨A3, c3, rfl⟩ : ∃ A c, ws = .slice A wits.length c := by obtain ⟨⟨A, c, e, _⟩, _⟩ := h3; exact ⟨A, c, e⟩
  obtain ⟨A4, c4, rfl⟩ : ∃ A c, cs = .slice A cuts.length c := by obtain ⟨⟨A, c, e, _⟩, _⟩ := h4; exact ⟨A, c, e⟩
  obtain ⟨A5, c5, rfl⟩ : ∃ A c, aa = .slice A adds.length c := by obtain ⟨⟨A, c, e, _⟩, _⟩ := h5; exact ⟨A, c, e⟩
  obtain ⟨A6, c6, rfl⟩ : ∃ A c, cf = .slice A conf.length c := by obtain ⟨⟨A, c, e, _⟩, _⟩ := h6; exact ⟨A, c, e⟩
  obtain ⟨A7, c7, rfl⟩ : ∃ A c, tw = .slice A n1.length c := by obtain ⟨⟨A, c, e, _⟩, _⟩ := h7; exact ⟨A, c, e⟩
  obtain ⟨A8, c8, rfl⟩ : ∃ A c, nw = .slice A n2.length c := by obtain ⟨⟨A, c, e, _⟩, _⟩ := h8; exact ⟨A, c, e⟩
  have hrow := fun W (hb : Below w.heap.size w W) (hr : W.heap[w.heap.size + 1]? = some (.cells #[.slice A1 keys.length c1, .slice A2 next.length c2, .slice A3 wits.length c3, .slice A4 cuts.length c4, .slice A5 adds.length c5, .slice A6 conf.length c6] 32 (0, 0))) (k : Nat) (hk : k < 6) =>
    (show ∃ A c, W.cell? ⟨w.heap.size + 1, k, none⟩ = some (.slice A (([keys, next, wits, cuts, adds, conf].getD k []).length) c) ∧ StrsB W (.slice A (([keys, next, wits, cuts, adds, conf].getD k []).length) c) ([keys, next, wits, cuts, adds, conf].getD k []) from by
      have h6' : k = 0 ∨ k = 1 ∨ k = 2 ∨ k = 3 ∨ k = 4 ∨ k = 5 := by omega
      rcases h6' with rfl | rfl | rfl | rfl | rfl | rfl
      · exact ⟨A1, c1, cell_of_row _ _ 0 _ _ _ hr, h1.later hb⟩
      · exact ⟨A2, c2, cell_of_row _ _ 1 _ _ _ hr, h2.later hb⟩
      · exact ⟨A3, c3, cell_of_row _ _ 2 _ _ _ hr, h3.later hb⟩
      · exact ⟨A4, c4, cell_of_row _ _ 3 _ _ _ hr, h4.later hb⟩
      · exact ⟨A5, c5, cell_of_row _ _ 4 _ _ _ hr, h5.later hb⟩
      · exact ⟨A6, c6, cell_of_row _ _ 5 _ _ _ hr, h6.later hb⟩)
  have HROW : PLift _ := PLift.up hrow
  have H7 : PLift _ := PLift.up h7
  have H8 : PLift _ := PLift.up h8
  clear hrow h1 h2 h3 h4 h5 h6 h7 h8
  go_enter Tryz.func10, Tryz.ntmps10
  go_wp2_with fail
  go_loopw [25] (fun v25 wr => ∃ k : Nat, k ≤ 6 ∧ v25 = .int .i64 (k : Int) ∧ (∀ i, i < k → okL ([keys, next, wits, cuts, adds, conf].getD i [])) ∧ Below w.heap.size w wr ∧ wr.heap[w.heap.size]? = some (.cells #[.int .i64 form, .int .i64 kind, .string ⟨said.toArray⟩, .string ⟨pre.toArray⟩, .int .i64 num, .string ⟨prior.toArray⟩, .int .i64 thr.num, .slice A7 n1.length c7, .slice A1 keys.length c1, .int .i64 nthr.num, .slice A8 n2.length c8, .slice A2 next.length c2, .int .i64 tol, .slice A3 wits.length c3, .slice A4 cuts.length c4, .slice A5 adds.length c5, .slice A6 conf.length c6, .slice A9 anc.length c9, .string ⟨del.toArray⟩] 35 (0, 0)) ∧ wr.heap[w.heap.size + 1]? = some (.cells #[.slice A1 keys.length c1, .slice A2 next.length c2, .slice A3 wits.length c3, .slice A4 cuts.length c4, .slice A5 adds.length c5, .slice A6 conf.length c6] 32 (0, 0))) (fun v25 _ => ((6 : Int) - intOf v25).toNat)
  case atStart => exact ⟨0, by omega, rfl, fun i hi => by omega, extA2 _ _ _, hA2_0 _ _ _, hA2_1 _ _ _⟩
  case round =>
    obtain ⟨k, hk, rfl, hall, hB, hr0, hr1⟩ := hrel
    have HALL : PLift _ := PLift.up hall
    have HR0 : PLift _ := PLift.up hr0
    have HR1 : PLift _ := PLift.up hr1
    clear hall hr0 hr1
    by_cases hk6 : k < 6
    · have k0 : (k : Int) < 6 := by omega
      obtain ⟨B, d, hcell, hst⟩ := HROW.down _ hB HR1.down k hk6
      have HNEXT : PLift (okL ([keys, next, wits, cuts, adds, conf].getD k []) → ∀ i, i < k + 1 → okL ([keys, next, wits, cuts, adds, conf].getD i [])) := PLift.up (fun h i hi => by
        by_cases e : i = k
        · rw [e]; exact h
        · exact HALL.down i (by omega))
      generalize [keys, next, wits, cuts, adds, conf].getD k [] = l at hcell hst HNEXT
      obtain ⟨⟨B', d', he, hcd, hel⟩, hfew, hsh⟩ := hst
      cases he
      by_cases h12 : l.length ≤ 12
      · have l12 : ¬ ((12 : Int) < (l.length : Int)) := by omega
        go_wp2_with fail
        obtain ⟨wo, rfl⟩ : ∃ wo : World, wo = wr := ⟨_, rfl⟩
        go_loopw [34] (fun v34 wq => ∃ j : Nat, j ≤ l.length ∧ v34 = .int .i64 (j : Int) ∧ (∀ i, i < j → (l.getD i []).length ≤ 1000) ∧ wq = wo) (fun v34 _ => ((l.length : Int) - intOf v34).toNat)
        case atStart => exact ⟨0, by omega, rfl, fun i hi => by omega, rfl⟩
        case round =>
          obtain ⟨j, hj, rfl, hss, rfl⟩ := hrel
          have HSS : PLift _ := PLift.up hss
          clear hss
          by_cases hjl : j < l.length
          · obtain ⟨ad, rfl, hcj⟩ := hel j hjl
            have j1 : (j : Int) < l.length := by omega
            have HN2 : PLift ((l.getD j []).length ≤ 1000 → ∀ i, i < j + 1 → (l.getD i []).length ≤ 1000) := PLift.up (fun h i hi => by
              by_cases e : i = j
              · rw [e]; exact h
              · exact HSS.down i (by omega))
            clear hel hsh
            generalize l.getD j [] = y at hcj HN2
            by_cases hy : y.length ≤ 1000
            · have y1 : ¬ ((1000 : Int) < (y.length : Int)) := by omega
              go_wp2_with fail
              exact ⟨⟨j + 1, by omega, by go_num, HN2.down hy, by first | rfl | trivial⟩, by simp only [intOf]; omega⟩
            · have y1 : (1000 : Int) < (y.length : Int) := by omega
              go_wp2_with fail
              go_ret
              exact ⟨⟨false, rfl, by simp⟩, hB⟩
          · have hjl' : j = l.length := by omega
            subst hjl'
            have hok : okL l := ⟨h12, fun s hs => by
              obtain ⟨i, hi, rfl⟩ := List.mem_iff_getElem.1 hs
              have := HSS.down i hi
              rw [List.getD_eq_getElem?_getD, List.getElem?_eq_getElem hi] at this
              exact this⟩
            clear hel hsh
            go_wp2_with fail
            exact ⟨⟨k + 1, by omega, by go_num, HNEXT.down hok, hB, HR0.down, HR1.down⟩, by simp only [intOf]; omega⟩
      · have l12 : (12 : Int) < (l.length : Int) := by omega
        clear hel hsh
        go_wp2_with fail
        go_ret
        exact ⟨⟨false, rfl, by simp⟩, hB⟩
    · have hk6' : k = 6 := by omega
      subst hk6'
      rw [show ((6 : Nat) : Int) = 6 from rfl]
      have d7 := cell_of_row _ _ 7 _ _ _ HR0.down
      have d10 := cell_of_row _ _ 10 _ _ _ HR0.down
      have HB : PLift _ := PLift.up hB
      go_wp2_with fail
      obtain ⟨wz, rfl⟩ : ∃ wz : World, wz = wr := ⟨_, rfl⟩
      have HS0 : PLift _ := PLift.up (rowLater (ext_alloc wz (.cells #[.slice A7 n1.length c7, .slice A8 n2.length c8] 29)) HR0.down)
      have HS2 : PLift _ := PLift.up (hA1_0 wz (.cells #[.slice A7 n1.length c7, .slice A8 n2.length c8] 29))
      have HSB : PLift _ := PLift.up (ext_trans hB (ext_alloc wz (.cells #[.slice A7 n1.length c7, .slice A8 n2.length c8] 29)))
      clear d7 d10
      go_loopw [51] (fun v51 wq => ∃ k : Nat, k ≤ 2 ∧ v51 = .int .i64 (k : Int) ∧ (∀ i, i < k → okN ([n1, n2].getD i [])) ∧ Below w.heap.size w wq ∧ wq.heap[w.heap.size]? = some (.cells #[.int .i64 form, .int .i64 kind, .string ⟨said.toArray⟩, .string ⟨pre.toArray⟩, .int .i64 num, .string ⟨prior.toArray⟩, .int .i64 thr.num, .slice A7 n1.length c7, .slice A1 keys.length c1, .int .i64 nthr.num, .slice A8 n2.length c8, .slice A2 next.length c2, .int .i64 tol, .slice A3 wits.length c3, .slice A4 cuts.length c4, .slice A5 adds.length c5, .slice A6 conf.length c6, .slice A9 anc.length c9, .string ⟨del.toArray⟩] 35 (0, 0)) ∧ wq.heap[wz.heap.size]? = some (.cells #[.slice A7 n1.length c7, .slice A8 n2.length c8] 29 (0, 0))) (fun v51 _ => ((2 : Int) - intOf v51).toNat)
      case atStart => exact ⟨0, by omega, rfl, fun i hi => by omega, HSB.down, HS0.down, HS2.down⟩
      case round =>
        obtain ⟨k, hk, rfl, hall2, hB2, hr0, hr2⟩ := hrel
        have HALL2 : PLift _ := PLift.up hall2
        have HR02 : PLift _ := PLift.up hr0
        have HR2 : PLift _ := PLift.up hr2
        clear hall2 hr0 hr2
        by_cases hk2 : k < 2
        · have k0 : (k : Int) < 2 := by omega
          obtain ⟨B, d, hcell, hst⟩ : ∃ B d, wr.cell? ⟨wz.heap.size, k, none⟩ = some (.slice B ([n1, n2].getD k []).length d) ∧ LensB wr (.slice B ([n1, n2].getD k []).length d) ([n1, n2].getD k []) := by
            have h2' : k = 0 ∨ k = 1 := by omega
            rcases h2' with rfl | rfl
            · exact ⟨A7, c7, cell_of_row _ _ 0 _ _ _ HR2.down, H7.down.later hB2⟩
            · exact ⟨A8, c8, cell_of_row _ _ 1 _ _ _ HR2.down, H8.down.later hB2⟩
          have HNEXT : PLift (okN ([n1, n2].getD k []) → ∀ i, i < k + 1 → okN ([n1, n2].getD i [])) := PLift.up (fun h i hi => by
            by_cases e : i = k
            · rw [e]; exact h
            · exact HALL2.down i (by omega))
          generalize [n1, n2].getD k [] = l at hcell hst HNEXT
          obtain ⟨⟨B', d', he, hcd, hel⟩, hfew, hsh⟩ := hst
          cases he
          by_cases h12 : l.length ≤ 10
          · have l12 : ¬ ((10 : Int) < (l.length : Int)) := by omega
            go_wp2_with fail
            obtain ⟨wo, rfl⟩ : ∃ wo : World, wo = wr := ⟨_, rfl⟩
            go_loopw [60] (fun v60 wq => ∃ j : Nat, j ≤ l.length ∧ v60 = .int .i64 (j : Int) ∧ (∀ i, i < j → l.getD i 0 ≤ 10) ∧ wq = wo) (fun v60 _ => ((l.length : Int) - intOf v60).toNat)
            case atStart => exact ⟨0, by omega, rfl, fun i hi => by omega, rfl⟩
            case round =>
              obtain ⟨j, hj, rfl, hss, rfl⟩ := hrel
              have HSS : PLift _ := PLift.up hss
              clear hss
              by_cases hjl : j < l.length
              · obtain ⟨ad, C, d2, rfl, hcj⟩ := hel j hjl
                have j1 : (j : Int) < l.length := by omega
                have HN2 : PLift (l.getD j 0 ≤ 10 → ∀ i, i < j + 1 → l.getD i 0 ≤ 10) := PLift.up (fun h i hi => by
                  by_cases e : i = j
                  · rw [e]; exact h
                  · exact HSS.down i (by omega))
                have hjm := hsh _ (getD_mem' (d := 0) hjl)
                clear hel hsh
                generalize l.getD j 0 = y at hcj HN2 hjm
                by_cases hy : y ≤ 10
                · have y1 : ¬ ((10 : Int) < (y : Int)) := by omega
                  go_wp2_with fail
                  exact ⟨⟨j + 1, by omega, by go_num, HN2.down hy, by first | rfl | trivial⟩, by simp only [intOf]; omega⟩
                · have y1 : (10 : Int) < (y : Int) := by omega
                  go_wp2_with fail
                  go_ret
                  exact ⟨⟨false, rfl, by simp⟩, hB2⟩
              · have hjl' : j = l.length := by omega
                subst hjl'
                have hok : okN l := ⟨h12, fun s hs => by
                  obtain ⟨i, hi, rfl⟩ := List.mem_iff_getElem.1 hs
                  have := HSS.down i hi
                  rw [List.getD_eq_getElem?_getD, List.getElem?_eq_getElem hi] at this
                  exact this⟩
                clear hel hsh
                go_wp2_with fail
                exact ⟨⟨k + 1, by omega, by go_num, HNEXT.down hok, hB2, HR02.down, HR2.down⟩, by simp only [intOf]; omega⟩
          · have l12 : (10 : Int) < (l.length : Int) := by omega
            clear hel hsh
            go_wp2_with fail
            go_ret
            exact ⟨⟨false, rfl, by simp⟩, hB2⟩
        · have hk2' : k = 2 := by omega
          subst hk2'
          have HFIN : PLift ((okL keys ∧ okL next ∧ okL wits ∧ okL cuts ∧ okL adds ∧ okL conf) ∧ okN n1 ∧ okN n2) := PLift.up ⟨⟨HALL.down 0 (by omega), HALL.down 1 (by omega), HALL.down 2 (by omega), HALL.down 3 (by omega), HALL.down 4 (by omega), HALL.down 5 (by omega)⟩, HALL2.down 0 (by omega), HALL2.down 1 (by omega)⟩
          have q2 := cell_of_row _ _ 2 _ _ _ HR02.down
          have q3 := cell_of_row _ _ 3 _ _ _ HR02.down
          have q5 := cell_of_row _ _ 5 _ _ _ HR02.down
          have q17 := cell_of_row _ _ 17 _ _ _ HR02.down
          have q18 := cell_of_row _ _ 18 _ _ _ HR02.down
          by_cases h20 : anc.length ≤ 20
          · have l20 : (anc.length : Int) ≤ 20 := by omega
            go_wp2_with fail
            go_ret
            refine ⟨⟨_, rfl, fun _ => ?_⟩, hB2⟩
            exact ⟨HFIN.down.1, HFIN.down.2.1, HFIN.down.2.2, h20⟩
          · have l20 : ¬ ((anc.length : Int) ≤ 20) := by omega
            go_wp2_with fail
            go_ret
            exact ⟨rfl, hB2⟩

end Go.Proofs.YtkinlobfdkeamaaGreatDoor

namespace Go.Proofs.YtkinlobfdkeamaaGreatDoor
open Go.RowKit

theorem wpList_load_rowG {P : Program} {ops : Array Oper} {rest : List Oper} {o : Oper} {a : Act} {w : World} {Q : Exit → Act → World → Prop} (hw : Region.wanted o (yielded ops a.tmps) = true) (ty : TypeId) (x : Operand) (ho : o.op = .load ty x)
    (g : Nat) (hx : a.eval x = .pointer (some ⟨g, 0, none⟩)) (t : TypeId) (cs : Array Value) (fr : Nat × Nat) (d : TypeDesc) (hg : w.heap[g]? = some (.cells cs t fr))
    (hu : P.underlying ty = some d) (hd : (match d with | .struct _ | .array _ _ => true | _ => false) = true) (hi : (P.info? ty).map (·.size) = some cs.size)
    (h : wpList P ops Q rest (a.put o.dst (.agg cs)) w) : wpList P ops Q (o :: rest) a w :=
  wpList_step fun _ hK => by
    rw [if_pos hw]
    exact wp_load_row ty x ho g hx t cs fr d hg hu hd hi (hK _ _ h)

theorem yieldsIf_load_row {P : Program} {ops : Array Oper} {S : World → Prop} {op : Oper} {a : Act} (hw : Region.wanted op (yielded ops a.tmps) = true) (ty : TypeId) (x : Operand) (ho : op.op = .load ty x)
    (g : Nat) (hx : a.eval x = .pointer (some ⟨g, 0, none⟩)) (t : TypeId) (cs : Array Value) (fr : Nat × Nat) (d : TypeDesc) (hS : ∀ w, S w → w.heap[g]? = some (.cells cs t fr))
    (hu : P.underlying ty = some d) (hd : (match d with | .struct _ | .array _ _ => true | _ => false) = true) (hi : (P.info? ty).map (·.size) = some cs.size) : YieldsIf P ops S op (.agg cs) a :=
  .inl ⟨hw, fun w hw' => by
    unfold execOp
    simp only [ho, hx, Instr.loadAt, Instr.sureAddr, Sem.run_bind, Sem.run_pure, Result.andThen_ok, run_loadVar_row w g t ty cs fr d (hS w hw') hu hd hi]⟩

theorem hexS_inj {a b : Nat} (h : hexS a = hexS b) : a = b := by
  unfold hexS at h
  have h1 := congrArg (fun (x : ByteArray) => x.data.toList) h
  exact hexL_inj (by simpa using h1)
theorem phV_inj {t : ByteArray} {v v' : Value} (h : phV t v) (h' : phV t v') : v = v' := by
  rcases h with ⟨n, hn, e, rfl⟩ | ⟨hno, rfl⟩
  · rcases h' with ⟨m, hm, e', rfl⟩ | ⟨hno, rfl⟩
    · rw [e] at e'
      rw [hexS_inj e']
    · exact absurd e (hno n hn)
  · rcases h' with ⟨m, hm, e', rfl⟩ | ⟨_, rfl⟩
    · exact absurd e' (hno m hm)
    · rfl
theorem phV_form {t : ByteArray} {v : Value} (h : phV t v) : ∃ (n : Int) (b : Bool), v = .tuple #[.int .i64 n, .bool b] := by
  rcases h with ⟨n, _, _, rfl⟩ | ⟨_, rfl⟩
  · exact ⟨_, _, rfl⟩
  · exact ⟨_, _, rfl⟩

/-- The text of a number, or none. -/
def hexT (k : Int) : List UInt8 := if k < 0 then [] else hexL k.toNat
theorem hexT_len (k : Int) (hk : k ≤ 9223372036854775807) : (hexT k).length ≤ 16 := by
  unfold hexT
  split
  · simp
  · exact hexL_len _ 15 (by omega)
theorem Hex_int (k : Int) (hk : k ≤ 9223372036854775807) (w : World) (hG : Glob w) : Calls Tryz.prog 6 #[.int .i64 k] w fun e w' => e = .returned (.string ⟨(hexT k).toArray⟩) ∧ Below w.heap.size w w' := by
  by_cases h : k < 0
  · refine (Hex_neg k h w).mono ?_
    rintro e w' ⟨rfl, rfl⟩
    exact ⟨by simp [hexT, h], Below.refl _ _⟩
  · obtain ⟨n, rfl⟩ := Int.eq_ofNat_of_zero_le (show 0 ≤ k by omega)
    refine (Hex_nat n (by omega) w hG).mono ?_
    rintro e w' ⟨rfl, hb⟩
    exact ⟨by rw [hexT, if_neg h]; rfl, hb⟩
theorem r14_Hex_int (k : Int) (hk : k ≤ 9223372036854775807) (w : World) (hG : Glob w) : Calls Tryz.prog 22 #[.int .i64 k] w fun e w' => e = .returned (.string ⟨(hexT k).toArray⟩) ∧ Below w.heap.size w w' := by
  by_cases h : k < 0
  · refine (r14_Hex_neg k h w).mono ?_
    rintro e w' ⟨rfl, rfl⟩
    exact ⟨by simp [hexT, h], Below.refl _ _⟩
  · obtain ⟨n, rfl⟩ := Int.eq_ofNat_of_zero_le (show 0 ≤ k by omega)
    refine (r14_Hex_nat n (by omega) w hG).mono ?_
    rintro e w' ⟨rfl, hb⟩
    exact ⟨by rw [hexT, if_neg h]; rfl, hb⟩

/-- Four events in a row. -/
def four (E0 E1 E2 E3 : Array Value) : Array Value := E0 ++ E1 ++ E2 ++ E3
theorem four_at {w : World} {B : Nat} {T : TypeId} {E0 E1 E2 E3 : Array Value} (h : w.heap[B]? = some (.cells (four E0 E1 E2 E3) T (0, 0))) (h0 : E0.size = 19) (h1 : E1.size = 19) (h2 : E2.size = 19) (_h3 : E3.size = 19) :
    w.rangeAt B 0 E0.toList ∧ w.rangeAt B 19 E1.toList ∧ w.rangeAt B 38 E2.toList ∧ w.rangeAt B 57 E3.toList := by
  have key : ∀ (o j : Nat) (v : Value), (four E0 E1 E2 E3)[o + j]? = some v → w.cell? ⟨B, o + j, none⟩ = some v := fun o j v e => by
    rw [cell_of_row _ _ _ _ _ _ h]; exact e
  refine ⟨fun j v hj => key 0 j v ?_, fun j v hj => key 19 j v ?_, fun j v hj => key 38 j v ?_, fun j v hj => key 57 j v ?_⟩
  all_goals
    have hlt := (List.getElem?_eq_some_iff.1 hj).1
    simp only [Array.length_toList] at hlt
    rw [Array.getElem?_toList] at hj
    unfold four
  · rw [Nat.zero_add, Array.getElem?_append_left (by simp [h0, h1, h2]; omega), Array.getElem?_append_left (by simp [h0, h1]; omega), Array.getElem?_append_left (by omega)]
    exact hj
  · rw [Array.getElem?_append_left (by simp [h0, h1, h2]; omega), Array.getElem?_append_left (by simp [h0, h1]; omega), Array.getElem?_append_right (by omega), h0, Nat.add_sub_cancel_left]
    exact hj
  · rw [Array.getElem?_append_left (by simp [h0, h1, h2]; omega), Array.getElem?_append_right (by simp [h0, h1]), show 38 + j - (E0 ++ E1).size = j by simp [h0, h1]]
    exact hj
  · rw [Array.getElem?_append_right (by simp [h0, h1, h2]), show 57 + j - (E0 ++ E1 ++ E2).size = j by simp [h0, h1, h2]]
    exact hj

theorem EvM.one {w : World} {e : EvV} {u : EvS} (h : EvM w e u) : (evCells e u).all (·.oneCell') = true := by
  obtain ⟨A1, c1, e1⟩ := h.ks.is
  obtain ⟨A2, c2, e2⟩ := h.nx.is
  obtain ⟨A3, c3, e3⟩ := h.ws.is
  obtain ⟨A4, c4, e4⟩ := h.cs.is
  obtain ⟨A5, c5, e5⟩ := h.aa.is
  obtain ⟨A6, c6, e6⟩ := h.cf.is
  obtain ⟨A7, c7, e7⟩ := h.an.is
  exact evCells_one _ _ (fracss_one h.tw) (by rw [e1]; rfl) (fracss_one h.nw) (by rw [e2]; rfl) (by rw [e3]; rfl) (by rw [e4]; rfl) (by rw [e5]; rfl) (by rw [e6]; rfl) (by rw [e7]; rfl)

/-- What stands along the law: the memory that came in, the dice, the raw event's box. -/
structure LawS (D : Nat) (A : Option Addr) (n c : Nat) (C0 : Array Value) (w W : World) : Prop where
  below : Below w.heap.size w W
  dice : Dice D A n c W
  row : W.heap[w.heap.size]? = some (.cells C0 35 (0, 0))
theorem LawS.step {D : Nat} {A : Option Addr} {n c : Nat} {C0 : Array Value} {w W W' : World} (h : LawS D A n c C0 w W) (hD : w.heap.size < D) (k : KitW D A n c W W') : LawS D A n c C0 w W' :=
  ⟨k.b.below h.below (by omega), k.d, k.b.row (by omega) h.row⟩
theorem LawS.later {D : Nat} {A : Option Addr} {n c : Nat} {C0 : Array Value} {w W W' : World} (h : LawS D A n c C0 w W) (b : Below W.heap.size W W') : LawS D A n c C0 w W' :=
  ⟨ext_trans h.below b, h.dice.later b, rowLater b h.row⟩
theorem LawS.laid {D : Nat} {A : Option Addr} {n c : Nat} {C0 : Array Value} {w W : World} (h : LawS D A n c C0 w W) (o : Obj) (cs : Array Value) : KitW D A n c W ((W.alloc o).setRow W.heap.size cs) :=
  ((KitW.refl h.dice).later (ext_alloc W o)).setRow h.dice (Nat.le_refl _) cs

theorem kEvI : (Tryz.prog.info? 35).map (fun i => (i.zero, i.size)) = some (some (.agg zeroEv), 19) := by kernel_rfl
theorem wp_four {o : Oper} {a : Act} {w : World} {K : Act → World → Prop} {Q : Exit → Act → World → Prop} (parts : Array (Nat × Operand)) (ho : o.op = .buildSlice 42 4 parts) (C1 C2 C3 C0 : Array Value) (e1 e2 e3 e0 : EvV) (u1 u2 u3 u0 : EvS)
    (h1 : C1 = evCells e1 u1) (h2 : C2 = evCells e2 u2) (h3 : C3 = evCells e3 u3) (h0 : C0 = evCells e0 u0) (hp : (parts.map fun (i, x) => (i, a.eval x)).toList = [(0, .agg C1), (1, .agg C2), (2, .agg C3), (3, .agg C0)])
    (h : K (a.put o.dst (.slice (some ⟨w.heap.size, 0, none⟩) 4 4)) (w.alloc (.cells (four C1 C2 C3 C0) 35))) : o.wp Tryz.prog a w K Q := by
  cases hie : Tryz.prog.info? 35 with
  | none => have := kEvI; rw [hie] at this; exact absurd this (by simp)
  | some ie =>
    have hk := kEvI
    rw [hie] at hk
    simp only [Option.map_some, Option.some.injEq, Prod.mk.injEq] at hk
    refine wp_buildSlice 42 35 4 parts ho (four C1 C2 C3 C0) ie (.agg zeroEv) Tryz.underlying42 hie hk.1 (by rw [hk.2]; omega) (by rw [hk.2]; omega) ?_ h
    rw [hp, hk.2, h1, h2, h3, h0]
    kernel_rfl

theorem laid_below (W : World) (o : Obj) (cs : Array Value) : Below W.heap.size W ((W.alloc o).setRow W.heap.size cs) := by
  have h := ext_alloc W o
  exact ⟨h.os, h.tape, h.output, by rw [size_setRow]; exact h.size, fun k hk => by rw [setRow_other _ _ _ _ (by omega)]; exact h.block k hk⟩

end Go.Proofs.YtkinlobfdkeamaaGreatDoor

