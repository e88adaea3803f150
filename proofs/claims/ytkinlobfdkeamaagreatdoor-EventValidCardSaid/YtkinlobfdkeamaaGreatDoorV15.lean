/- The equality of thresholds, the reference's. Thresholds that say nothing, on both sides. Events in memory. -/
import Derived.Test.YtkinlobfdkeamaaGreatDoorV14
import Derived.Test.YtkinlobfdkeamaaGreatDoorV03
import Derived.Deep.QuietTactic
import Derived.BigQuiet
namespace Go.Proofs.YtkinlobfdkeamaaGreatDoor
open Go.RowKit

set_option maxHeartbeats 4000000 in
set_option maxRecDepth 100000 in
theorem r13_same (v u : Value) (a b : ThrV) (w : World) (ha : Thr w v a) (hb : Thr w u b) : Calls Tryz.prog 63 #[v, u] w fun e w' => e = .returned (.bool (decide (a = b))) ∧ Below w.heap.size w w' := by
  obtain ⟨v', rfl, ⟨ev, ⟨A, c, rfl, hc, hn, hel⟩, hev⟩⟩ := ha
  obtain ⟨u', rfl, ⟨ev', ⟨A', c', rfl, hc', hn', hel'⟩, hev'⟩⟩ := hb
  obtain ⟨an, al⟩ := a
  obtain ⟨bn, bl⟩ := b
  dsimp only at hc hn hel hev hc' hn' hel' hev'
  have hres : decide ((⟨an, al⟩ : ThrV) = ⟨bn, bl⟩) = (an == bn && decide (al = bl)) := by
    rw [Bool.eq_iff_iff]; simp
  have HR := Lib.hid hres
  clear hres
  go_enter Tryz.func63, Tryz.ntmps63
  by_cases h1 : an = bn
  · subst h1
    by_cases hl : al.length = bl.length
    · have e0 : ((al.length : Int) != (bl.length : Int)) = false := by rw [hl]; simp
      have HL := Lib.hid hl
      clear hl
      go_wp2_with fail
      go_loopw [26] (fun vk wr => ∃ k : Nat, k ≤ al.length ∧ vk = .int .i64 (k : Int) ∧ (∀ i, i < k → al.getD i [] = bl.getD i []) ∧ wr.cell? ⟨w.heap.size + 1, 1, none⟩ = some (.slice A' bl.length c') ∧ Below w.heap.size w wr) (fun vk _ => ((al.length : Int) - intOf vk).toNat)
      case atStart => exact ⟨0, by omega, rfl, fun i hi => by omega, cell_of_row _ _ 1 _ _ _ (hA2_1 _ _ _), extA2 _ _ _⟩
      case round =>
        obtain ⟨k, hk, rfl, hall, hcb, hB⟩ := hrel
        by_cases hlt : k < al.length
        · have hlb := HL.out
          obtain ⟨ad, rfl, hcell⟩ := hel k hlt
          obtain ⟨ad', rfl, hcell'⟩ := hel' k (by omega)
          have q1 := cellLater hB hcell
          have q2 := cellLater hB hcell'
          have j0 : (k : Int) < al.length := by omega
          have j1 : (k : Int) < bl.length := by omega
          have hne : al.getD k [] ≠ bl.getD k [] → decide (al = bl) = false := fun hx => by
            rw [decide_eq_false_iff_not]
            rintro rfl
            exact hx rfl
          have hnext : al.getD k [] = bl.getD k [] → ∀ i, i < k + 1 → al.getD i [] = bl.getD i [] := fun hx i hi => by
            by_cases e : i = k
            · rw [e]; exact hx
            · exact hall i (by omega)
          have f1 := (hev k hlt).later hB
          have f2 := (hev' k (by omega)).later hB
          have HN := Lib.hid hne
          have HX := Lib.hid hnext
          clear hel hel' hall hcell hcell' hne hnext hlb hev hev'
          generalize al.getD k [] = x at HN HX f1
          generalize bl.getD k [] = y at HN HX f2
          obtain ⟨A1, c1, e1, k1, n1, g1⟩ := f1
          obtain ⟨A2, c2, e2, k2, n2, g2⟩ := f2
          rw [e1] at q1
          rw [e2] at q2
          clear e1 e2
          by_cases hxl : x.length = y.length
          · have t0 : ((x.length : Int) != (y.length : Int)) = false := by rw [hxl]; simp
            have HXL := Lib.hid hxl
            clear hxl
            go_wp2_with fail
            obtain ⟨wo, rfl⟩ : ∃ wo : World, wo = wr := ⟨_, rfl⟩
            go_loopw [42] (fun vj wq => ∃ j : Nat, j ≤ x.length ∧ vj = .int .i64 (j : Int) ∧ (∀ i, i < j → x.getD i (0, 0) = y.getD i (0, 0)) ∧ Below wo.heap.size wo wq) (fun vj _ => ((x.length : Int) - intOf vj).toNat)
            case atStart => exact ⟨0, by omega, rfl, fun i hi => by omega, Below.refl _ _⟩
            case round =>
              obtain ⟨j, hj, rfl, hal2, hB2⟩ := hrel
              by_cases hlt2 : j < x.length
              · have hlx := HXL.out
                obtain ⟨ad1, rfl, p0, p1⟩ := g1 j hlt2
                obtain ⟨ad2, rfl, r0, r1⟩ := g2 j (by omega)
                have i0 : (j : Int) < x.length := by omega
                have i1 : (j : Int) < y.length := by omega
                have hne2 : x.getD j (0, 0) ≠ y.getD j (0, 0) → x ≠ y := fun hx => by rintro rfl; exact hx rfl
                have hnext2 : x.getD j (0, 0) = y.getD j (0, 0) → ∀ i, i < j + 1 → x.getD i (0, 0) = y.getD i (0, 0) := fun hx i hi => by
                  by_cases e : i = j
                  · rw [e]; exact hx
                  · exact hal2 i (by omega)
                have p0' := cellLater hB2 p0
                have p1' := cellLater hB2 p1
                have r0' := cellLater hB2 r0
                have r1' := cellLater hB2 r1
                have hcb' := cellLater hB2 hcb
                have q2' := cellLater hB2 q2
                have HN2 := Lib.hid hne2
                have HX2 := Lib.hid hnext2
                clear g1 g2 hal2 hne2 hnext2 hlx p0 p1 r0 r1 hcb q1 q2
                generalize x.getD j (0, 0) = f at *
                generalize y.getD j (0, 0) = g at *
                obtain ⟨f0, f1⟩ := f
                obtain ⟨g0, g1⟩ := g
                dsimp only at p0' p1' r0' r1'
                have X := ext_alloc wr (.cells #[.int .i64 f0, .int .i64 f1] 93)
                have r0 := cellLater X r0'
                have r1 := cellLater X r1'
                have hcb := cellLater X hcb'
                have q2 := cellLater X q2'
                clear r0' r1' hcb' q2'
                have hB3 := ext_trans hB (ext_trans hB2 X)
                have hB4 := ext_trans hB2 X
                clear X
                by_cases hxy : ((f0, f1) : FracV) = (g0, g1)
                · cases hxy
                  have HG := Lib.hid (HX2.out rfl)
                  clear HN2 HX2
                  go_wp2_with fail
                  go_quiet (fail)
                  go_wp2_with fail
                  exact ⟨⟨j + 1, by omega, by go_num, HG.out, below_drewN hB4 _⟩, by simp only [intOf]; omega⟩
                · have HG := Lib.hid (HN.out (HN2.out hxy))
                  clear HN2 HX2
                  by_cases e0 : f0 = g0
                  · cases e0
                    have e1 : f1 ≠ g1 := fun h => hxy (by rw [h])
                    have t1 : (g1 == f1) = false := by simpa using fun h => e1 h.symm
                    go_wp2_with fail
                    go_quiet (fail)
                    go_wp2_with fail
                    go_ret
                    rw [HR.out, HG.out]
                    exact ⟨by simp, below_drewN hB3 _⟩
                  · have t1 : (g0 == f0) = false := by simpa using fun h => e0 h.symm
                    go_wp2_with fail
                    go_quiet (fail)
                    go_wp2_with fail
                    go_ret
                    rw [HR.out, HG.out]
                    exact ⟨by simp, below_drewN hB3 _⟩
              · have hkl : j = x.length := by omega
                subst hkl
                have HG := Lib.hid (HX.out (eq_of_getD x y (0, 0) HXL.out hal2))
                clear g1 g2 hal2
                have hcb' := cellLater hB2 hcb
                go_wp2_with fail
                exact ⟨⟨k + 1, by omega, by go_num, HG.out, hcb', ext_trans hB hB2⟩, by simp only [intOf]; omega⟩
          · have t0 : ((x.length : Int) != (y.length : Int)) = true := by simp; omega
            have HG := Lib.hid (HN.out (fun h => hxl (by rw [h])))
            clear g1 g2 hxl
            go_wp2_with fail
            go_ret
            rw [HR.out, HG.out]
            exact ⟨by simp, hB⟩
        · have hkl : k = al.length := by omega
          subst hkl
          have HE := Lib.hid (decide_eq_true (eq_of_getD al bl [] HL.out hall))
          clear hel hel' hall hev hev'
          go_wp2_with fail
          go_ret
          rw [HR.out, HE.out]
          exact ⟨by simp, hB⟩
    · have e0 : ((al.length : Int) != (bl.length : Int)) = true := by simp; omega
      have HE := Lib.hid (show decide (al = bl) = false by rw [decide_eq_false_iff_not]; rintro rfl; exact hl rfl)
      clear hel hel' hev hev'
      go_wp2_with fail
      go_ret
      rw [HR.out, HE.out]
      exact ⟨by simp, ext_alloc2 _ _ _⟩
  · have t0 : (an != bn) = true := by simpa using h1
    have t1 : (an == bn) = false := by simpa using h1
    clear hel hel' hev hev'
    go_wp2_with fail
    go_ret
    rw [HR.out, t1]
    exact ⟨by simp, ext_alloc2 _ _ _⟩

end Go.Proofs.YtkinlobfdkeamaaGreatDoor

namespace Go.Proofs.YtkinlobfdkeamaaGreatDoor
open Go.RowKit

def zeroP (t : ThrV) : Bool := decide (t = ⟨0, []⟩)

set_option maxHeartbeats 4000000 in
set_option maxRecDepth 100000 in
theorem thr_zero (v : Value) (t : ThrV) (w : World) (h : Thr w v t) : Calls Tryz.prog 86 #[v] w fun e w' => e = .returned (.bool (zeroP t)) ∧ Below w.heap.size w w' := by
  have hs := fun w h => thr_same v (.agg #[.int .i64 0, .slice none 0 0]) t ⟨0, []⟩ w h ⟨_, rfl, Fracss.nil w⟩
  obtain ⟨v', rfl, hv⟩ := id h
  have h2 := h.later (ext_alloc w (.cells #[.int .i64 t.num, v'] 31))
  unfold zeroP
  clear h hv
  generalize decide (t = (⟨0, []⟩ : ThrV)) = q at hs ⊢
  go_enter Tryz.func86, Tryz.ntmps86
  go_wp2_with fail
  refine (hs _ h2).mono ?_
  rintro e w1 ⟨rfl, b1⟩
  clear hs
  go_wp2_with fail
  go_ret
  exact ⟨rfl, ext_trans (ext_alloc _ _) b1⟩

set_option maxHeartbeats 4000000 in
set_option maxRecDepth 100000 in
theorem r14_empty (v : Value) (t : ThrV) (w : World) (h : Thr w v t) : Calls Tryz.prog 90 #[v] w fun e w' => e = .returned (.bool (zeroP t)) ∧ Below w.heap.size w w' := by
  obtain ⟨v', rfl, ⟨ev, ⟨A, c, rfl, hc, hn, hel⟩, hev⟩⟩ := h
  obtain ⟨num, ws⟩ := t
  have hz : zeroP ⟨num, ws⟩ = ((num == 0) && ((ws.length : Int) == 0)) := by unfold zeroP; rw [Bool.eq_iff_iff]; simp
  have HZ := Lib.hid hz
  clear hz hel hev
  dsimp only
  go_enter Tryz.func90, Tryz.ntmps90
  by_cases h0 : num = 0
  · subst h0
    go_wp2_with fail
    go_ret
    rw [HZ.out]
    exact ⟨by simp, ext_alloc _ _⟩
  · have t0 : (num == 0) = false := by simpa using h0
    go_wp2_with fail
    go_ret
    rw [HZ.out, t0]
    exact ⟨rfl, ext_alloc _ _⟩

end Go.Proofs.YtkinlobfdkeamaaGreatDoor

namespace Go.Proofs.YtkinlobfdkeamaaGreatDoor
open Go.RowKit

/-- An event. -/
structure EvV where
  form : Int
  kind : Int
  said : List UInt8
  pre : List UInt8
  num : Int
  prior : List UInt8
  thr : ThrV
  keys : List (List UInt8)
  nthr : ThrV
  next : List (List UInt8)
  tol : Int
  wits : List (List UInt8)
  cuts : List (List UInt8)
  adds : List (List UInt8)
  conf : List (List UInt8)
  anc : List SealV
  del : List UInt8
  deriving DecidableEq

/-- The slices of an event. -/
structure EvS where
  tw : Value
  ks : Value
  nw : Value
  nx : Value
  ws : Value
  cs : Value
  aa : Value
  cf : Value
  an : Value

/-- The cells of an event. -/
def evCells (e : EvV) (u : EvS) : Array Value := #[.int .i64 e.form, .int .i64 e.kind, .string ⟨e.said.toArray⟩, .string ⟨e.pre.toArray⟩, .int .i64 e.num, .string ⟨e.prior.toArray⟩, .int .i64 e.thr.num, u.tw, u.ks, .int .i64 e.nthr.num, u.nw, u.nx, .int .i64 e.tol, u.ws, u.cs, u.aa, u.cf, u.an, .string ⟨e.del.toArray⟩]

/-- The slices u are those of the event e. -/
structure EvM (w : World) (e : EvV) (u : EvS) : Prop where
  tw : Fracss w u.tw e.thr.ws
  ks : Strs w u.ks e.keys
  nw : Fracss w u.nw e.nthr.ws
  nx : Strs w u.nx e.next
  ws : Strs w u.ws e.wits
  cs : Strs w u.cs e.cuts
  aa : Strs w u.aa e.adds
  cf : Strs w u.cf e.conf
  an : Seals w u.an e.anc
theorem EvM.later {w w' : World} {e : EvV} {u : EvS} (h : EvM w e u) (hb : Below w.heap.size w w') : EvM w' e u :=
  ⟨h.tw.later hb, h.ks.later hb, h.nw.later hb, h.nx.later hb, h.ws.later hb, h.cs.later hb, h.aa.later hb, h.cf.later hb, h.an.later hb⟩
theorem EvM.thr {w : World} {e : EvV} {u : EvS} (h : EvM w e u) : Thr w (.agg #[.int .i64 e.thr.num, u.tw]) e.thr := ⟨u.tw, rfl, h.tw⟩
theorem EvM.nthr {w : World} {e : EvV} {u : EvS} (h : EvM w e u) : Thr w (.agg #[.int .i64 e.nthr.num, u.nw]) e.nthr := ⟨u.nw, rfl, h.nw⟩

/-- A slice of texts is a slice. -/
theorem Strs.is {w : World} {v : Value} {l : List (List UInt8)} (h : Strs w v l) : ∃ A c, v = .slice A l.length c := by
  obtain ⟨⟨A, c, e, _⟩, _⟩ := h; exact ⟨A, c, e⟩
theorem Seals.is {w : World} {v : Value} {l : List SealV} (h : Seals w v l) : ∃ A c, v = .slice A l.length c := by
  obtain ⟨⟨A, c, e, _⟩, _⟩ := h; exact ⟨A, c, e⟩

end Go.Proofs.YtkinlobfdkeamaaGreatDoor

