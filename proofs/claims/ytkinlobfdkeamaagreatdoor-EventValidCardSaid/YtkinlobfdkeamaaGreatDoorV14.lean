/- Lists of fractions, of lists of fractions, and of seals, in memory. The equality of lists of seals and of fractions. The equality of thresholds, on both sides. -/
import Derived.Test.YtkinlobfdkeamaaGreatDoorV13
import Derived.Test.YtkinlobfdkeamaaGreatDoorV04
import Derived.Deep.QuietTactic
import Derived.BigQuiet
namespace Go.Proofs.YtkinlobfdkeamaaGreatDoor
open Go.RowKit

theorem ext_alloc2 (w : World) (o p : Obj) : Below w.heap.size w ((w.alloc o).alloc p) := ext_trans (ext_alloc w o) (ext_alloc (w.alloc o) p)
theorem ext_alloc3 (w : World) (o p q : Obj) : Below w.heap.size w (((w.alloc o).alloc p).alloc q) := ext_trans (ext_alloc2 w o p) (ext_alloc _ q)

/-- A fraction: numerator and denominator. -/
abbrev FracV := Int × Int
/-- A seal. -/
structure SealV where
  pre : List UInt8
  num : Int
  said : List UInt8
  deriving DecidableEq

/-- The value of a seal. -/
def SealV.val (s : SealV) : Value := .agg #[.string ⟨s.pre.toArray⟩, .int .i64 s.num, .string ⟨s.said.toArray⟩]

/-- The slice value v reads as the fractions l. -/
def Fracs (w : World) (v : Value) (l : List FracV) : Prop := Row2 w v l.length (fun i => .int .i64 (l.getD i (0, 0)).1) (fun i => .int .i64 (l.getD i (0, 0)).2)
/-- The slice value v reads as the lists of fractions l. -/
def Fracss (w : World) (v : Value) (l : List (List FracV)) : Prop := ∃ ev, Row1 w v l.length ev ∧ ∀ i, i < l.length → Fracs w (ev i) (l.getD i [])
/-- The slice value v reads as the seals l. -/
structure Seals (w : World) (v : Value) (l : List SealV) : Prop where
  row : Row3 w v l.length (fun i => .string ⟨(l.getD i ⟨[], 0, []⟩).pre.toArray⟩) (fun i => .int .i64 (l.getD i ⟨[], 0, []⟩).num) (fun i => .string ⟨(l.getD i ⟨[], 0, []⟩).said.toArray⟩)
  short : ∀ s ∈ l, s.pre.length ≤ 9223372036854775807 ∧ s.said.length ≤ 9223372036854775807

theorem Row1.later {w w' : World} {v : Value} {n : Nat} {e : Nat → Value} (h : Row1 w v n e) (hb : Below w.heap.size w w') : Row1 w' v n e := by
  obtain ⟨A, c, rfl, h1, h2, h3⟩ := h
  exact ⟨A, c, rfl, h1, h2, fun i hi => by obtain ⟨ad, e, q⟩ := h3 i hi; exact ⟨ad, e, cellLater hb q⟩⟩
theorem Row2.later {w w' : World} {v : Value} {n : Nat} {e e' : Nat → Value} (h : Row2 w v n e e') (hb : Below w.heap.size w w') : Row2 w' v n e e' := by
  obtain ⟨A, c, rfl, h1, h2, h3⟩ := h
  exact ⟨A, c, rfl, h1, h2, fun i hi => by obtain ⟨ad, e, q, q'⟩ := h3 i hi; exact ⟨ad, e, cellLater hb q, cellLater hb q'⟩⟩
theorem Row3.later {w w' : World} {v : Value} {n : Nat} {e e' e'' : Nat → Value} (h : Row3 w v n e e' e'') (hb : Below w.heap.size w w') : Row3 w' v n e e' e'' := by
  obtain ⟨A, c, rfl, h1, h2, h3⟩ := h
  exact ⟨A, c, rfl, h1, h2, fun i hi => by obtain ⟨ad, e, q, q', q''⟩ := h3 i hi; exact ⟨ad, e, cellLater hb q, cellLater hb q', cellLater hb q''⟩⟩
theorem Fracs.later {w w' : World} {v : Value} {l : List FracV} (h : Fracs w v l) (hb : Below w.heap.size w w') : Fracs w' v l := Row2.later h hb
theorem Fracss.later {w w' : World} {v : Value} {l : List (List FracV)} (h : Fracss w v l) (hb : Below w.heap.size w w') : Fracss w' v l := by
  obtain ⟨ev, h1, h2⟩ := h
  exact ⟨ev, h1.later hb, fun i hi => (h2 i hi).later hb⟩
theorem Seals.later {w w' : World} {v : Value} {l : List SealV} (h : Seals w v l) (hb : Below w.heap.size w w') : Seals w' v l := ⟨h.row.later hb, h.short⟩
theorem Fracs.nil (w : World) : Fracs w (.slice none 0 0) [] := ⟨none, 0, rfl, Nat.le_refl _, by simp, fun i h => absurd h (Nat.not_lt_zero _)⟩
theorem Fracss.nil (w : World) : Fracss w (.slice none 0 0) [] := ⟨fun _ => .slice none 0 0, ⟨none, 0, rfl, Nat.le_refl _, by simp, fun i h => absurd h (Nat.not_lt_zero _)⟩, fun i h => absurd h (Nat.not_lt_zero _)⟩
theorem Seals.nil (w : World) : Seals w (.slice none 0 0) [] := ⟨⟨none, 0, rfl, Nat.le_refl _, by simp, fun i h => absurd h (Nat.not_lt_zero _)⟩, by simp⟩

end Go.Proofs.YtkinlobfdkeamaaGreatDoor

namespace Go.Proofs.YtkinlobfdkeamaaGreatDoor
open Go.RowKit

set_option maxHeartbeats 4000000 in
set_option maxRecDepth 100000 in
theorem equal_seals (v u : Value) (a b : List SealV) (w : World) (ha : Seals w v a) (hb : Seals w u b) : Calls Tryz.prog 62 #[v, u] w fun e w' => e = .returned (.bool (decide (a = b))) ∧ Below w.heap.size w w' := by
  obtain ⟨⟨A, c, rfl, hc, hn, hel⟩, hsh⟩ := ha
  obtain ⟨⟨A', c', rfl, hc', hn', hel'⟩, hsh'⟩ := hb
  go_enter Tryz.func62, Tryz.ntmps62
  by_cases hl : a.length = b.length
  · have e0 : ((a.length : Int) != (b.length : Int)) = false := by rw [hl]; simp
    have HL := Lib.hid hl
    clear hl
    go_wp2_with fail
    go_loopw [13] (fun vk wr => ∃ k : Nat, k ≤ a.length ∧ vk = .int .i64 (k : Int) ∧ (∀ i, i < k → a.getD i ⟨[], 0, []⟩ = b.getD i ⟨[], 0, []⟩) ∧ Below w.heap.size w wr) (fun vk _ => ((a.length : Int) - intOf vk).toNat)
    case atStart => exact ⟨0, by omega, rfl, fun i hi => by omega, Below.refl _ _⟩
    case round =>
      obtain ⟨k, hk, rfl, hall, hB⟩ := hrel
      by_cases hlt : k < a.length
      · have hlb := HL.out
        obtain ⟨ad, rfl, h0, h1, h2⟩ := hel k hlt
        obtain ⟨ad', rfl, g0, g1, g2⟩ := hel' k (by omega)
        have q0 := cellLater hB h0
        have r0 := cellLater hB g0
        have q1 := cellLater hB h1
        have r1 := cellLater hB g1
        have q2 := cellLater hB h2
        have r2 := cellLater hB g2
        have j0 : (k : Int) < a.length := by omega
        have j1 : (k : Int) < b.length := by omega
        have hne : a.getD k ⟨[], 0, []⟩ ≠ b.getD k ⟨[], 0, []⟩ → decide (a = b) = false := fun hx => by
          rw [decide_eq_false_iff_not]
          rintro rfl
          exact hx rfl
        have hnext : a.getD k ⟨[], 0, []⟩ = b.getD k ⟨[], 0, []⟩ → ∀ i, i < k + 1 → a.getD i ⟨[], 0, []⟩ = b.getD i ⟨[], 0, []⟩ := fun hx i hi => by
          by_cases e : i = k
          · rw [e]; exact hx
          · exact hall i (by omega)
        have HN := Lib.hid hne
        have HX := Lib.hid hnext
        clear hel hel' hall h0 h1 h2 g0 g1 g2 hne hnext hlb
        generalize a.getD k ⟨[], 0, []⟩ = x at HN HX q0 q1 q2
        generalize b.getD k ⟨[], 0, []⟩ = y at HN HX r0 r1 r2
        obtain ⟨x0, x1, x2⟩ := x
        obtain ⟨y0, y1, y2⟩ := y
        dsimp only at q0 q1 q2 r0 r1 r2
        by_cases hxy : (⟨x0, x1, x2⟩ : SealV) = ⟨y0, y1, y2⟩
        · cases hxy
          have HG := Lib.hid (HX.out rfl)
          clear HN HX
          go_wp2_with fail
          go_quiet (fail)
          go_wp2_with fail
          exact ⟨⟨k + 1, by omega, by go_num, HG.out, below_drewN hB _⟩, by simp only [intOf]; omega⟩
        · have HG := Lib.hid (HN.out hxy)
          clear HN HX
          by_cases e0 : x0 = y0
          · cases e0
            by_cases e1 : x1 = y1
            · cases e1
              have e2 : x2 ≠ y2 := fun h => hxy (by rw [h])
              have t2 : (x2 == y2) = false := by simpa using e2
              go_wp2_with fail
              go_quiet (fail)
              go_wp2_with fail
              go_ret
              rw [HG.out]
              exact ⟨rfl, below_drewN hB _⟩
            · clear hxy
              have t1 : (x1 == y1) = false := by simpa using e1
              go_wp2_with fail
              go_quiet (fail)
              go_wp2_with fail
              go_ret
              rw [HG.out]
              exact ⟨rfl, below_drewN hB _⟩
          · clear hxy
            have t0 : (x0 == y0) = false := by simpa using e0
            go_wp2_with fail
            go_quiet (fail)
            go_wp2_with fail
            go_ret
            rw [HG.out]
            exact ⟨rfl, below_drewN hB _⟩
      · have hkl : k = a.length := by omega
        subst hkl
        have he := eq_of_getD a b ⟨[], 0, []⟩ HL.out hall
        have HE := Lib.hid (decide_eq_true he)
        clear hel hel' hall he
        go_wp2_with fail
        go_ret
        rw [HE.out]
        exact ⟨rfl, hB⟩
  · have e0 : ((a.length : Int) != (b.length : Int)) = true := by simp; omega
    have HE := Lib.hid (show decide (a = b) = false by rw [decide_eq_false_iff_not]; rintro rfl; exact hl rfl)
    clear hel hel'
    go_wp2_with fail
    go_ret
    rw [HE.out]
    exact ⟨rfl, Below.refl _ _⟩

set_option maxHeartbeats 4000000 in
set_option maxRecDepth 100000 in
theorem equal_fracs (v u : Value) (a b : List FracV) (w : World) (ha : Fracs w v a) (hb : Fracs w u b) : Calls Tryz.prog 92 #[v, u] w fun e w' => e = .returned (.bool (decide (a = b))) ∧ Below w.heap.size w w' := by
  obtain ⟨A, c, rfl, hc, hn, hel⟩ := ha
  obtain ⟨A', c', rfl, hc', hn', hel'⟩ := hb
  go_enter Tryz.func92, Tryz.ntmps92
  by_cases hl : a.length = b.length
  · have e0 : ((a.length : Int) != (b.length : Int)) = false := by rw [hl]; simp
    have HL := Lib.hid hl
    clear hl
    go_wp2_with fail
    go_loopw [13] (fun vk wr => ∃ k : Nat, k ≤ a.length ∧ vk = .int .i64 (k : Int) ∧ (∀ i, i < k → a.getD i (0, 0) = b.getD i (0, 0)) ∧ Below w.heap.size w wr) (fun vk _ => ((a.length : Int) - intOf vk).toNat)
    case atStart => exact ⟨0, by omega, rfl, fun i hi => by omega, Below.refl _ _⟩
    case round =>
      obtain ⟨k, hk, rfl, hall, hB⟩ := hrel
      by_cases hlt : k < a.length
      · have hlb := HL.out
        obtain ⟨ad, rfl, h0, h1⟩ := hel k hlt
        obtain ⟨ad', rfl, g0, g1⟩ := hel' k (by omega)
        have q0 := cellLater hB h0
        have r0 := cellLater hB g0
        have q1 := cellLater hB h1
        have r1 := cellLater hB g1
        have j0 : (k : Int) < a.length := by omega
        have j1 : (k : Int) < b.length := by omega
        have hne : a.getD k (0, 0) ≠ b.getD k (0, 0) → decide (a = b) = false := fun hx => by
          rw [decide_eq_false_iff_not]
          rintro rfl
          exact hx rfl
        have hnext : a.getD k (0, 0) = b.getD k (0, 0) → ∀ i, i < k + 1 → a.getD i (0, 0) = b.getD i (0, 0) := fun hx i hi => by
          by_cases e : i = k
          · rw [e]; exact hx
          · exact hall i (by omega)
        have HN := Lib.hid hne
        have HX := Lib.hid hnext
        clear hel hel' hall h0 h1 g0 g1 hne hnext hlb
        generalize a.getD k (0, 0) = x at HN HX q0 q1
        generalize b.getD k (0, 0) = y at HN HX r0 r1
        obtain ⟨x0, x1⟩ := x
        obtain ⟨y0, y1⟩ := y
        dsimp only at q0 q1 r0 r1
        by_cases hxy : ((x0, x1) : FracV) = (y0, y1)
        · cases hxy
          have HG := Lib.hid (HX.out rfl)
          clear HN HX
          go_wp2_with fail
          go_quiet (fail)
          go_wp2_with fail
          exact ⟨⟨k + 1, by omega, by go_num, HG.out, below_drewN hB _⟩, by simp only [intOf]; omega⟩
        · have HG := Lib.hid (HN.out hxy)
          clear HN HX
          by_cases e0 : x0 = y0
          · cases e0
            have e1 : x1 ≠ y1 := fun h => hxy (by rw [h])
            have t1 : (x1 == y1) = false := by simpa using e1
            go_wp2_with fail
            go_quiet (fail)
            go_wp2_with fail
            go_ret
            rw [HG.out]
            exact ⟨rfl, below_drewN hB _⟩
          · clear hxy
            have t0 : (x0 == y0) = false := by simpa using e0
            go_wp2_with fail
            go_quiet (fail)
            go_wp2_with fail
            go_ret
            rw [HG.out]
            exact ⟨rfl, below_drewN hB _⟩
      · have hkl : k = a.length := by omega
        subst hkl
        have he := eq_of_getD a b (0, 0) HL.out hall
        have HE := Lib.hid (decide_eq_true he)
        clear hel hel' hall he
        go_wp2_with fail
        go_ret
        rw [HE.out]
        exact ⟨rfl, hB⟩
  · have e0 : ((a.length : Int) != (b.length : Int)) = true := by simp; omega
    have HE := Lib.hid (show decide (a = b) = false by rw [decide_eq_false_iff_not]; rintro rfl; exact hl rfl)
    clear hel hel'
    go_wp2_with fail
    go_ret
    rw [HE.out]
    exact ⟨rfl, Below.refl _ _⟩

set_option maxHeartbeats 4000000 in
set_option maxRecDepth 100000 in
theorem r14_sameSeals (v u : Value) (a b : List SealV) (w : World) (ha : Seals w v a) (hb : Seals w u b) : Calls Tryz.prog 65 #[v, u] w fun e w' => e = .returned (.bool (decide (a = b))) ∧ Below w.heap.size w w' := by
  obtain ⟨⟨A, c, rfl, hc, hn, hel⟩, hsh⟩ := ha
  obtain ⟨⟨A', c', rfl, hc', hn', hel'⟩, hsh'⟩ := hb
  go_enter Tryz.func65, Tryz.ntmps65
  by_cases hl : a.length = b.length
  · have e0 : ((a.length : Int) != (b.length : Int)) = false := by rw [hl]; simp
    have HL := Lib.hid hl
    clear hl
    go_wp2_with fail
    go_loopw [14] (fun vk wr => ∃ k : Nat, k ≤ a.length ∧ vk = .int .i64 (k : Int) ∧ (∀ i, i < k → a.getD i ⟨[], 0, []⟩ = b.getD i ⟨[], 0, []⟩) ∧ Below w.heap.size w wr) (fun vk _ => ((a.length : Int) - intOf vk).toNat)
    case atStart => exact ⟨0, by omega, rfl, fun i hi => by omega, Below.refl _ _⟩
    case round =>
      obtain ⟨k, hk, rfl, hall, hB⟩ := hrel
      by_cases hlt : k < a.length
      · have hlb := HL.out
        obtain ⟨ad, rfl, h0, h1, h2⟩ := hel k hlt
        obtain ⟨ad', rfl, g0, g1, g2⟩ := hel' k (by omega)
        have q0 := cellLater hB h0
        have r0 := cellLater hB g0
        have q1 := cellLater hB h1
        have r1 := cellLater hB g1
        have q2 := cellLater hB h2
        have r2 := cellLater hB g2
        have j0 : (k : Int) < a.length := by omega
        have j1 : (k : Int) < b.length := by omega
        have hne : a.getD k ⟨[], 0, []⟩ ≠ b.getD k ⟨[], 0, []⟩ → decide (a = b) = false := fun hx => by
          rw [decide_eq_false_iff_not]
          rintro rfl
          exact hx rfl
        have hnext : a.getD k ⟨[], 0, []⟩ = b.getD k ⟨[], 0, []⟩ → ∀ i, i < k + 1 → a.getD i ⟨[], 0, []⟩ = b.getD i ⟨[], 0, []⟩ := fun hx i hi => by
          by_cases e : i = k
          · rw [e]; exact hx
          · exact hall i (by omega)
        have HN := Lib.hid hne
        have HX := Lib.hid hnext
        clear hel hel' hall h0 h1 h2 g0 g1 g2 hne hnext hlb
        generalize a.getD k ⟨[], 0, []⟩ = x at HN HX q0 q1 q2
        generalize b.getD k ⟨[], 0, []⟩ = y at HN HX r0 r1 r2
        obtain ⟨x0, x1, x2⟩ := x
        obtain ⟨y0, y1, y2⟩ := y
        dsimp only at q0 q1 q2 r0 r1 r2
        by_cases hxy : (⟨x0, x1, x2⟩ : SealV) = ⟨y0, y1, y2⟩
        · cases hxy
          have HG := Lib.hid (HX.out rfl)
          clear HN HX
          go_wp2_with fail
          have rr0 := cellLater (ext_alloc wr (.cells #[.string ⟨x0.toArray⟩, .int .i64 x1, .string ⟨x2.toArray⟩] 68)) r0
          have rr1 := cellLater (ext_alloc wr (.cells #[.string ⟨x0.toArray⟩, .int .i64 x1, .string ⟨x2.toArray⟩] 68)) r1
          have rr2 := cellLater (ext_alloc wr (.cells #[.string ⟨x0.toArray⟩, .int .i64 x1, .string ⟨x2.toArray⟩] 68)) r2
          go_quiet (fail)
          go_wp2_with fail
          exact ⟨⟨k + 1, by omega, by go_num, HG.out, below_drewN (hB.trans ((ext_alloc wr _).mono hB.size)) _⟩, by simp only [intOf]; omega⟩
        · have HG := Lib.hid (HN.out hxy)
          clear HN HX
          by_cases e0 : x0 = y0
          · cases e0
            by_cases e1 : x1 = y1
            · cases e1
              have e2 : x2 ≠ y2 := fun h => hxy (by rw [h])
              have t2 : (y2 == x2) = false := by simpa using fun h => e2 h.symm
              go_wp2_with fail
              have rr0 := cellLater (ext_alloc wr (.cells #[.string ⟨x0.toArray⟩, .int .i64 x1, .string ⟨x2.toArray⟩] 68)) r0
              have rr1 := cellLater (ext_alloc wr (.cells #[.string ⟨x0.toArray⟩, .int .i64 x1, .string ⟨x2.toArray⟩] 68)) r1
              have rr2 := cellLater (ext_alloc wr (.cells #[.string ⟨x0.toArray⟩, .int .i64 x1, .string ⟨x2.toArray⟩] 68)) r2
              go_quiet (fail)
              go_wp2_with fail
              go_ret
              rw [HG.out]
              exact ⟨rfl, below_drewN (hB.trans ((ext_alloc wr _).mono hB.size)) _⟩
            · clear hxy
              have t1 : (y1 == x1) = false := by simpa using fun h => e1 h.symm
              go_wp2_with fail
              have rr0 := cellLater (ext_alloc wr (.cells #[.string ⟨x0.toArray⟩, .int .i64 x1, .string ⟨x2.toArray⟩] 68)) r0
              have rr1 := cellLater (ext_alloc wr (.cells #[.string ⟨x0.toArray⟩, .int .i64 x1, .string ⟨x2.toArray⟩] 68)) r1
              have rr2 := cellLater (ext_alloc wr (.cells #[.string ⟨x0.toArray⟩, .int .i64 x1, .string ⟨x2.toArray⟩] 68)) r2
              go_quiet (fail)
              go_wp2_with fail
              go_ret
              rw [HG.out]
              exact ⟨rfl, below_drewN (hB.trans ((ext_alloc wr _).mono hB.size)) _⟩
          · clear hxy
            have t0 : (y0 == x0) = false := by simpa using fun h => e0 h.symm
            go_wp2_with fail
            have rr0 := cellLater (ext_alloc wr (.cells #[.string ⟨x0.toArray⟩, .int .i64 x1, .string ⟨x2.toArray⟩] 68)) r0
            have rr1 := cellLater (ext_alloc wr (.cells #[.string ⟨x0.toArray⟩, .int .i64 x1, .string ⟨x2.toArray⟩] 68)) r1
            have rr2 := cellLater (ext_alloc wr (.cells #[.string ⟨x0.toArray⟩, .int .i64 x1, .string ⟨x2.toArray⟩] 68)) r2
            go_quiet (fail)
            go_wp2_with fail
            go_ret
            rw [HG.out]
            exact ⟨rfl, below_drewN (hB.trans ((ext_alloc wr _).mono hB.size)) _⟩
      · have hkl : k = a.length := by omega
        subst hkl
        have he := eq_of_getD a b ⟨[], 0, []⟩ HL.out hall
        have HE := Lib.hid (decide_eq_true he)
        clear hel hel' hall he
        go_wp2_with fail
        go_ret
        rw [HE.out]
        exact ⟨rfl, hB⟩
  · have e0 : ((a.length : Int) != (b.length : Int)) = true := by simp; omega
    have HE := Lib.hid (show decide (a = b) = false by rw [decide_eq_false_iff_not]; rintro rfl; exact hl rfl)
    clear hel hel'
    go_wp2_with fail
    go_ret
    rw [HE.out]
    exact ⟨rfl, Below.refl _ _⟩

end Go.Proofs.YtkinlobfdkeamaaGreatDoor

namespace Go.Proofs.YtkinlobfdkeamaaGreatDoor
open Go.RowKit

/-- A threshold. -/
structure ThrV where
  num : Int
  ws : List (List FracV)
  deriving DecidableEq
/-- The value v reads as the threshold t. -/
def Thr (w : World) (v : Value) (t : ThrV) : Prop := ∃ u, v = .agg #[.int .i64 t.num, u] ∧ Fracss w u t.ws

theorem Thr.later {w w' : World} {v : Value} {t : ThrV} (h : Thr w v t) (hb : Below w.heap.size w w') : Thr w' v t := by
  obtain ⟨u, e, h⟩ := h
  exact ⟨u, e, h.later hb⟩

set_option maxHeartbeats 4000000 in
set_option maxRecDepth 100000 in
theorem equalFunc_fracs (v u : Value) (a b : List (List FracV)) (w : World) (ha : Fracss w v a) (hb : Fracss w u b) : Calls Tryz.prog 91 #[v, u, .func (.func 92) #[] #[]] w fun e w' => e = .returned (.bool (decide (a = b))) ∧ Below w.heap.size w w' := by
  obtain ⟨ev, ⟨A, c, rfl, hc, hn, hel⟩, hev⟩ := ha
  obtain ⟨ev', ⟨A', c', rfl, hc', hn', hel'⟩, hev'⟩ := hb
  have heq := fun v u a b w => equal_fracs v u a b w
  go_enter Tryz.func91, Tryz.ntmps91
  by_cases hl : a.length = b.length
  · have e0 : ((a.length : Int) != (b.length : Int)) = false := by rw [hl]; simp
    have HL := Lib.hid hl
    clear hl
    go_wp2_with fail
    go_loopw [17] (fun vk wr => ∃ k : Nat, k ≤ a.length ∧ vk = .int .i64 (k : Int) ∧ (∀ i, i < k → a.getD i [] = b.getD i []) ∧ Below w.heap.size w wr) (fun vk _ => ((a.length : Int) - intOf vk).toNat)
    case atStart => exact ⟨0, by omega, rfl, fun i hi => by omega, Below.refl _ _⟩
    case round =>
      obtain ⟨k, hk, rfl, hall, hB⟩ := hrel
      by_cases hlt : k < a.length
      · have hlb := HL.out
        obtain ⟨ad, rfl, hcell⟩ := hel k hlt
        obtain ⟨ad', rfl, hcell'⟩ := hel' k (by omega)
        have q1 := cellLater hB hcell
        have q2 := cellLater hB hcell'
        have j0 : (k : Int) < a.length := by omega
        have j1 : (k : Int) < b.length := by omega
        have hne : a.getD k [] ≠ b.getD k [] → decide (a = b) = false := fun hx => by
          rw [decide_eq_false_iff_not]
          rintro rfl
          exact hx rfl
        have hnext : a.getD k [] = b.getD k [] → ∀ i, i < k + 1 → a.getD i [] = b.getD i [] := fun hx i hi => by
          by_cases e : i = k
          · rw [e]; exact hx
          · exact hall i (by omega)
        have f1 := (hev k hlt).later hB
        have f2 := (hev' k (by omega)).later hB
        have hE := heq _ _ _ _ wr f1 f2
        have HN := Lib.hid hne
        have HX := Lib.hid hnext
        clear hel hel' hall hcell hcell' hne hnext hlb heq f1 f2 hev hev'
        generalize a.getD k [] = x at HN HX hE
        generalize b.getD k [] = y at HN HX hE
        by_cases hxy : x = y
        · subst hxy
          have HG := Lib.hid (HX.out rfl)
          rw [decide_eq_true rfl] at hE
          go_wp2_with fail
          refine hE.mono ?_
          rintro e w1 ⟨rfl, b1⟩
          clear hE
          go_wp2_with fail
          exact ⟨⟨k + 1, by omega, by go_num, HG.out, hB.trans (b1.mono hB.size)⟩, by simp only [intOf]; omega⟩
        · have HG := Lib.hid (HN.out hxy)
          rw [decide_eq_false hxy] at hE
          go_wp2_with fail
          refine hE.mono ?_
          rintro e w1 ⟨rfl, b1⟩
          clear hE
          go_wp2_with fail
          go_ret
          rw [HG.out]
          exact ⟨rfl, hB.trans (b1.mono hB.size)⟩
      · have hkl : k = a.length := by omega
        subst hkl
        have he := eq_of_getD a b [] HL.out hall
        have HE := Lib.hid (decide_eq_true he)
        clear hel hel' hall he hev hev' heq
        go_wp2_with fail
        go_ret
        rw [HE.out]
        exact ⟨rfl, hB⟩
  · have e0 : ((a.length : Int) != (b.length : Int)) = true := by simp; omega
    have HE := Lib.hid (show decide (a = b) = false by rw [decide_eq_false_iff_not]; rintro rfl; exact hl rfl)
    clear hel hel' hev hev' heq
    go_wp2_with fail
    go_ret
    rw [HE.out]
    exact ⟨rfl, Below.refl _ _⟩

set_option maxHeartbeats 4000000 in
set_option maxRecDepth 100000 in
theorem thr_same (v u : Value) (a b : ThrV) (w : World) (ha : Thr w v a) (hb : Thr w u b) : Calls Tryz.prog 60 #[v, u] w fun e w' => e = .returned (.bool (decide (a = b))) ∧ Below w.heap.size w w' := by
  obtain ⟨v', rfl, hv⟩ := ha
  obtain ⟨u', rfl, hu⟩ := hb
  obtain ⟨an, al⟩ := a
  obtain ⟨bn, bl⟩ := b
  dsimp only at hv hu
  have heq := fun w ha hb => equalFunc_fracs v' u' al bl w ha hb
  have hres : decide ((⟨an, al⟩ : ThrV) = ⟨bn, bl⟩) = (an == bn && decide (al = bl)) := by
    rw [Bool.eq_iff_iff]; simp
  have HR := Lib.hid hres
  clear hres
  go_enter Tryz.func60, Tryz.ntmps60
  by_cases h1 : an = bn
  · subst h1
    have b0 := ext_alloc2 w (.cells #[.int .i64 an, v'] 31) (.cells #[.int .i64 an, u'] 31)
    have hE := heq _ (hv.later b0) (hu.later b0)
    have HB := Lib.hid b0
    clear hv hu heq b0
    go_wp2_with fail
    refine hE.mono ?_
    rintro e w1 ⟨rfl, b1⟩
    clear hE
    go_wp2_with fail
    go_ret
    rw [HR.out]
    exact ⟨by simp, ext_trans HB.out b1⟩
  · have t0 : (an == bn) = false := by simpa using h1
    clear hv hu heq
    go_wp2_with fail
    go_ret
    rw [HR.out, t0]
    exact ⟨by simp, ext_alloc2 _ _ _⟩

end Go.Proofs.YtkinlobfdkeamaaGreatDoor

