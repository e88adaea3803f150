/- The reference's Encode and Make of a primitive, and Digest. The tests of an event's kind, on both sides. What all events have, the program's way. -/
import Derived.Test.YtkinlobfdkeamaaGreatDoorV17
import Derived.Test.YtkinlobfdkeamaaGreatDoorV12
import Derived.Test.YtkinlobfdkeamaaGreatDoorV18
import Derived.Test.YtkinlobfdkeamaaGreatDoorV09
import Derived.Test.YtkinlobfdkeamaaGreatDoorV01
import Derived.Lib.Hide
import Derived.Test.YtkinlobfdkeamaaGreatDoorV15
import Derived.Test.YtkinlobfdkeamaaGreatDoorV11
namespace Go.Proofs.YtkinlobfdkeamaaGreatDoor
open Go.RowKit

set_option maxHeartbeats 4000000 in
set_option maxRecDepth 100000 in
theorem r03_enc (f : Form) (hf : f ∈ allForms) (raw : List UInt8) (hr : raw.length = f.raw) (w : World) : Calls Tryz.prog 69 #[.agg #[.int .i64 (f.code : Int), .string ⟨raw.toArray⟩]] w fun e w' => e = .returned (.tuple #[.string ⟨(makeP f raw).toArray⟩, .int .i64 0]) ∧ Below w.heap.size w w' := by
  obtain ⟨r1, r2, r3, r4, r5, r6, r7⟩ := form_facts f hf
  have hlead := fun w => r03_lead f hf w
  have hraw := fun w => r03_raw f hf w
  have hcode := fun w => r03_code f hf w
  have hZx : (⟨#[0, 0]⟩ : ByteArray).extract 0 f.lead = ⟨(List.replicate f.lead (0 : UInt8)).toArray⟩ := head2 0 f.lead r7
  obtain ⟨Z, hZ⟩ : ∃ Z, Z = List.replicate f.lead (0 : UInt8) := ⟨_, rfl⟩
  rw [← hZ] at hZx
  have hZl : Z.length = f.lead := by rw [hZ, List.length_replicate]
  have hcat : (⟨Z.toArray⟩ : ByteArray) ++ (⟨raw.toArray⟩ : ByteArray) = ⟨(Z ++ raw).toArray⟩ := by
    apply ByteArray.ext; apply Array.toList_inj.1
    rw [ByteArray.data_append, Array.toList_append]
  have h3 : (f.lead + f.raw) % 3 = 0 := by unfold Form.lead; omega
  have henc := fun w => r01_encode (Z ++ raw) (by rw [List.length_append, hZl, hr]; omega) (by rw [List.length_append, hZl, hr]; exact h3) w
  rw [← hcat] at henc
  have hel := encL_len (Z ++ raw) (by rw [List.length_append, hZl, hr]; exact h3)
  rw [List.length_append, hZl, hr] at hel
  have hmk : makeP f raw = f.str ++ (encL (Z ++ raw)).drop f.lead := by rw [hZ]; rfl
  obtain ⟨T, hT⟩ : ∃ T, T = encL (Z ++ raw) := ⟨_, rfl⟩
  rw [← hT] at henc hel hmk
  have HMK := Lib.hid hmk
  have hcap : ¬ 9223372036854775807 < f.lead + f.raw := by omega
  have k0 : (f.lead : Int) ≤ 2 := by omega
  have m0 : f.lead ≤ T.length := by omega
  have m1 : (f.lead : Int) ≤ T.length := by omega
  have hcap2 : ¬ 9223372036854775807 < f.str.length + (T.length - f.lead) := by omega
  have t0 : ((raw.length : Int) != (f.raw : Int)) = false := by rw [hr]; simp
  clear hcat hmk hT hZ
  go_enter Tryz.func69, Tryz.ntmps69
  go_wp2_with fail
  have hE : EncW w (w.alloc (.cells #[.int .i64 (f.code : Int), .string ⟨raw.toArray⟩] 83)) w.heap.size f raw := ⟨heap_alloc_new _ _, ext_alloc _ _⟩
  generalize w.alloc (.cells #[.int .i64 (f.code : Int), .string ⟨raw.toArray⟩] 83) = w1 at hE ⊢
  refine (hcode _).mono ?_
  rintro e w2 ⟨rfl, b2⟩
  have hE2 := hE.later b2
  go_wp2_with fail
  have hE3 : EncW w w2.drew w.heap.size f raw := ⟨hE2.p, hE2.low.drew⟩
  go_region_held3 (fun w' => w'.cell? ⟨w.heap.size, 0, none⟩ = some (.int .i64 (f.code : Int)) ∧ w'.cell? ⟨w.heap.size, 1, none⟩ = some (.string ⟨raw.toArray⟩) ∧ EncW w w' w.heap.size f raw)
    (first | exact hE3.both | exact (hE3.later b3).both | exact EncW.both' (by assumption) b3 | go_keep)
    (first
      | (go_at_call 103; refine (hraw _).mono ?_; rintro e w3 ⟨rfl, b3⟩))
  have hE4 := hE3.later b3
  go_split_ands
  go_simp
  go_wp2_with fail
  refine (hlead _).mono ?_
  rintro e w4 ⟨rfl, b4⟩
  have hE5 := hE4.later b4
  have hE6 : EncW w w4.drew w.heap.size f raw := ⟨hE5.p, hE5.low.drew⟩
  go_wp2_with fail
  go_region_held3 (fun w' => w'.cell? ⟨w.heap.size, 0, none⟩ = some (.int .i64 (f.code : Int)) ∧ w'.cell? ⟨w.heap.size, 1, none⟩ = some (.string ⟨raw.toArray⟩) ∧ EncW w w' w.heap.size f raw)
    (first | exact hE6.both | exact (hE6.later b5).both | exact EncW.both' (by assumption) b5 | go_keep)
    (first
      | (go_at_call 105; refine (henc _).mono ?_; rintro e w5 ⟨rfl, b5⟩))
  have hlow := (hE6.later b5).low
  go_simp
  go_wp2_with fail
  go_ret2
  refine ⟨?_, hlow⟩
  have hfin : (⟨f.str.toArray⟩ : ByteArray) ++ (⟨T.toArray⟩ : ByteArray).extract f.lead T.length = ⟨(makeP f raw).toArray⟩ := by
    apply ByteArray.ext; apply Array.toList_inj.1
    rw [ByteArray.data_append, Array.toList_append, Lib.extract_data, HMK.out]
    show f.str ++ List.take (T.length - f.lead) (List.drop f.lead T) = _
    rw [List.take_of_length_le (by rw [List.length_drop]; exact Nat.le_refl _)]
  rw [← hfin]
  rfl

set_option maxRecDepth 100000 in
theorem r03_make (f : Form) (hf : f ∈ allForms) (raw : List UInt8) (hr : raw.length = f.raw) (w : World) : Calls Tryz.prog 36 #[.int .i64 (f.code : Int), .string ⟨raw.toArray⟩] w fun e w' => e = .returned (.string ⟨(makeP f raw).toArray⟩) ∧ Below w.heap.size w w' := by
  go_enter Tryz.func36, Tryz.ntmps36
  go_wp2_with fail
  refine (r03_enc f hf raw hr _).mono ?_
  rintro e w1 ⟨rfl, b1⟩
  go_wp2_with fail
  go_ret
  exact ⟨rfl, b1⟩

set_option maxRecDepth 100000 in
theorem r10_digest (l : List UInt8) (hl : l.length ≤ 1000000000) (w : World) : Calls Tryz.prog 41 #[.string ⟨l.toArray⟩] w fun e w' => e = .returned (.string ⟨(digP l).toArray⟩) ∧ Below w.heap.size w w' := by
  have hm := fun w => r03_make fDigest (.head _) (shaL l) (shaL_len l) w
  have hs := fun w => ref_sum ⟨l.toArray⟩ hl w
  rw [show (⟨l.toArray⟩ : ByteArray).data.toList = l from rfl] at hs
  unfold digP
  generalize makeP fDigest (shaL l) = M at hm ⊢
  generalize shaL l = D at hm hs
  rw [show (fDigest.code : Int) = 1 from rfl] at hm
  go_enter Tryz.func41, Tryz.ntmps41
  go_wp2_with fail
  refine (hs _).mono ?_
  rintro e w1 ⟨rfl, b1⟩
  go_wp2_with fail
  refine (hm _).mono ?_
  rintro e w2 ⟨rfl, b2⟩
  go_wp2_with fail
  go_ret
  exact ⟨rfl, ext_trans b1 b2⟩

end Go.Proofs.YtkinlobfdkeamaaGreatDoor

namespace Go.Proofs.YtkinlobfdkeamaaGreatDoor
open Go.RowKit

def inK (k : Int) : Bool := k == 1 || k == 4
def rotK (k : Int) : Bool := k == 2 || k == 5
def delK (k : Int) : Bool := k == 4 || k == 5
def estK (k : Int) : Bool := inK k || rotK k
theorem estK_ref (k : Int) : (k == 1 || k == 2 || delK k) = estK k := by
  unfold estK inK rotK delK
  cases k == 1 <;> cases k == 2 <;> cases k == 4 <;> cases k == 5 <;> rfl

set_option maxRecDepth 100000 in
theorem event_inception (k : Int) (w : World) : Calls Tryz.prog 44 #[.int .i64 k] w fun e w' => e = .returned (.bool (inK k)) ∧ w = w' := by
  unfold inK
  go_enter Tryz.func44, Tryz.ntmps44
  cases h1 : k == 1 <;> (go_wp2_with fail; go_ret; exact ⟨rfl, rfl⟩)

set_option maxRecDepth 100000 in
theorem event_rotates (k : Int) (w : World) : Calls Tryz.prog 59 #[.int .i64 k] w fun e w' => e = .returned (.bool (rotK k)) ∧ w = w' := by
  unfold rotK
  go_enter Tryz.func59, Tryz.ntmps59
  cases h1 : k == 2 <;> (go_wp2_with fail; go_ret; exact ⟨rfl, rfl⟩)

set_option maxRecDepth 100000 in
theorem event_delegated (k : Int) (w : World) : Calls Tryz.prog 18 #[.int .i64 k] w fun e w' => e = .returned (.bool (delK k)) ∧ w = w' := by
  unfold delK
  go_enter Tryz.func18, Tryz.ntmps18
  cases h1 : k == 4 <;> (go_wp2_with fail; go_ret; exact ⟨rfl, rfl⟩)

set_option maxRecDepth 100000 in
theorem r14_inception (k : Int) (w : World) : Calls Tryz.prog 30 #[.int .i64 k] w fun e w' => e = .returned (.bool (inK k)) ∧ w = w' := by
  unfold inK
  go_enter Tryz.func30, Tryz.ntmps30
  cases h1 : k == 1 <;> (go_wp2_with fail; go_ret; exact ⟨rfl, rfl⟩)

set_option maxRecDepth 100000 in
theorem r14_rotation (k : Int) (w : World) : Calls Tryz.prog 39 #[.int .i64 k] w fun e w' => e = .returned (.bool (rotK k)) ∧ w = w' := by
  unfold rotK
  go_enter Tryz.func39, Tryz.ntmps39
  cases h1 : k == 2 <;> (go_wp2_with fail; go_ret; exact ⟨rfl, rfl⟩)

set_option maxRecDepth 100000 in
theorem r14_delegated (k : Int) (w : World) : Calls Tryz.prog 19 #[.int .i64 k] w fun e w' => e = .returned (.bool (delK k)) ∧ w = w' := by
  unfold delK
  go_enter Tryz.func19, Tryz.ntmps19
  cases h1 : k == 4 <;> (go_wp2_with fail; go_ret; exact ⟨rfl, rfl⟩)

set_option maxRecDepth 100000 in
theorem event_established (k : Int) (w : World) : Calls Tryz.prog 16 #[.int .i64 k] w fun e w' => e = .returned (.bool (estK k)) ∧ w = w' := by
  unfold estK
  have h1 := fun w => event_inception k w
  have h2 := fun w => event_rotates k w
  generalize inK k = a at h1 ⊢
  generalize rotK k = b at h2 ⊢
  go_enter Tryz.func16, Tryz.ntmps16
  go_wp2_with fail
  refine (h1 _).mono ?_
  rintro e w1 ⟨rfl, rfl⟩
  cases a with
  | true =>
    go_wp2_with fail
    go_ret
    exact ⟨rfl, rfl⟩
  | false =>
    go_wp2_with fail
    refine (h2 _).mono ?_
    rintro e w2 ⟨rfl, rfl⟩
    go_wp2_with fail
    go_ret
    exact ⟨rfl, rfl⟩

set_option maxRecDepth 100000 in
theorem r14_established_kind (k : Int) (w : World) : Calls Tryz.prog 17 #[.int .i64 k] w fun e w' => e = .returned (.bool (estK k)) ∧ w = w' := by
  rw [← estK_ref]
  have h2 := fun w => r14_delegated k w
  generalize delK k = b at h2 ⊢
  go_enter Tryz.func17, Tryz.ntmps17
  cases h1 : k == 1
  · cases h3 : k == 2
    · go_wp2_with fail
      refine (h2 _).mono ?_
      rintro e w2 ⟨rfl, rfl⟩
      go_wp2_with fail
      go_ret
      exact ⟨rfl, rfl⟩
    · go_wp2_with fail
      go_ret
      exact ⟨rfl, rfl⟩
  · go_wp2_with fail
    go_ret
    exact ⟨rfl, rfl⟩

end Go.Proofs.YtkinlobfdkeamaaGreatDoor

namespace Go.Proofs.YtkinlobfdkeamaaGreatDoor
open Go.RowKit

def numP (e : EvV) : Bool := if inK e.kind = true then e.num == 0 else decide (1 ≤ e.num) && decide (e.num ≤ 1099511627776)
def priorP (e : EvV) : Bool := if inK e.kind = true then e.prior.isEmpty else isP 1 e.prior

set_option maxHeartbeats 4000000 in
set_option maxRecDepth 100000 in
theorem ev_number (e : EvV) (u : EvS) (w : World) : Calls Tryz.prog 75 #[.agg (evCells e u)] w fun r w' => r = .returned (.bool (numP e)) ∧ Below w.heap.size w w' := by
  obtain ⟨form, kind, said, pre, num, prior, thr, keys, nthr, next, tol, wits, cuts, adds, conf, anc, del⟩ := e
  obtain ⟨tw, ks, nw, nx, ws, cs, aa, cf, an⟩ := u
  unfold evCells numP
  dsimp only
  have hk := fun w => event_inception kind w
  generalize inK kind = q at hk ⊢
  go_enter Tryz.func75, Tryz.ntmps75
  go_wp2_with fail
  refine (hk _).mono ?_
  rintro r w1 ⟨rfl, rfl⟩
  cases q with
  | true =>
    go_wp2_with fail
    go_ret
    exact ⟨by simp, ext_alloc _ _⟩
  | false =>
    by_cases h1 : 1 ≤ num
    · go_wp2_with fail
      go_ret
      exact ⟨by simp, ext_alloc _ _⟩
    · go_wp2_with fail
      go_ret
      exact ⟨by rw [decide_eq_false (show ¬ 1 ≤ num by omega)]; rfl, ext_alloc _ _⟩

set_option maxHeartbeats 4000000 in
set_option maxRecDepth 100000 in
theorem ev_prior (e : EvV) (u : EvS) (w : World) : Calls Tryz.prog 76 #[.agg (evCells e u)] w fun r w' => r = .returned (.bool (priorP e)) ∧ Below w.heap.size w w' := by
  obtain ⟨form, kind, said, pre, num, prior, thr, keys, nthr, next, tol, wits, cuts, adds, conf, anc, del⟩ := e
  obtain ⟨tw, ks, nw, nx, ws, cs, aa, cf, an⟩ := u
  unfold evCells priorP
  dsimp only
  have hk := fun w => event_inception kind w
  have hd := fun w => digest_any prior w
  generalize isP 1 prior = d at hd ⊢
  generalize inK kind = q at hk ⊢
  go_enter Tryz.func76, Tryz.ntmps76
  go_wp2_with fail
  refine (hk _).mono ?_
  rintro r w1 ⟨rfl, rfl⟩
  cases q with
  | true =>
    go_wp2_with fail
    go_ret
    exact ⟨by simp, ext_alloc _ _⟩
  | false =>
    go_wp2_with fail
    refine (hd _).mono ?_
    rintro r w1 ⟨rfl, b1⟩
    go_wp2_with fail
    go_ret
    exact ⟨by simp, ext_trans (ext_alloc _ _) b1⟩

def preP (e : EvV) : Bool := isP 1 e.pre && (isP 1 e.said && !(inK e.kind && decide (e.pre ≠ e.said)))
/-- The first error of what all events have. -/
def begP (e : EvV) : Int := if e.form < 1 ∨ 3 < e.form then 2 else if e.kind < 1 ∨ 5 < e.kind then 11 else if numP e = false then 16 else if preP e = false then 17 else if priorP e = false then 15 else 0

set_option maxHeartbeats 4000000 in
set_option maxRecDepth 100000 in
theorem ev_begins (e : EvV) (u : EvS) (w : World) : Calls Tryz.prog 42 #[.agg (evCells e u)] w fun r w' => r = .returned (.int .i64 (begP e)) ∧ Below w.heap.size w w' := by
  have hnum := fun w => ev_number e u w
  have hpri := fun w => ev_prior e u w
  obtain ⟨b, hb⟩ : ∃ b, b = begP e := ⟨_, rfl⟩
  obtain ⟨d, hd⟩ : ∃ d, d = preP e := ⟨_, rfl⟩
  unfold begP at hb
  unfold preP at hd
  rw [show begP e = b by rw [hb]; rfl]
  rw [show preP e = d by rw [hd]; rfl] at hb
  generalize numP e = n at *
  generalize priorP e = p at *
  obtain ⟨form, kind, said, pre, num, prior, thr, keys, nthr, next, tol, wits, cuts, adds, conf, anc, del⟩ := e
  obtain ⟨tw, ks, nw, nx, ws, cs, aa, cf, an⟩ := u
  unfold evCells at *
  dsimp only at *
  have hk := fun w => event_inception kind w
  have hd1 := fun w => digest_any pre w
  have hd2 := fun w => digest_any said w
  generalize isP 1 pre = d1 at *
  generalize isP 1 said = d2 at *
  have HB := Lib.hid hb
  have HD := Lib.hid hd
  clear hb hd
  generalize hqq : inK kind = q at *
  clear hqq
  go_enter Tryz.func42, Tryz.ntmps42
  by_cases f1 : form < 1
  · have HR := Lib.hid (show b = 2 by rw [HB.out, if_pos (Or.inl f1)])
    go_wp2_with fail
    go_ret
    rw [HR.out]
    exact ⟨rfl, ext_alloc _ _⟩
  by_cases f2 : 3 < form
  · have HR := Lib.hid (show b = 2 by rw [HB.out, if_pos (Or.inr f2)])
    go_wp2_with fail
    go_ret
    rw [HR.out]
    exact ⟨rfl, ext_alloc _ _⟩
  by_cases k1 : kind < 1
  · have HR := Lib.hid (show b = 11 by rw [HB.out, if_neg (by omega), if_pos (Or.inl k1)])
    go_wp2_with fail
    go_ret
    rw [HR.out]
    exact ⟨rfl, ext_alloc _ _⟩
  by_cases k2 : 5 < kind
  · have HR := Lib.hid (show b = 11 by rw [HB.out, if_neg (by omega), if_pos (Or.inr k2)])
    go_wp2_with fail
    go_ret
    rw [HR.out]
    exact ⟨rfl, ext_alloc _ _⟩
  have HB2 := Lib.hid (show b = if n = false then 16 else if d = false then 17 else if p = false then 15 else 0 by rw [HB.out, if_neg (by omega), if_neg (by omega)])
  clear HB
  go_wp2_with (refine wpList_load_row rfl 35 _ rfl w.heap.size rfl 35 _ _ _ (heap_alloc_new _ _) Tryz.underlying35 rfl (by kernel_rfl) ?_)
  refine (hnum _).mono ?_
  rintro r w1 ⟨rfl, b1⟩
  have hrow := rowLater b1 (hA1_0 _ _)
  have hB := ext_trans (ext_alloc _ _) b1
  clear hnum b1
  cases n with
  | false =>
    have HR := Lib.hid (show b = 16 by rw [HB2.out, if_pos rfl])
    go_wp2_with fail
    go_ret
    rw [HR.out]
    exact ⟨rfl, hB⟩
  | true =>
  have HB3 := Lib.hid (show b = if d = false then 17 else if p = false then 15 else 0 by rw [HB2.out, if_neg (by simp)])
  clear HB2
  have c3 := cell_of_row _ _ 3 _ _ _ hrow
  go_wp2_with fail
  refine (hd1 _).mono ?_
  rintro r w2 ⟨rfl, b2⟩
  have hrow2 := rowLater b2 hrow
  have hB2 := ext_trans hB b2
  clear hd1 b2 hrow hB c3
  cases d1 with
  | false =>
    have HR := Lib.hid (show b = 17 by rw [HB3.out, HD.out]; rfl)
    go_wp2_with fail
    go_ret
    rw [HR.out]
    exact ⟨rfl, hB2⟩
  | true =>
  have c2 := cell_of_row _ _ 2 _ _ _ hrow2
  go_wp2_with fail
  refine (hd2 _).mono ?_
  rintro r w3 ⟨rfl, b3⟩
  have hrow3 := rowLater b3 hrow2
  have hB3 := ext_trans hB2 b3
  clear hd2 b3 hrow2 hB2 c2
  cases d2 with
  | false =>
    have HR := Lib.hid (show b = 17 by rw [HB3.out, HD.out]; rfl)
    go_wp2_with fail
    go_ret
    rw [HR.out]
    exact ⟨rfl, hB3⟩
  | true =>
  have c1 := cell_of_row _ _ 1 _ _ _ hrow3
  have c2 := cell_of_row _ _ 2 _ _ _ hrow3
  have c3 := cell_of_row _ _ 3 _ _ _ hrow3
  go_wp2_with fail
  refine (hk _).mono ?_
  rintro r w4 ⟨rfl, rfl⟩
  clear hk
  by_cases hq : (q && decide (pre ≠ said)) = true
  · have HR := Lib.hid (show b = 17 by rw [HB3.out, HD.out, hq]; rfl)
    rw [Bool.and_eq_true, decide_eq_true_eq] at hq
    obtain ⟨rfl, hne⟩ := hq
    have t0 : (pre == said) = false := by simpa using hne
    have t1 : ¬ (pre = said) := hne
    go_wp2_with fail
    go_ret
    rw [HR.out]
    exact ⟨rfl, hB3⟩
  · have HD2 := Lib.hid (show b = if p = false then 15 else 0 by rw [HB3.out, HD.out, show (q && decide (pre ≠ said)) = false by simpa using hq, if_neg (by simp)])
    clear HB3 HD
    cases q with
    | false =>
      go_wp2_with (refine wpList_load_row rfl 35 _ rfl w.heap.size rfl 35 _ _ _ hrow3 Tryz.underlying35 rfl (by kernel_rfl) ?_)
      refine (hpri _).mono ?_
      rintro r w5 ⟨rfl, b5⟩
      cases p with
      | false =>
        have HR := Lib.hid (show b = 15 by rw [HD2.out, if_pos rfl])
        go_wp2_with fail
        go_ret
        rw [HR.out]
        exact ⟨rfl, ext_trans hB3 b5⟩
      | true =>
        have HR := Lib.hid (show b = 0 by rw [HD2.out, if_neg (by simp)])
        go_wp2_with fail
        go_ret
        rw [HR.out]
        exact ⟨rfl, ext_trans hB3 b5⟩
    | true =>
      have hne : pre = said := by simpa using hq
      subst hne
      clear hq
      go_wp2_with (refine wpList_load_row rfl 35 _ rfl w.heap.size rfl 35 _ _ _ hrow3 Tryz.underlying35 rfl (by kernel_rfl) ?_)
      refine (hpri _).mono ?_
      rintro r w5 ⟨rfl, b5⟩
      cases p with
      | false =>
        have HR := Lib.hid (show b = 15 by rw [HD2.out, if_pos rfl])
        go_wp2_with fail
        go_ret
        rw [HR.out]
        exact ⟨rfl, ext_trans hB3 b5⟩
      | true =>
        have HR := Lib.hid (show b = 0 by rw [HD2.out, if_neg (by simp)])
        go_wp2_with fail
        go_ret
        rw [HR.out]
        exact ⟨rfl, ext_trans hB3 b5⟩

end Go.Proofs.YtkinlobfdkeamaaGreatDoor

