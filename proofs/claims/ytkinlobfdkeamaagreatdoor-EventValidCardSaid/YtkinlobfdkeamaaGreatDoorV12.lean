/- The reference's codes: Code, Raw, lead, Size. The reference's Decode of a primitive. The reference's Open, and Is. -/
import Derived.Test.YtkinlobfdkeamaaGreatDoorV11
import Derived.Test.YtkinlobfdkeamaaGreatDoorV10
import Derived.Deep.QuietTactic
import Derived.BigQuiet
namespace Go.Proofs.YtkinlobfdkeamaaGreatDoor
open Go.RowKit

set_option maxHeartbeats 4000000 in
set_option maxRecDepth 100000 in
theorem r03_code (f : Form) (hf : f ∈ allForms) (w : World) : Calls Tryz.prog 102 #[.int .i64 (f.code : Int)] w fun e w' => e = .returned (.tuple #[.string ⟨f.str.toArray⟩, .bool true]) ∧ Below w.heap.size w w' := by
  simp only [allForms, List.mem_cons, List.not_mem_nil, or_false] at hf
  rcases hf with rfl | rfl | rfl | rfl | rfl | rfl | rfl | rfl <;>
    (go_enter Tryz.func102, Tryz.ntmps102
     go_wp2_with fail
     go_ret2
     exact ⟨rfl, ext_alloc _ _⟩)

set_option maxHeartbeats 4000000 in
set_option maxRecDepth 100000 in
theorem r03_raw (f : Form) (hf : f ∈ allForms) (w : World) : Calls Tryz.prog 103 #[.int .i64 (f.code : Int)] w fun e w' => e = .returned (.int .i64 (f.raw : Int)) ∧ Below w.heap.size w w' := by
  simp only [allForms, List.mem_cons, List.not_mem_nil, or_false] at hf
  rcases hf with rfl | rfl | rfl | rfl | rfl | rfl | rfl | rfl <;>
    (go_enter Tryz.func103, Tryz.ntmps103
     go_wp2_with fail
     go_ret
     exact ⟨rfl, ext_alloc _ _⟩)

set_option maxRecDepth 100000 in
theorem r03_lead (f : Form) (hf : f ∈ allForms) (w : World) : Calls Tryz.prog 104 #[.int .i64 (f.code : Int)] w fun e w' => e = .returned (.int .i64 (f.lead : Int)) ∧ Below w.heap.size w w' := by
  have hr := (form_facts f hf).1
  have h1 : (3 - (f.raw : Int) % 3) % 3 = (f.lead : Int) := by unfold Form.lead; omega
  go_enter Tryz.func104, Tryz.ntmps104
  go_wp2_with fail
  refine (r03_raw f hf _).mono ?_
  rintro e w1 ⟨rfl, b1⟩
  go_wp2_with fail
  go_ret
  rw [← h1]
  exact ⟨rfl, b1⟩

set_option maxRecDepth 100000 in
theorem r03_size (f : Form) (hf : f ∈ allForms) (w : World) : Calls Tryz.prog 182 #[.int .i64 (f.code : Int)] w fun e w' => e = .returned (.int .i64 (f.size : Int)) ∧ Below w.heap.size w w' := by
  obtain ⟨r1, r2, r3, r4, r5, r6, r7⟩ := form_facts f hf
  have h1 : (f.str.length : Int) + ((f.lead : Int) + f.raw) / 3 * 4 - f.lead = (f.size : Int) := by
    unfold Form.size
    have : f.lead ≤ f.str.length + (f.raw + f.lead) / 3 * 4 := by unfold Form.lead at *; omega
    omega
  go_enter Tryz.func182, Tryz.ntmps182
  go_wp2_with fail
  refine (r03_code f hf _).mono ?_
  rintro e w1 ⟨rfl, b1⟩
  go_wp2_with fail
  refine (r03_lead f hf _).mono ?_
  rintro e w2 ⟨rfl, b2⟩
  go_wp2_with fail
  refine (r03_raw f hf _).mono ?_
  rintro e w3 ⟨rfl, b3⟩
  go_wp2_with fail
  refine (r03_lead f hf _).mono ?_
  rintro e w4 ⟨rfl, b4⟩
  go_wp2_with fail
  go_ret
  exact ⟨rfl, ext_trans b1 (ext_trans b2 (ext_trans b3 b4))⟩

end Go.Proofs.YtkinlobfdkeamaaGreatDoor

namespace Go.Proofs.YtkinlobfdkeamaaGreatDoor
open Go.RowKit

theorem form_of (k : Nat) (h1 : 1 ≤ k) (h8 : k ≤ 8) : ∃ f ∈ allForms, f.code = k := by
  have h : ∀ k : Fin 9, 1 ≤ k.val → ∃ f ∈ allForms, f.code = k.val := by
    intro k hk
    match k, hk with
    | ⟨1, _⟩, _ => exact ⟨_, .head _, rfl⟩
    | ⟨2, _⟩, _ => exact ⟨_, .tail _ (.head _), rfl⟩
    | ⟨3, _⟩, _ => exact ⟨_, .tail _ (.tail _ (.head _)), rfl⟩
    | ⟨4, _⟩, _ => exact ⟨_, .tail _ (.tail _ (.tail _ (.head _))), rfl⟩
    | ⟨5, _⟩, _ => exact ⟨_, .tail _ (.tail _ (.tail _ (.tail _ (.head _)))), rfl⟩
    | ⟨6, _⟩, _ => exact ⟨_, .tail _ (.tail _ (.tail _ (.tail _ (.tail _ (.head _))))), rfl⟩
    | ⟨7, _⟩, _ => exact ⟨_, .tail _ (.tail _ (.tail _ (.tail _ (.tail _ (.tail _ (.head _)))))), rfl⟩
    | ⟨8, _⟩, _ => exact ⟨_, .tail _ (.tail _ (.tail _ (.tail _ (.tail _ (.tail _ (.tail _ (.head _))))))), rfl⟩
  exact h ⟨k, by omega⟩ h1
theorem form_code (f : Form) (hf : f ∈ allForms) : 1 ≤ f.code ∧ f.code ≤ 8 := by
  simp only [allForms, List.mem_cons, List.not_mem_nil, or_false] at hf
  rcases hf with rfl | rfl | rfl | rfl | rfl | rfl | rfl | rfl <;> decide
theorem code_inj (f g : Form) (hf : f ∈ allForms) (hg : g ∈ allForms) (h : f.code = g.code) : f = g := by
  simp only [allForms, List.mem_cons, List.not_mem_nil, or_false] at hf hg
  rcases hf with rfl | rfl | rfl | rfl | rfl | rfl | rfl | rfl <;> rcases hg with rfl | rfl | rfl | rfl | rfl | rfl | rfl | rfl <;> first | rfl | (exfalso; revert h; decide)

theorem prefix_take (t p : List UInt8) : Lib.hasPrefix t p = (decide (p.length ≤ t.length) && (t.take p.length == p)) := by
  unfold Lib.hasPrefix
  rw [Bool.eq_iff_iff, List.isPrefixOf_iff_prefix, Bool.and_eq_true, decide_eq_true_eq, beq_iff_eq]
  constructor
  · intro h
    exact ⟨h.length_le, (List.prefix_iff_eq_take.1 h).symm⟩
  · intro h
    rw [List.prefix_iff_eq_take]
    exact h.2.symm

/-- The way out with an error. -/
theorem r03Out {w W : World} (hq : W.heap[w.heap.size]? = some (.cells #[.int .i64 0, .string ⟨#[]⟩] 83 (0, 0))) (hb : Below w.heap.size w W) (t : List UInt8) (e : Int) (he : decP t = .inl e) (a : Act)
    (h2 : a.tmps.getD 2 undef = .pointer (some ⟨w.heap.size, 0, none⟩)) (h3 : a.tmps.getD 3 undef = .int .i64 0) (h4 : a.tmps.getD 4 undef = .int .i64 e) (hd : a.defers = []) :
    bodyPost Tryz.prog Tryz.f157 (fun e w' => e = .returned (decPV (decP t)) ∧ Below w.heap.size w w') Exit.ret a (W.setRow w.heap.size #[.int .i64 0, .string ⟨#[]⟩]) := by
  refine bodyPost_ret (results_ctt rfl _ _ w.heap.size _ _ _ _ h2 (setRow_heap _ _ _ _ _ _ hq) Tryz.underlying83 rfl (by kernel_rfl)) hd ⟨?_, below_setRow' hb (Nat.le_refl _) _⟩
  rw [he, h3, h4]
  rfl

/-- What stands while the codes are tried. -/
structure TryW (w0 w : World) : Prop where
  p : w.heap[w0.heap.size]? = some (.cells #[.int .i64 0, .string ⟨#[]⟩] 83 (0, 0))
  low : Below w0.heap.size w0 w
theorem TryW.later {w0 w w' : World} (h : TryW w0 w) (b : Below w.heap.size w w') : TryW w0 w' :=
  ⟨(b.block _ (Array.getElem?_eq_some_iff.1 h.p).1).trans h.p, ext_trans h.low b⟩

theorem head2 (c : UInt8) (n : Nat) (h : n ≤ 2) : (⟨#[c, c]⟩ : ByteArray).extract 0 n = ⟨(List.replicate n c).toArray⟩ := by
  have e : n = 0 ∨ n = 1 ∨ n = 2 := by omega
  rcases e with rfl | rfl | rfl <;> (apply ByteArray.ext; apply Array.toList_inj.1; rw [Lib.extract_data]; rfl)

theorem decL_len_aux : ∀ (m : Nat) (l : List UInt8), l.length = 4 * m → ∀ all, decL l = some all → all.length = 3 * m := by
  intro m
  induction m with
  | zero =>
    intro l hl all h
    have : l = [] := List.length_eq_zero_iff.1 (by omega)
    subst this
    cases h
    rfl
  | succ m ih =>
    intro l hl all h
    match l, hl with
    | a :: b :: c :: d :: r, hl =>
      rw [decL_step] at h
      cases hn : numL [a, b, c, d] 0 with
      | none => rw [hn] at h; cases h
      | some n =>
        rw [hn] at h
        cases hr : decL r with
        | none => rw [hr] at h; cases h
        | some x =>
          rw [hr] at h
          cases h
          have := ih r (by rw [List.length_cons, List.length_cons, List.length_cons, List.length_cons] at hl; omega) x hr
          rw [List.length_append, this]
          show 3 + 3 * m = _
          omega
    | [], hl => simp at hl
    | [_], hl => simp at hl; omega
    | [_, _], hl => simp at hl; omega
    | [_, _, _], hl => simp at hl; omega
theorem decL_len (l : List UInt8) (all : List UInt8) (h : decL l = some all) (h4 : l.length % 4 = 0) : 4 * all.length = 3 * l.length := by
  have := decL_len_aux (l.length / 4) l (by omega) all h
  omega

set_option maxHeartbeats 8000000 in
set_option maxRecDepth 100000 in
theorem r03_dec (t : List UInt8) (w : World) : Calls Tryz.prog 157 #[.string ⟨t.toArray⟩] w fun e w' => e = .returned (decPV (decP t)) ∧ Below w.heap.size w w' := by
  go_enter Tryz.func157, Tryz.ntmps157
  go_wp2_with fail
  have h0 : TryW w (w.alloc (.cells #[.int .i64 0, .string ⟨#[]⟩] 83)) := ⟨heap_alloc_new _ _, ext_alloc _ _⟩
  generalize w.alloc (.cells #[.int .i64 0, .string ⟨#[]⟩] 83) = w1 at h0 ⊢
  go_loopw [5] (fun v5 wr => ∃ k : Nat, 1 ≤ k ∧ k ≤ 9 ∧ v5 = .int .i64 (k : Int) ∧ (∀ f ∈ allForms, f.code < k → Lib.hasPrefix t f.str = false) ∧ TryW w wr) (fun v5 _ => (9 - intOf v5).toNat)
  case atStart => exact ⟨1, by omega, by omega, rfl, fun f hf h => by have := (form_code f hf).1; omega, h0⟩
  case round =>
    obtain ⟨k, hk1, hk9, rfl, hno, hT⟩ := hrel
    by_cases hlt : k ≤ 8
    · obtain ⟨f, hf, rfl⟩ := form_of k hk1 hlt
      obtain ⟨r1, r2, r3, r4, r5, r6, r7⟩ := form_facts f hf
      have j0 : (f.code : Int) ≤ 8 := by omega
      have hcode := fun w => r03_code f hf w
      have HNO := Lib.hid hno
      clear hno
      go_wp2_with fail
      refine (hcode _).mono ?_
      rintro e w2 ⟨rfl, b2⟩
      have hT2 := hT.later b2
      by_cases hl : t.length < f.str.length
      · have hp : Lib.hasPrefix t f.str = false := by rw [prefix_take, decide_eq_false (by omega)]; rfl
        have j1 : decide (t.length < f.str.length) = true := by simpa using hl
        have hnext : ∀ g ∈ allForms, g.code < f.code + 1 → Lib.hasPrefix t g.str = false := fun g hg h => by
          by_cases e : g.code = f.code
          · rw [code_inj g f hg hf e]; exact hp
          · exact HNO.out g hg (by omega)
        have HX := Lib.hid hnext
        clear hnext
        go_wp2_with fail
        exact ⟨⟨f.code + 1, by omega, by omega, by go_num, HX.out, hT2⟩, by simp only [intOf]; omega⟩
      · have j1 : decide (t.length < f.str.length) = false := by simpa using hl
        have ji : (f.str.length : Int) ≤ t.length := by omega
        have jn : f.str.length ≤ t.length := by omega
        have hex : (⟨t.toArray⟩ : ByteArray).extract 0 f.str.length = ⟨(t.take f.str.length).toArray⟩ := by
          apply ByteArray.ext; apply Array.toList_inj.1; rw [Lib.extract_data]; rfl
        have hpt := prefix_take t f.str
        rw [decide_eq_true jn, Bool.true_and] at hpt
        cases hp : Lib.hasPrefix t f.str with
        | false =>
          rw [hp] at hpt
          have hnext : ∀ g ∈ allForms, g.code < f.code + 1 → Lib.hasPrefix t g.str = false := fun g hg h => by
            by_cases e : g.code = f.code
            · rw [code_inj g f hg hf e]; exact hp
            · exact HNO.out g hg (by omega)
          have HX := Lib.hid hnext
          have hne : ((t.take f.str.length) == f.str) = false := hpt.symm
          clear hnext hpt
          generalize t.take f.str.length = P at hex hne
          go_wp2_with fail
          exact ⟨⟨f.code + 1, by omega, by omega, by go_num, HX.out, hT2⟩, by simp only [intOf]; omega⟩
        | true =>
          rw [hp] at hpt
          have hPe : t.take f.str.length = f.str := by simpa using hpt.symm
          rw [hPe] at hex
          have hfF := findF_of t f hf hp
          clear hpt hPe
          have hsize := fun w => r03_size f hf w
          have hlead := fun w => r03_lead f hf w
          go_wp2_with fail
          refine (hsize _).mono ?_
          rintro e w3 ⟨rfl, b3⟩
          have hT3 := hT2.later b3
          by_cases hls : t.length < f.size
          · have hd : decP t = .inl 8 := by unfold decP; rw [hfF]; simp only; rw [if_pos hls]
            have HD := Lib.hid hd
            have j2 : (t.length : Int) < f.size := by omega
            have hq := hT3.p
            clear hd
            go_wp2_with (refine wpList_store_row rfl 83 _ _ rfl w.heap.size #[.int .i64 0, .string ⟨#[]⟩] rfl rfl 83 _ hq (by kernel_rfl) rfl (by kernel_rfl) ?_)
            exact r03Out hq hT3.low t 8 HD.out { tmps := _, defers := [] } rfl rfl rfl rfl
          · have j2 : ¬ ((t.length : Int) < f.size) := by omega
            go_wp2_with fail
            refine (hlead _).mono ?_
            rintro e w4 ⟨rfl, b4⟩
            have hT4 := hT3.later b4
            have hT4' : TryW w w4.drew := ⟨hT4.p, hT4.low.drew⟩
            go_wp2_with fail
            have hA : (⟨#[65, 65]⟩ : ByteArray).extract 0 f.lead = ⟨(List.replicate f.lead (65 : UInt8)).toArray⟩ := head2 65 f.lead r7
            have hZ : (⟨#[0, 0]⟩ : ByteArray).extract 0 f.lead = ⟨(List.replicate f.lead (0 : UInt8)).toArray⟩ := head2 0 f.lead r7
            obtain ⟨A, hAe⟩ : ∃ A, A = List.replicate f.lead (65 : UInt8) := ⟨_, rfl⟩
            obtain ⟨Z, hZe⟩ : ∃ Z, Z = List.replicate f.lead (0 : UInt8) := ⟨_, rfl⟩
            rw [← hAe] at hA
            rw [← hZe] at hZ
            have hAl : A.length = f.lead := by rw [hAe, List.length_replicate]
            have hZl : Z.length = f.lead := by rw [hZe, List.length_replicate]
            have k0 : (f.lead : Int) ≤ 2 := by omega
            have k1 : f.size ≤ t.length := by omega
            have k2 : (f.str.length : Int) ≤ f.size := by omega
            have k3 : (f.size : Int) ≤ t.length := by omega
            have hcat : (⟨A.toArray⟩ : ByteArray) ++ (⟨t.toArray⟩ : ByteArray).extract f.str.length f.size = ⟨(A ++ (t.take f.size).drop f.str.length).toArray⟩ := by
              apply ByteArray.ext; apply Array.toList_inj.1
              rw [ByteArray.data_append, Array.toList_append, Lib.extract_data, List.drop_take]
            have hXl : (A ++ (t.take f.size).drop f.str.length).length = f.lead + (f.size - f.str.length) := by
              rw [List.length_append, hAl, List.length_drop, List.length_take]; omega
            have hdec := fun w => r01_decode (A ++ (t.take f.size).drop f.str.length) (by omega) (by omega) w
            have hdl := decL_len (A ++ (t.take f.size).drop f.str.length)
            rw [hXl] at hdl
            rw [← hcat] at hdec
            have hdp : decP t = match decL (A ++ (t.take f.size).drop f.str.length) with
                | none => .inl 4
                | some all => if Lib.hasPrefix all Z then .inr (f, all.drop f.lead) else .inl 4 := by
              unfold decP; rw [hfF]; simp only; rw [if_neg hls, hAe, hZe]; rfl
            have hcap : ¬ 9223372036854775807 < f.lead + (f.size - f.str.length) := by omega
            clear hcat hXl
            generalize decL (A ++ (t.take f.size).drop f.str.length) = o at hdec hdp hdl
            have HDP := Lib.hid hdp
            have HAe := Lib.hid hAe
            have HZe := Lib.hid hZe
            clear hdp hAe hZe hfF
            cases o with
            | none =>
              rw [decV] at hdec
              clear hdl
              go_region_with (first
                | (go_at_call 182; refine (hsize _).mono ?_; rintro e w5 ⟨rfl, b5⟩)
                | (go_at_call 183; refine (hdec _).mono ?_; rintro e w6 ⟨rfl, b6⟩))
              have HD := Lib.hid (show decP t = .inl 4 from HDP.out)
              have hT6 := (hT4'.later b5).later b6
              have hq := hT6.p
              clear hdec hA hex
              go_simp
              go_wp2_with fail
              go_quiet (fail)
              have hT7 : TryW w (w6.drewN nq) := ⟨hT6.p, ext_drewN hT6.low nq⟩
              have hq7 := hT7.p
              generalize w6.drewN nq = w7 at hT7 hq7 ⊢
              go_wp2_with (refine wpList_store_row rfl 83 _ _ rfl w.heap.size #[.int .i64 0, .string ⟨#[]⟩] rfl rfl 83 _ hq7 (by kernel_rfl) rfl (by kernel_rfl) ?_)
              exact r03Out hq7 hT7.low t 4 HD.out { tmps := _, defers := [] } rfl rfl rfl rfl
            | some all =>
              rw [decV] at hdec
              have hall := hdl all rfl r6
              go_region_with (first
                | (go_at_call 182; refine (hsize _).mono ?_; rintro e w5 ⟨rfl, b5⟩)
                | (go_at_call 183; refine (hdec _).mono ?_; rintro e w6 ⟨rfl, b6⟩))
              have hT6 := (hT4'.later b5).later b6
              clear hdec hA hex
              have m0 : f.lead ≤ all.length := by omega
              have m1 : (f.lead : Int) ≤ all.length := by omega
              have hxa : (⟨all.toArray⟩ : ByteArray).extract 0 f.lead = ⟨(all.take f.lead).toArray⟩ := by
                apply ByteArray.ext; apply Array.toList_inj.1; rw [Lib.extract_data]; rfl
              have hpz : Lib.hasPrefix all Z = (all.take f.lead == Z) := by
                rw [prefix_take, decide_eq_true (by omega), Bool.true_and, hZl]
              go_simp
              cases hz : Lib.hasPrefix all Z with
              | false =>
                rw [hz] at hpz
                have HD := Lib.hid (show decP t = .inl 4 by rw [HDP.out, hz]; rfl)
                have hne := hpz.symm
                clear hpz
                generalize all.take f.lead = P at hxa hne
                go_wp2_with fail
                go_quiet (fail)
                have hT7 : TryW w (w6.drewN nq) := ⟨hT6.p, ext_drewN hT6.low nq⟩
                have hq7 := hT7.p
                generalize w6.drewN nq = w7 at hT7 hq7 ⊢
                go_wp2_with (refine wpList_store_row rfl 83 _ _ rfl w.heap.size #[.int .i64 0, .string ⟨#[]⟩] rfl rfl 83 _ hq7 (by kernel_rfl) rfl (by kernel_rfl) ?_)
                exact r03Out hq7 hT7.low t 4 HD.out { tmps := _, defers := [] } rfl rfl rfl rfl
              | true =>
                rw [hz] at hpz
                have HD := Lib.hid (show decP t = .inr (f, all.drop f.lead) by rw [HDP.out, hz]; rfl)
                have hPe : all.take f.lead = Z := by simpa using hpz.symm
                rw [hPe] at hxa
                clear hpz hPe
                go_wp2_with fail
                go_quiet (fail)
                have hT7 : TryW w (w6.drewN nq) := ⟨hT6.p, ext_drewN hT6.low nq⟩
                generalize w6.drewN nq = w7 at hT7 ⊢
                have hxd : (⟨all.toArray⟩ : ByteArray).extract f.lead all.length = ⟨(all.drop f.lead).toArray⟩ := by
                  apply ByteArray.ext; apply Array.toList_inj.1; rw [Lib.extract_data]
                  exact List.take_of_length_le (by rw [List.length_drop]; exact Nat.le_refl _)
                obtain ⟨raw, hraw⟩ : ∃ raw, raw = all.drop f.lead := ⟨_, rfl⟩
                rw [← hraw] at hxd
                have HRW := Lib.hid hraw
                clear hraw
                have hT7' : TryW w w7.drew := ⟨hT7.p, hT7.low.drew⟩
                go_wp2_with fail
                go_region_with (go_at_call 182; refine (hsize _).mono ?_; rintro e w8 ⟨rfl, b8⟩
                                have hT8 := hT7'.later b8
                                have d0 : w8.cell? ⟨w.heap.size, 0, none⟩ = some (.int .i64 0) := cell_of_row _ _ 0 _ _ _ hT8.p
                                have d1 : w8.cell? ⟨w.heap.size, 1, none⟩ = some (.string ⟨#[]⟩) := cell_of_row _ _ 1 _ _ _ hT8.p
                                have df : ∀ j, w8.frozen? ⟨w.heap.size, j, none⟩ = false := fun j => frozen_of_row hT8.p)
                have hC := Lib.heap_setCell_same (i := 1) (Lib.heap_setCell_same (i := 0) hT8.p (Value.int .i64 (f.code : Int))) (Value.string ⟨raw.toArray⟩)
                have hlow8 : Below w.heap.size w ((w8.setCell ⟨w.heap.size, 0, none⟩ (Value.int .i64 (f.code : Int))).setCell ⟨w.heap.size, 1, none⟩ (Value.string ⟨raw.toArray⟩)) := (hT8.low.setCell (by simp) _).setCell (by simp) _
                have hC2 : ((w8.setCell ⟨w.heap.size, 0, none⟩ (Value.int .i64 (f.code : Int))).setCell ⟨w.heap.size, 1, none⟩ (Value.string ⟨raw.toArray⟩)).heap[w.heap.size]? = some (.cells #[.int .i64 (f.code : Int), .string ⟨raw.toArray⟩] 83 (0, 0)) := hC
                clear hC d0 d1 df
                generalize (w8.setCell ⟨w.heap.size, 0, none⟩ (Value.int .i64 (f.code : Int))).setCell ⟨w.heap.size, 1, none⟩ (Value.string ⟨raw.toArray⟩) = w9 at hC2 hlow8 ⊢
                go_simp
                go_wp2_with fail
                refine bodyPost_ret (results_ctt rfl _ _ w.heap.size _ _ _ _ rfl hC2 Tryz.underlying83 rfl (by kernel_rfl)) rfl ⟨?_, hlow8⟩
                rw [HD.out, ← HRW.out]
                rfl
    · have hk : k = 9 := by omega
      subst hk
      rw [show ((9 : Nat) : Int) = 9 from rfl]
      have hd : decP t = .inl 7 := by
        unfold decP
        rw [findF_none t (fun f hf => hno f hf (by have := (form_code f hf).2; omega))]
      have HD := Lib.hid hd
      have hp := hT.p
      clear hd hno
      go_wp2_with (refine wpList_store_row rfl 83 _ _ rfl w.heap.size #[.int .i64 0, .string ⟨#[]⟩] rfl rfl 83 _ hp (by kernel_rfl) rfl (by kernel_rfl) ?_)
      exact r03Out hp hT.low t 7 HD.out { tmps := _, defers := [] } rfl rfl rfl rfl

end Go.Proofs.YtkinlobfdkeamaaGreatDoor

namespace Go.Proofs.YtkinlobfdkeamaaGreatDoor
open Go.RowKit

set_option maxHeartbeats 4000000 in
set_option maxRecDepth 100000 in
theorem r03_open (c : Int) (t : List UInt8) (w : World) : Calls Tryz.prog 126 #[.int .i64 c, .string ⟨t.toArray⟩] w fun e w' => e = .returned (.tuple #[.string ⟨(openP c t).1.toArray⟩, .int .i64 (openP c t).2]) ∧ Below w.heap.size w w' := by
  go_enter Tryz.func126, Tryz.ntmps126
  go_wp2_with fail
  refine (r03_dec t _).mono ?_
  rintro e w1 ⟨rfl, b1⟩
  cases hD : decP t with
  | inl e =>
    have he := decP_err t e hD
    have h0 : (e == 0) = false := by simpa using he
    have HO := Lib.hid (show openP c t = ([], e) by unfold openP; rw [hD])
    rw [decPV]
    clear hD
    go_wp2_with fail
    go_ret2
    rw [HO.out]
    exact ⟨rfl, ext_trans b1 (ext_alloc _ _)⟩
  | inr p =>
    obtain ⟨f, raw⟩ := p
    rw [decPV]
    have q : (w1.alloc (.cells #[.int .i64 (f.code : Int), .string ⟨raw.toArray⟩] 83)).heap[w1.heap.size]? = _ := heap_alloc_new _ _
    by_cases hc : (f.code : Int) = c
    · subst hc
      by_cases hn : f.size = t.length
      · have HO := Lib.hid (show openP (f.code : Int) t = (raw, 0) by unfold openP; rw [hD]; simp only; rw [if_pos trivial, if_pos hn])
        clear hD
        go_wp2_with fail
        go_ret2
        rw [HO.out]
        exact ⟨rfl, ext_trans b1 (ext_alloc _ _)⟩
      · have HO := Lib.hid (show openP (f.code : Int) t = ([], 8) by unfold openP; rw [hD]; simp only; rw [if_pos trivial, if_neg hn])
        have t0 : ((f.size : Int) != (t.length : Int)) = true := by simp; omega
        clear hD
        go_wp2_with fail
        go_ret2
        rw [HO.out]
        exact ⟨rfl, ext_trans b1 (ext_alloc _ _)⟩
    · have HO := Lib.hid (show openP c t = ([], 7) by unfold openP; rw [hD]; simp only; rw [if_neg hc])
      have t0 : ((f.code : Int) != c) = true := by simpa using hc
      clear hD
      go_wp2_with fail
      go_ret2
      rw [HO.out]
      exact ⟨rfl, ext_trans b1 (ext_alloc _ _)⟩

set_option maxRecDepth 100000 in
theorem r03_is (c : Int) (t : List UInt8) (w : World) : Calls Tryz.prog 87 #[.int .i64 c, .string ⟨t.toArray⟩] w fun e w' => e = .returned (.bool (isP c t)) ∧ Below w.heap.size w w' := by
  go_enter Tryz.func87, Tryz.ntmps87
  go_wp2_with fail
  refine (r03_open c t _).mono ?_
  rintro e w1 ⟨rfl, b1⟩
  go_wp2_with fail
  go_ret
  exact ⟨rfl, b1⟩
set_option maxRecDepth 100000 in
theorem r14_digest (t : List UInt8) (w : World) : Calls Tryz.prog 53 #[.string ⟨t.toArray⟩] w fun e w' => e = .returned (.bool (isP 1 t)) ∧ Below w.heap.size w w' := by
  go_enter Tryz.func53, Tryz.ntmps53
  go_wp2_with fail
  refine (r03_is 1 t _).mono ?_
  rintro e w1 ⟨rfl, b1⟩
  go_wp2_with fail
  go_ret
  exact ⟨rfl, b1⟩

end Go.Proofs.YtkinlobfdkeamaaGreatDoor

