/- The program's lead and size of a form. The program's Decode of a primitive. The program's Open, and the three tests of texts. -/
import Derived.Test.YtkinlobfdkeamaaGreatDoorV10
import Derived.Deep.RegionHeld3
import Derived.Deep.DeepCutAuto
import Derived.Test.YtkinlobfdkeamaaGreatDoorV09
namespace Go.Proofs.YtkinlobfdkeamaaGreatDoor
open Go.RowKit

def Form.lead (f : Form) : Nat := (3 - f.raw % 3) % 3
def Form.size (f : Form) : Nat := f.str.length + (f.raw + f.lead) / 3 * 4 - f.lead

set_option maxRecDepth 100000 in
theorem lead_any (f : Form) (hr : f.raw ≤ 1000) (w : World) : Calls Tryz.prog 154 #[f.val] w fun e w' => e = .returned (.int .i64 (f.lead : Int)) ∧ Below w.heap.size w w' := by
  unfold Form.val
  have h1 : (3 - (f.raw : Int) % 3) % 3 = (f.lead : Int) := by unfold Form.lead; omega
  go_enter Tryz.func154, Tryz.ntmps154
  go_wp2_with fail
  go_ret
  rw [← h1]
  exact ⟨rfl, ext_alloc _ _⟩

theorem held3 {w0 W w' : World} {a b : Addr} {u v : Value} (h : W.cell? a = some u ∧ W.cell? b = some v ∧ Below w0.heap.size w0 W) (bb : Below W.heap.size W w') : w'.cell? a = some u ∧ w'.cell? b = some v ∧ Below w0.heap.size w0 w' :=
  ⟨cellLater bb h.1, cellLater bb h.2.1, ext_trans h.2.2 bb⟩

set_option maxHeartbeats 4000000 in
set_option maxRecDepth 100000 in
theorem size_any (f : Form) (hr : f.raw ≤ 1000) (hl : f.str.length ≤ 100) (w : World) : Calls Tryz.prog 152 #[f.val] w fun e w' => e = .returned (.int .i64 (f.size : Int)) ∧ Below w.heap.size w w' := by
  have hlead := fun w => lead_any f hr w
  unfold Form.val at hlead ⊢
  have hlb : f.lead ≤ 2 := by unfold Form.lead; omega
  go_enter Tryz.func152, Tryz.ntmps152
  go_wp2_with fail
  have c0 : (w.alloc (.cells #[.string ⟨f.str.toArray⟩, .int .i64 (f.raw : Int)] 157)).cell? ⟨w.heap.size, 0, none⟩ = some (.string ⟨f.str.toArray⟩) := cell_of_row _ _ 0 _ _ _ (heap_alloc_new _ _)
  have c1 : (w.alloc (.cells #[.string ⟨f.str.toArray⟩, .int .i64 (f.raw : Int)] 157)).cell? ⟨w.heap.size, 1, none⟩ = some (.int .i64 (f.raw : Int)) := cell_of_row _ _ 1 _ _ _ (heap_alloc_new _ _)
  have b0 : Below w.heap.size w (w.alloc (.cells #[.string ⟨f.str.toArray⟩, .int .i64 (f.raw : Int)] 157)) := ext_alloc _ _
  have s0 : IntKind.i64.wrap ((f.raw : Int) + f.lead) = (f.raw : Int) + f.lead := IntWalk.i64_in _ (by omega)
  generalize w.alloc (.cells #[.string ⟨f.str.toArray⟩, .int .i64 (f.raw : Int)] 157) = w1 at c0 c1 b0 ⊢
  go_region_held3 (fun w' => w'.cell? ⟨w.heap.size, 0, none⟩ = some (.string ⟨f.str.toArray⟩) ∧ w'.cell? ⟨w.heap.size, 1, none⟩ = some (.int .i64 (f.raw : Int)) ∧ Below w.heap.size w w')
    (first | exact ⟨c0, c1, b0.drew⟩ | exact ⟨cellLater bb c0, cellLater bb c1, ext_trans b0.drew bb⟩ | exact held3 (by assumption) bb | go_keep)
    (first | (go_at_call 154; refine (hlead _).mono ?_; rintro e w' ⟨rfl, bb⟩))
  have hfin : ∃ w'', Below w.heap.size w w'' := ⟨_, b0⟩
  clear hfin
  have e1 : ((f.raw : Int) + f.lead).tdiv 3 = (((f.raw + f.lead) / 3 : Nat) : Int) := by rw [Int.tdiv_eq_ediv_of_nonneg (by omega)]; omega
  have e2 : IntKind.i64.wrap (((f.raw + f.lead) / 3 : Nat) : Int) = (((f.raw + f.lead) / 3 : Nat) : Int) := IntWalk.i64_in _ (by omega)
  have e3 : IntKind.i64.wrap ((((f.raw + f.lead) / 3 : Nat) : Int) * 4) = (((f.raw + f.lead) / 3 : Nat) : Int) * 4 := IntWalk.i64_in _ (by omega)
  have e4 : IntKind.i64.wrap ((f.str.length : Int) + (((f.raw + f.lead) / 3 : Nat) : Int) * 4) = (f.str.length : Int) + (((f.raw + f.lead) / 3 : Nat) : Int) * 4 := IntWalk.i64_in _ (by omega)
  have e5 : IntKind.i64.wrap ((f.str.length : Int) + (((f.raw + f.lead) / 3 : Nat) : Int) * 4 - f.lead) = (f.size : Int) := by
    rw [IntWalk.i64_in _ (by omega)]
    unfold Form.size
    have : f.lead ≤ f.str.length + (f.raw + f.lead) / 3 * 4 := by unfold Form.lead at *; omega
    omega
  rw [e1, e2, e3, e4, e5]
  go_split_ands
  clear e1 e2 e3 e4 e5 s0 c0 c1
  go_wp2_with fail
  go_ret
  exact ⟨rfl, by assumption⟩

end Go.Proofs.YtkinlobfdkeamaaGreatDoor

namespace Go.Proofs.YtkinlobfdkeamaaGreatDoor
open Go.RowKit

/-- What a text begins with: an error, or a form and raw bytes. -/
def decP (t : List UInt8) : Int ⊕ (Form × List UInt8) :=
  match findF t with
  | none => .inl 7
  | some f =>
    if t.length < f.size then .inl 8
    else match decL (List.replicate f.lead 65 ++ (t.take f.size).drop f.str.length) with
      | none => .inl 4
      | some all => if Lib.hasPrefix all (List.replicate f.lead 0) then .inr (f, all.drop f.lead) else .inl 4
def decPV : Int ⊕ (Form × List UInt8) → Value
  | .inl e => .tuple #[.agg #[.int .i64 0, .string ⟨#[]⟩], .int .i64 0, .int .i64 e]
  | .inr (f, raw) => .tuple #[.agg #[.int .i64 (f.code : Int), .string ⟨raw.toArray⟩], .int .i64 (f.size : Int), .int .i64 0]

theorem repeat_one (c : UInt8) (n : Nat) : Lib.repeatL [c] n = List.replicate n c := by
  induction n with
  | zero => rfl
  | succ n ih => rw [Lib.repeatL, ih]; rfl

theorem form_facts (f : Form) (hf : f ∈ allForms) : f.raw ≤ 1000 ∧ f.str.length ≤ 100 ∧ 0 < f.str.length ∧ f.str.length ≤ f.size ∧ f.size ≤ 1000 ∧ (f.lead + (f.size - f.str.length)) % 4 = 0 ∧ f.lead ≤ 2 := by
  simp only [allForms, List.mem_cons, List.not_mem_nil, or_false] at hf
  rcases hf with rfl | rfl | rfl | rfl | rfl | rfl | rfl | rfl <;> decide

theorem findF_mem {t : List UInt8} {f : Form} (h : findF t = some f) : f ∈ allForms := List.mem_of_find?_eq_some h

theorem results_ctt {P : Program} {fn : Func} {p q r : Tmp} {ty : TypeId} (h : fn.results = #[.cell p ty, .tmp q, .tmp r]) (tmps : Array Value) (w : World) (g : Nat) (t : TypeId) (cs : Array Value) (fr : Nat × Nat) (d : TypeDesc)
    (hp : tmps.getD p undef = .pointer (some ⟨g, 0, none⟩)) (hg : w.heap[g]? = some (.cells cs t fr))
    (hu : P.underlying ty = some d) (hd : (match d with | .struct _ | .array _ _ => true | _ => false) = true) (hi : (P.info? ty).map (·.size) = some cs.size) :
    (results fn tmps).run P w = .ok (.tuple #[.agg cs, tmps.getD q undef, tmps.getD r undef]) w := by
  have hp' : tmps[p]?.getD undef = .pointer (some ⟨g, 0, none⟩) := by simpa using hp
  simp [results, h, hp', asAddr, run_loadVar_row w g t ty cs fr d hg hu hd hi]

/-- The way out with an error. -/
theorem decOut {w W : World} (hq : W.heap[w.heap.size]? = some (.cells #[.int .i64 0, .string ⟨#[]⟩] 83 (0, 0))) (hb : Below w.heap.size w W) (t : List UInt8) (e : Int) (he : decP t = .inl e) (a : Act)
    (h2 : a.tmps.getD 2 undef = .pointer (some ⟨w.heap.size, 0, none⟩)) (h3 : a.tmps.getD 3 undef = .int .i64 0) (h4 : a.tmps.getD 4 undef = .int .i64 e) (hd : a.defers = []) :
    bodyPost Tryz.prog Tryz.f125 (fun e w' => e = .returned (decPV (decP t)) ∧ Below w.heap.size w w') Exit.ret a (W.setRow w.heap.size #[.int .i64 0, .string ⟨#[]⟩]) := by
  refine bodyPost_ret (results_ctt rfl _ _ w.heap.size _ _ _ _ h2 (setRow_heap _ _ _ _ _ _ hq) Tryz.underlying83 rfl (by kernel_rfl)) hd ⟨?_, below_setRow' hb (Nat.le_refl _) _⟩
  rw [he, h3, h4]
  rfl

/-- What stands while a text is decoded. -/
structure DecW (w0 w : World) (n1 : Nat) (f : Form) : Prop where
  p : w.heap[w0.heap.size]? = some (.cells #[.int .i64 0, .string ⟨#[]⟩] 83 (0, 0))
  q : w.heap[n1]? = some (.cells #[.string ⟨f.str.toArray⟩, .int .i64 (f.raw : Int)] 157 (0, 0))
  low : Below w0.heap.size w0 w
theorem DecW.later {w0 w w' : World} {n1 : Nat} {f : Form} (h : DecW w0 w n1 f) (b : Below w.heap.size w w') : DecW w0 w' n1 f :=
  ⟨(b.block _ (Array.getElem?_eq_some_iff.1 h.p).1).trans h.p, (b.block _ (Array.getElem?_eq_some_iff.1 h.q).1).trans h.q, ext_trans h.low b⟩

theorem heldD {w0 W w' : World} {n1 : Nat} {f : Form} {a b : Addr} {u v : Value} (h : W.cell? a = some u ∧ W.cell? b = some v ∧ DecW w0 W n1 f) (bb : Below W.heap.size W w') : w'.cell? a = some u ∧ w'.cell? b = some v ∧ DecW w0 w' n1 f :=
  ⟨cellLater bb h.1, cellLater bb h.2.1, h.2.2.later bb⟩

set_option maxHeartbeats 4000000 in
set_option maxRecDepth 100000 in
theorem dec_any (t : List UInt8) (w : World) : Calls Tryz.prog 125 #[.string ⟨t.toArray⟩] w fun e w' => e = .returned (decPV (decP t)) ∧ Below w.heap.size w w' := by
  go_enter Tryz.func125, Tryz.ntmps125
  go_wp2_with fail
  refine (begins_any t _).mono ?_
  rintro e w1 ⟨rfl, b1⟩
  have z1 := b1.size
  rw [size_alloc] at z1
  have hq1 : w1.heap[w.heap.size]? = some (.cells #[.int .i64 0, .string ⟨#[]⟩] 83 (0, 0)) := (b1.block _ (by rw [size_alloc]; omega)).trans (heap_alloc_new _ _)
  have hb1 : Below w.heap.size w w1 := ext_trans (ext_alloc _ _) b1
  clear b1
  cases hF : findF t with
  | none =>
    have hd : decP t = .inl 7 := by unfold decP; rw [hF]
    have HD := Lib.hid hd
    clear hd
    rw [begV, zeroF]
    have hq2 : ∀ o, (w1.alloc o).heap[w.heap.size]? = some (.cells #[.int .i64 0, .string ⟨#[]⟩] 83 (0, 0)) := fun o => (Lib.alloc_old _ _ _ (by omega)).trans hq1
    go_wp2_with (refine wpList_store_row rfl 83 _ _ rfl w.heap.size #[.int .i64 0, .string ⟨#[]⟩] rfl rfl 83 _ (hq2 _) (by kernel_rfl) rfl (by kernel_rfl) ?_)
    exact decOut (hq2 _) (ext_trans hb1 (ext_alloc _ _)) t 7 HD.out { tmps := _, defers := [] } rfl rfl rfl rfl
  | some f =>
    obtain ⟨r1, r2, r3, r4, r5, r6, r7⟩ := form_facts f (findF_mem hF)
    rw [begV, Form.val]
    have hW : DecW w (w1.alloc (.cells #[.string ⟨f.str.toArray⟩, .int .i64 (f.raw : Int)] 157)) w1.heap.size f :=
      ⟨(Lib.alloc_old _ _ _ (by omega)).trans hq1, heap_alloc_new _ _, ext_trans hb1 (ext_alloc _ _)⟩
    have hne : w.heap.size ≠ w1.heap.size := by omega
    have hsize := fun w => size_any f r1 r2 w
    have hlead := fun w => lead_any f r1 w
    unfold Form.val at hsize hlead
    go_wp2_with fail
    clear hq1 hb1 z1
    generalize w1.alloc (.cells #[.string ⟨f.str.toArray⟩, .int .i64 (f.raw : Int)] 157) = w2 at hW ⊢
    generalize w1.heap.size = n1 at hW hne ⊢
    refine (hsize _).mono ?_
    rintro e w3 ⟨rfl, b3⟩
    have hW3 := hW.later b3
    clear hW
    by_cases hlt : t.length < f.size
    · have hd : decP t = .inl 8 := by unfold decP; rw [hF]; simp only; rw [if_pos hlt]
      have HD := Lib.hid hd
      clear hd
      have j0 : (t.length : Int) < f.size := by omega
      have hp := hW3.p
      go_wp2_with (refine wpList_store_row rfl 83 _ _ rfl w.heap.size #[.int .i64 0, .string ⟨#[]⟩] rfl rfl 83 _ hp (by kernel_rfl) rfl (by kernel_rfl) ?_)
      exact decOut hp hW3.low t 8 HD.out { tmps := _, defers := [] } rfl rfl rfl rfl
    · have j0 : ¬ ((t.length : Int) < f.size) := by omega
      have c0 : w3.cell? ⟨n1, 0, none⟩ = some (.string ⟨f.str.toArray⟩) := cell_of_row _ _ 0 _ _ _ hW3.q
      have c1 : w3.cell? ⟨n1, 1, none⟩ = some (.int .i64 (f.raw : Int)) := cell_of_row _ _ 1 _ _ _ hW3.q
      go_wp2_with fail
      refine (hlead _).mono ?_
      rintro e w4 ⟨rfl, b4⟩
      go_wp2_with fail
      refine (Tryz.strings_Repeat ⟨#[0]⟩ f.lead _ (by omega) (by rw [show (⟨#[0]⟩ : ByteArray).size = 1 from rfl]; omega)).mono ?_
      rintro e w5 ⟨rfl, b5⟩
      have hW5 := (hW3.later b4).later b5
      rw [show (⟨#[0]⟩ : ByteArray).data.toList = [0] from rfl, repeat_one]
      obtain ⟨Z, hZ⟩ : ∃ Z, Z = List.replicate f.lead (0 : UInt8) := ⟨_, rfl⟩
      rw [← hZ]
      have HZ := Lib.hid hZ
      clear hZ
      clear c0 c1 b3 b4 b5 hW3
      go_wp2_with fail
      have c0 : w5.drew.cell? ⟨n1, 0, none⟩ = some (.string ⟨f.str.toArray⟩) := cell_of_row _ _ 0 _ _ _ hW5.q
      have c1 : w5.drew.cell? ⟨n1, 1, none⟩ = some (.int .i64 (f.raw : Int)) := cell_of_row _ _ 1 _ _ _ hW5.q
      have hW5' : DecW w w5.drew n1 f := ⟨hW5.p, hW5.q, hW5.low.drew⟩
      have hrep := fun w => Tryz.strings_Repeat ⟨#[65]⟩ f.lead w (by omega) (by rw [show (⟨#[65]⟩ : ByteArray).size = 1 from rfl]; omega)
      rw [show (⟨#[65]⟩ : ByteArray).data.toList = [65] from rfl, repeat_one] at hrep
      obtain ⟨A, hA⟩ : ∃ A, A = List.replicate f.lead (65 : UInt8) := ⟨_, rfl⟩
      rw [← hA] at hrep
      have hAl : A.length = f.lead := by rw [hA, List.length_replicate]
      have k0 : f.str.length ≤ f.size := r4
      have k1 : f.size ≤ t.length := by omega
      have k2 : (f.str.length : Int) ≤ f.size := by omega
      have k3 : (f.size : Int) ≤ t.length := by omega
      have hcap : ¬ 9223372036854775807 < f.lead + (f.size - f.str.length) := by omega
      have HA := Lib.hid hA
      clear hA
      have hcat : (⟨A.toArray⟩ : ByteArray) ++ (⟨t.toArray⟩ : ByteArray).extract f.str.length f.size = ⟨(A ++ (t.take f.size).drop f.str.length).toArray⟩ := by
        apply ByteArray.ext; apply Array.toList_inj.1
        rw [ByteArray.data_append, Array.toList_append, Lib.extract_data, List.drop_take]
      have hXl : (A ++ (t.take f.size).drop f.str.length).length = f.lead + (f.size - f.str.length) := by
        rw [List.length_append, hAl, List.length_drop, List.length_take]; omega
      have hdec := fun w => b64_decode (A ++ (t.take f.size).drop f.str.length) (by omega) (by omega) w
      rw [← hcat] at hdec
      have hdp : decP t = match decL (A ++ (t.take f.size).drop f.str.length) with
          | none => .inl 4
          | some all => if Lib.hasPrefix all Z then .inr (f, all.drop f.lead) else .inl 4 := by
        unfold decP; rw [hF]; simp only; rw [if_neg hlt, HA.out, HZ.out]
      have hZl : Z.length = f.lead := by rw [HZ.out, List.length_replicate]
      clear hcat hXl
      generalize decL (A ++ (t.take f.size).drop f.str.length) = o at hdec hdp
      have HDP := Lib.hid hdp
      clear hdp
      cases o with
      | none =>
        rw [decV] at hdec
        go_region_held3 (fun w' => w'.cell? ⟨n1, 0, none⟩ = some (.string ⟨f.str.toArray⟩) ∧ w'.cell? ⟨n1, 1, none⟩ = some (.int .i64 (f.raw : Int)) ∧ DecW w w' n1 f)
          (first | exact ⟨c0, c1, hW5'⟩ | exact heldD ⟨c0, c1, hW5'⟩ bb | exact heldD (by assumption) bb | go_keep)
          (first
            | (go_at_call 154; refine (hlead _).mono ?_; rintro e w' ⟨rfl, bb⟩)
            | (go_at_call 152; refine (hsize _).mono ?_; rintro e w' ⟨rfl, bb⟩)
            | (go_at_call 153; refine (hrep _).mono ?_; rintro e w' ⟨rfl, bb⟩)
            | (go_at_call 155; refine (hdec _).mono ?_; rintro e w' ⟨rfl, bb⟩))
        have HDP' : decP t = .inl 4 := HDP.out
        have HD := Lib.hid HDP'
        clear HDP' c0 c1 hW5' hW5 hdec hrep
        go_split_ands
        have hWz : DecW w w' n1 f := by assumption
        go_wp2_with fail
        refine (Tryz.strings_CutPrefix _ _ _).mono ?_
        rintro e w'' ⟨rfl, rfl⟩
        generalize Lib.trimPrefix _ _ = T1
        generalize Lib.hasPrefix _ _ = T2
        have hp := hWz.p
        go_wp2_with (refine wpList_store_row rfl 83 _ _ rfl w.heap.size #[.int .i64 0, .string ⟨#[]⟩] rfl rfl 83 _ hp (by kernel_rfl) rfl (by kernel_rfl) ?_)
        exact decOut hp hWz.low t 4 HD.out { tmps := _, defers := [] } rfl rfl rfl rfl
      | some all =>
        rw [decV] at hdec
        go_region_held3 (fun w' => w'.cell? ⟨n1, 0, none⟩ = some (.string ⟨f.str.toArray⟩) ∧ w'.cell? ⟨n1, 1, none⟩ = some (.int .i64 (f.raw : Int)) ∧ DecW w w' n1 f)
          (first | exact ⟨c0, c1, hW5'⟩ | exact heldD ⟨c0, c1, hW5'⟩ bb | exact heldD (by assumption) bb | go_keep)
          (first
            | (go_at_call 154; refine (hlead _).mono ?_; rintro e w' ⟨rfl, bb⟩)
            | (go_at_call 152; refine (hsize _).mono ?_; rintro e w' ⟨rfl, bb⟩)
            | (go_at_call 153; refine (hrep _).mono ?_; rintro e w' ⟨rfl, bb⟩)
            | (go_at_call 155; refine (hdec _).mono ?_; rintro e w' ⟨rfl, bb⟩))
        have HDP' : decP t = if Lib.hasPrefix all Z then .inr (f, all.drop f.lead) else .inl 4 := HDP.out
        clear c0 c1 hW5' hW5 hdec hrep
        go_split_ands
        have hWz : DecW w w' n1 f := by assumption
        have hp := hWz.p
        cases hpz : Lib.hasPrefix all Z with
        | false =>
          rw [hpz] at HDP'
          have HD := Lib.hid HDP'
          clear HDP'
          go_wp2_with fail
          refine (Tryz.strings_CutPrefix _ _ _).mono ?_
          rintro e w'' ⟨rfl, rfl⟩
          rw [show (⟨all.toArray⟩ : ByteArray).data.toList = all from rfl, show (⟨Z.toArray⟩ : ByteArray).data.toList = Z from rfl, hpz]
          generalize Lib.trimPrefix _ _ = T1
          go_wp2_with (refine wpList_store_row rfl 83 _ _ rfl w.heap.size #[.int .i64 0, .string ⟨#[]⟩] rfl rfl 83 _ hp (by kernel_rfl) rfl (by kernel_rfl) ?_)
          exact decOut hp hWz.low t 4 (by rw [HD.out]; rfl) { tmps := _, defers := [] } rfl rfl rfl rfl
        | true =>
          rw [hpz, if_pos rfl] at HDP'
          have HD := Lib.hid HDP'
          clear HDP'
          have e0 : w'.cell? ⟨n1, 0, none⟩ = some (.string ⟨f.str.toArray⟩) := cell_of_row _ _ 0 _ _ _ hWz.q
          have e1 : w'.cell? ⟨n1, 1, none⟩ = some (.int .i64 (f.raw : Int)) := cell_of_row _ _ 1 _ _ _ hWz.q
          go_wp2_with fail
          refine (Tryz.strings_CutPrefix _ _ _).mono ?_
          rintro e w'' ⟨rfl, rfl⟩
          have htp : Lib.trimPrefix all Z = all.drop f.lead := by unfold Lib.trimPrefix; rw [if_pos hpz, hZl]
          rw [show (⟨all.toArray⟩ : ByteArray).data.toList = all from rfl, show (⟨Z.toArray⟩ : ByteArray).data.toList = Z from rfl, hpz, htp]
          obtain ⟨raw, hraw⟩ : ∃ raw, raw = all.drop f.lead := ⟨_, rfl⟩
          rw [← hraw]
          have HRW := Lib.hid hraw
          clear hraw htp
          go_wp2_with fail
          refine (hsize _).mono ?_
          rintro e w6 ⟨rfl, b6⟩
          have hW6 := hWz.later b6
          have hp6 := hW6.p
          go_wp2_with (refine wpList_store_row rfl 83 _ _ rfl w.heap.size #[.int .i64 (f.code : Int), .string ⟨raw.toArray⟩] rfl rfl 83 _ hp6 (by kernel_rfl) rfl (by kernel_rfl) ?_)
          refine bodyPost_ret (results_ctt rfl _ _ w.heap.size _ _ _ _ rfl (setRow_heap _ _ _ _ _ _ hp6) Tryz.underlying83 rfl (by kernel_rfl)) rfl ⟨?_, below_setRow' hW6.low (Nat.le_refl _) _⟩
          rw [HD.out, ← HRW.out]
          rfl

end Go.Proofs.YtkinlobfdkeamaaGreatDoor

namespace Go.Proofs.YtkinlobfdkeamaaGreatDoor
open Go.RowKit

def openP (c : Int) (t : List UInt8) : List UInt8 × Int :=
  match decP t with
  | .inl e => ([], e)
  | .inr (f, raw) => if (f.code : Int) = c then (if f.size = t.length then (raw, 0) else ([], 8)) else ([], 7)
/-- Is a text just one primitive with a code? -/
def isP (c : Int) (t : List UInt8) : Bool := (openP c t).2 == 0

theorem decP_err (t : List UInt8) (e : Int) (h : decP t = .inl e) : (e != 0) = true := by
  unfold decP at h
  split at h
  · cases h; rfl
  · split at h
    · cases h; rfl
    · split at h
      · cases h; rfl
      · split at h
        · cases h
        · cases h; rfl

theorem decP_mem (t : List UInt8) (f : Form) (raw : List UInt8) (h : decP t = .inr (f, raw)) : f ∈ allForms := by
  unfold decP at h
  split at h
  · cases h
  · rename_i g hg
    split at h
    · cases h
    · split at h
      · cases h
      · split at h
        · cases h; exact findF_mem hg
        · cases h

set_option maxHeartbeats 4000000 in
set_option maxRecDepth 100000 in
theorem open_any (c : Int) (t : List UInt8) (w : World) : Calls Tryz.prog 85 #[.int .i64 c, .string ⟨t.toArray⟩] w fun e w' => e = .returned (.tuple #[.string ⟨(openP c t).1.toArray⟩, .int .i64 (openP c t).2]) ∧ Below w.heap.size w w' := by
  go_enter Tryz.func85, Tryz.ntmps85
  go_wp2_with fail
  refine (dec_any t _).mono ?_
  rintro e w1 ⟨rfl, b1⟩
  cases hD : decP t with
  | inl e =>
    have he := decP_err t e hD
    have h0 : (e == 0) = false := by simpa using he
    have HO := Lib.hid (show openP c t = ([], e) by unfold openP; rw [hD])
    rw [decPV]
    clear hD
    go_wp2_with fail
    go_ret2
    rw [HO.out]
    exact ⟨rfl, ext_trans b1 (ext_alloc _ _)⟩
  | inr p =>
    obtain ⟨f, raw⟩ := p
    rw [decPV]
    have q : (w1.alloc (.cells #[.int .i64 (f.code : Int), .string ⟨raw.toArray⟩] 83)).heap[w1.heap.size]? = _ := heap_alloc_new _ _
    by_cases hc : (f.code : Int) = c
    · subst hc
      by_cases hn : f.size = t.length
      · have HO := Lib.hid (show openP (f.code : Int) t = (raw, 0) by unfold openP; rw [hD]; simp only; rw [if_pos trivial, if_pos hn])
        clear hD
        go_wp2_with fail
        go_ret2
        rw [HO.out]
        exact ⟨rfl, ext_trans b1 (ext_alloc _ _)⟩
      · have HO := Lib.hid (show openP (f.code : Int) t = ([], 8) by unfold openP; rw [hD]; simp only; rw [if_pos trivial, if_neg hn])
        have t0 : ((f.size : Int) != (t.length : Int)) = true := by simp; omega
        clear hD
        go_wp2_with fail
        go_ret2
        rw [HO.out]
        exact ⟨rfl, ext_trans b1 (ext_alloc _ _)⟩
    · have HO := Lib.hid (show openP c t = ([], 7) by unfold openP; rw [hD]; simp only; rw [if_neg hc])
      have t0 : ((f.code : Int) != c) = true := by simpa using hc
      clear hD
      go_wp2_with fail
      go_ret2
      rw [HO.out]
      exact ⟨rfl, ext_trans b1 (ext_alloc _ _)⟩

set_option maxRecDepth 100000 in
theorem digest_any (t : List UInt8) (w : World) : Calls Tryz.prog 51 #[.string ⟨t.toArray⟩] w fun e w' => e = .returned (.bool (isP 1 t)) ∧ Below w.heap.size w w' := by
  go_enter Tryz.func51, Tryz.ntmps51
  go_wp2_with fail
  refine (open_any 1 t _).mono ?_
  rintro e w1 ⟨rfl, b1⟩
  go_wp2_with fail
  go_ret
  exact ⟨rfl, b1⟩
set_option maxRecDepth 100000 in
theorem key_any (t : List UInt8) (w : World) : Calls Tryz.prog 78 #[.string ⟨t.toArray⟩] w fun e w' => e = .returned (.bool (isP 2 t)) ∧ Below w.heap.size w w' := by
  go_enter Tryz.func78, Tryz.ntmps78
  go_wp2_with fail
  refine (open_any 2 t _).mono ?_
  rintro e w1 ⟨rfl, b1⟩
  go_wp2_with fail
  go_ret
  exact ⟨rfl, b1⟩
set_option maxRecDepth 100000 in
theorem witness_any (t : List UInt8) (w : World) : Calls Tryz.prog 117 #[.string ⟨t.toArray⟩] w fun e w' => e = .returned (.bool (isP 3 t)) ∧ Below w.heap.size w w' := by
  go_enter Tryz.func117, Tryz.ntmps117
  go_wp2_with fail
  refine (open_any 3 t _).mono ?_
  rintro e w1 ⟨rfl, b1⟩
  go_wp2_with fail
  go_ret
  exact ⟨rfl, b1⟩

end Go.Proofs.YtkinlobfdkeamaaGreatDoor

