/- The world's package-level variables: what the rows' list gives, and a world for the witness. What came in, opened: numbers, an event. An event that came in, opened. -/
import Derived.Test.YtkinlobfdkeamaaGreatDoorCards
import Derived.Test.YtkinlobfdkeamaaGreatDoorTie
import Derived.Test.YtkinlobfdkeamaaGreatDoorV01
import Derived.WalkKit
import Derived.ProofKit
import Derived.OpenShut
import Derived.Deep.DeepHandedRow
import Derived.Deep.DeepWitnessRowRef
import Derived.Deep.DeepLaidRun
import Derived.Lib.LaidTab
import Derived.Lib.LaidU8
import Derived.Test.YtkinlobfdkeamaaGreatDoorV37
import Derived.Deep.Strs
import Derived.Deep.SlicePairs
import Derived.Carry
namespace Go.Proofs.YtkinlobfdkeamaaGreatDoor
open Go.ChangeShapes Go.WideShapes Go.ChangeAt Go.RowKit

theorem own : ownKnob Tryz.prog.godebug = none := by kernel_rfl

def lit1 : DataW Unit → List Value
  | .lit (.int k n) => [.int k n]
  | _ => []
def lit2 : DataW Unit → List Value
  | .agg ps => ps.flatMap lit1
  | x => lit1 x
def lit3 : DataW Unit → List Value
  | .agg ps => ps.flatMap lit2
  | x => lit2 x

/-- A world for the witness: the settled one, the listed variables holding what their text lays. -/
noncomputable def laidWorld (os : Os) : World :=
  let N := (World.settled Tryz.prog os).heap.size
  let w0 := World.holding Tryz.prog os ⟨#[.cells #[.string ⟨#[118, 97, 108, 117, 101, 32, 111, 117, 116, 32, 111, 102, 32, 114, 97, 110, 103, 101]⟩] 169, .cells #[.string ⟨#[105, 110, 118, 97, 108, 105, 100, 32, 115, 121, 110, 116, 97, 120]⟩] 169], #[], []⟩
  let put (h : Array Obj) (g : Nat) (cs : Array Value) : Array Obj := h.modify g fun
    | .cells _ t frozen => .cells cs t frozen
    | o => o
  let h1 := put w0.heap 3 (lit3 Rows.laid_math_bits_deBruijn32tab).toArray
  let h2 := put h1 4 (lit3 Rows.laid_math_bits_deBruijn64tab).toArray
  let h3 := put h2 0 (lit3 Rows.laid_internal_strconv_uint64pow10).toArray
  let h4 := put h3 6 (lit3 Rows.laid_unicode_utf8_acceptRanges).toArray
  let h5 := put h4 5 (lit3 Rows.laid_unicode_utf8_first).toArray
  let h6 := put h5 2 #[.iface 167 (.pointer (some ⟨N, 0, none⟩))]
  let h7 := put h6 1 #[.iface 167 (.pointer (some ⟨N + 1, 0, none⟩))]
  { w0 with heap := h7 }

theorem gBr64 : Tryz.prog.globalNamed "math/bits.deBruijn64tab" = some 4 := by kernel_rfl
theorem gBr64T : (Tryz.prog.globals[4]?).map (·.type) = some 190 := by kernel_rfl
theorem cells64 : Tryz.prog.cellsOf 190 = 64 := by kernel_rfl
theorem cellsU8 : Tryz.prog.cellsOf 5 = 1 := by kernel_rfl

theorem tabIs_of_mem {P : Program} {W : World} {laid : List (String × DataW Unit)} {name : String} {k : IntKind} {zs : List Int} {g : Nat} {t e : TypeId} {n : Nat}
    (hg : P.globalNamed name = some g) (hty : (P.globals[g]?).map (·.type) = some t) (ht : P.underlying t = some (.array n e)) (he : P.underlying e = some (.int k)) (hce : P.cellsOf e = 1) (hct : P.cellsOf t = n)
    (h : laidMet P laid W) (hm : (name, Lib.tabData k zs) ∈ laid) : Lib.TabIs P W name k zs := by
  obtain ⟨g', t', cs, fuel, p, hg', ht', hvar, hd⟩ := Lib.laidMet.reads h hm
  obtain rfl := Option.some.inj (hg.symm.trans hg')
  obtain rfl := Option.some.inj (hty.symm.trans ht')
  unfold Lib.TabIs
  rw [hvar, ← Lib.cells_of_tab ht he hce hct hd]

theorem glob_of {W : World} {laid : List (String × DataW Unit)} (h : laidMet Tryz.prog laid W) (hm : ("math/bits.deBruijn64tab", Lib.tabData .u8 bruijn64) ∈ laid) : Glob W where
  br64 := fun j hj => (tabIs_of_mem gBr64 gBr64T Tryz.underlying190 Tryz.underlying5 cellsU8 cells64 h hm).cell gBr64 j hj

/-- The row's end behind a call of which only this is known: what was there is as it was. -/
theorem rowEnd {H : Type} {enc : TypeId × Value → H} {P : Program} {f : Func} {s : ChangeSpec} {apart fresh handsOn again : Bool} {W W' : World} {args : Array Value} {v : Value} {ds gs : List (DataW H)} {was pa pv : List MemPlace}
    (hW : DataW.Whole enc P f.params.toList s.vars apart W args.toList ds gs was)
    (hres : ∀ (b : Nat) (sp : Nat → Bool) (hd : Bool), DataW.TrodAll enc P W' b sp hd f.resultTypes.toList (v.resultList f.resultTypes.size) (s.fn H (ds ++ gs)).results [])
    (hargs : ∀ sp : Nat → Bool, (∀ p ∈ was, sp p.block = true) → DataW.TrodAll enc P W' 0 sp true f.params.toList args.toList (s.fn H (ds ++ gs)).args pa)
    (hvars : ∀ sp : Nat → Bool, (∀ p ∈ was, sp p.block = true) → DataW.TrodVars enc P W' sp s.vars (s.fn H (ds ++ gs)).vars pv)
    (hps : was = pa ++ pv) (hb : Below W.heap.size W W')
    (hok : ∀ (j : Nat) (t : TypeId) (r : Value), f.resultTypes[j]? = some t → (v.resultList f.resultTypes.size)[j]? = some r → Value.okWide P W' .any 0 t r) :
    s.post enc P f apart fresh handsOn again W args v W' := by
  subst hps
  have hlt : ∀ p ∈ pa ++ pv, p.block < W.heap.size := fun p hp => hW.lt p hp
  refine ⟨ds, gs, pa ++ pv, [], pa, pv, hW, hres _ _ _, hargs _ (fun p hp => by simpa using hlt p hp), hvars _ (fun p hp => by simpa using hlt p hp), World.keptBut_mono (fun p hp => ⟨hp, .inr (List.mem_append.1 hp)⟩) (hb.frame (· ∈ pa ++ pv)), fun _ => ?_⟩
  obtain ⟨_, _, _, _, _, hz, hn⟩ := hW
  refine ⟨hok, _, _, ([] ++ pa) ++ pv, ⟨[] ++ pa, pv, trodAll_append (hargs _ (fun _ _ => rfl)) (hres _ _ _), hvars _ (fun _ _ => rfl), rfl, fun b off hp => ?_, fun ha => by simpa using hn ha⟩, fun p hp _ => by simpa using hp⟩
  have hin : MemPlace.cell b off ∈ pa ++ pv := by simpa using hp
  rw [hb.frozen (hlt _ hin)]
  exact hz b off hin

end Go.Proofs.YtkinlobfdkeamaaGreatDoor

namespace Go.Proofs.YtkinlobfdkeamaaGreatDoor
open Go.ChangeShapes Go.WideShapes Go.ChangeAt Go.RowKit Go.Deep

section
variable {H : Type} {enc : TypeId × Value → H} {w : World} {fuel : Nat} {x : DataW H × List MemPlace} {c : Value}

theorem cInt : Tryz.prog.cellsOf 3 = 1 := by kernel_rfl
theorem cStr : Tryz.prog.cellsOf 9 = 1 := by kernel_rfl
theorem cSlS : Tryz.prog.cellsOf 32 = 1 := by kernel_rfl
theorem cThr : Tryz.prog.cellsOf 31 = 2 := by kernel_rfl
theorem cFrac : Tryz.prog.cellsOf 93 = 2 := by kernel_rfl
theorem cSlF : Tryz.prog.cellsOf 56 = 1 := by kernel_rfl
theorem cSlF2 : Tryz.prog.cellsOf 29 = 1 := by kernel_rfl
theorem cSeal : Tryz.prog.cellsOf 68 = 3 := by kernel_rfl
theorem cSlSe : Tryz.prog.cellsOf 33 = 1 := by kernel_rfl
theorem cEv : Tryz.prog.cellsOf 35 = 19 := by kernel_rfl

theorem maxLen_is : maxLen = 9223372036854775807 := by decide

set_option maxRecDepth 100000 in
theorem openStrs (h : DataW.trod enc Tryz.prog w 0 (fun _ => true) true fuel 32 [c] = some x) : ∃ l, StrsB w c l := by
  rcases open_strs Tryz.underlying32 Tryz.underlying9 cStr h with ⟨h0, _⟩ | ⟨a, len, cap, m, Sx, h0, _, hl, hm, hmm, _, hx⟩
  · have : c = .slice none 0 0 := by simpa using h0
    subst this
    exact ⟨[], ⟨none, 0, rfl, by simp, fun i hi => absurd hi (Nat.not_lt_zero _)⟩, by simp, by simp⟩
  · have : c = .slice (some a) len cap := by simpa using h0
    subst this
    have hmc : m = cap := by simpa using hmm
    subst hmc
    rw [maxLen_is] at hm hx
    refine ⟨(List.range len).map (fun i => (Sx i).data.toList), ⟨some a, m, by simp, by simpa using hl, fun i hi => ⟨a, rfl, ?_⟩⟩, by simpa using Nat.le_trans hl hm, fun s hs => ?_⟩
    · have hi' : i < len := by simpa using hi
      rw [(hx i (by omega)).1, List.getD_eq_getElem?_getD]
      simp [hi']
    · obtain ⟨i, hi, rfl⟩ := List.mem_map.1 hs
      have hi' : i < len := by simpa using hi
      have := (hx i (by omega)).2
      rw [Array.length_toList]
      exact this

theorem wf_bounds {z : Int} (h : (Lit.int .i64 z).wf = true) : -9223372036854775808 ≤ z ∧ z ≤ 9223372036854775807 := bounds_i64 h

set_option maxRecDepth 100000 in
theorem openInts (h : DataW.trod enc Tryz.prog w 0 (fun _ => true) true fuel 28 [c] = some x) : ∃ A n cp, c = .slice A n cp ∧ n ≤ cp ∧ Ints w A n := by
  rcases open_ints Tryz.underlying28 Tryz.underlying3 cInt h with ⟨h0, _⟩ | ⟨a, len, cap, zs, h0, _, hl, hm, hz, _, hx, hw⟩
  · exact ⟨none, 0, 0, by simpa using h0, Nat.le_refl _, fun i hi => absurd hi (Nat.not_lt_zero _)⟩
  · have hz' : zs.length = cap := by simpa using hz
    refine ⟨some a, len, cap, by simpa using h0, hl, fun i hi => ⟨a, zs.getD i 0, rfl, hx i (by omega), ?_⟩⟩
    have hm : zs.getD i 0 ∈ zs := by rw [List.getD_eq_getElem?_getD, List.getElem?_eq_getElem (by omega)]; exact List.getElem_mem _
    exact wf_bounds (hw _ hm)

theorem addOne (ad : Addr) (i k : Nat) (hk : 0 < k) : (⟨(ad.add i).block, (ad.add i).off + k, none⟩ : Addr) = ad.add (i + k) := by
  unfold Addr.add
  rw [if_neg (show ¬ (i + k = 0) by omega)]
  split
  · rename_i e0; subst e0; simp
  · simp [Nat.add_assoc]

/-- A []Fraction of whatever length. -/
def FracsB (w : World) (v : Value) (l : List FracV) : Prop := ∃ A c, v = .slice A l.length c ∧ l.length ≤ c ∧ l.length ≤ 9223372036854775807 ∧ ∀ i, i < l.length → ∃ ad, A = some ad ∧ w.cell? (ad.add (i * 2)) = some (.int .i64 (l.getD i (0, 0)).1) ∧ w.cell? ⟨(ad.add (i * 2)).block, (ad.add (i * 2)).off + 1, none⟩ = some (.int .i64 (l.getD i (0, 0)).2)

set_option maxRecDepth 100000 in
theorem openFracs (h : DataW.trod enc Tryz.prog w 0 (fun _ => true) true fuel 56 [c] = some x) : ∃ l, FracsB w c l := by
  rcases open_slice_pairs Tryz.underlying56 Tryz.underlying93 cFrac rfl rfl cInt cInt h with ⟨h0, _⟩ | ⟨a, len, cap, m, n, V0, V1, D0, D1, P0, P1, h0, _, hl, hm, hmm, _, hx⟩
  · have : c = .slice none 0 0 := by simpa using h0
    subst this
    exact ⟨[], none, 0, rfl, by simp, by simp, fun i hi => absurd hi (Nat.not_lt_zero _)⟩
  · have : c = .slice (some a) len cap := by simpa using h0
    subst this
    have hmc : m = cap := by simpa using hmm
    subst hmc
    rw [maxLen_is] at hm
    have each : ∀ i, i < len → ∃ f : FracV, w.cell? (a.add (i * 2)) = some (.int .i64 f.1) ∧ w.cell? (a.add (i * 2 + 1)) = some (.int .i64 f.2) := fun i hi => by
      obtain ⟨q0, q1, t0, t1⟩ := hx i (by omega)
      obtain ⟨z0, e0, _⟩ := DataW.trod_int Tryz.underlying3 t0
      obtain ⟨z1, e1, _⟩ := DataW.trod_int Tryz.underlying3 t1
      have e0' : V0 i = .int .i64 z0 := by simpa using e0
      have e1' : V1 i = .int .i64 z1 := by simpa using e1
      exact ⟨(z0, z1), by rw [q0, e0'], by rw [q1, e1']⟩
    obtain ⟨f, hf⟩ := choose_lt each
    refine ⟨(List.range len).map f, some a, m, by simp, by simpa using hl, by simpa using Nat.le_trans hl hm, fun i hi => ⟨a, rfl, ?_⟩⟩
    have hi' : i < len := by simpa using hi
    have hg : ((List.range len).map f).getD i (0, 0) = f i := by rw [List.getD_eq_getElem?_getD]; simp [hi']
    rw [hg, addOne _ _ _ (by omega)]
    exact hf i hi'

set_option maxRecDepth 100000 in
theorem openFracss (h : DataW.trod enc Tryz.prog w 0 (fun _ => true) true fuel 29 [c] = some x) : ∃ (ns : List Nat) (ll : List (List FracV)), LensB w c ns ∧ (okN ns → Fracss w c ll) := by
  rcases open_slice1 Tryz.underlying29 cSlF h with ⟨h0, _⟩ | ⟨a, len, cap, m, n, V, D, Pl, h0, _, hl, hm, hmm, _, hx⟩
  · have : c = .slice none 0 0 := by simpa using h0
    subst this
    exact ⟨[], [], ⟨⟨none, 0, rfl, by simp, fun i hi => absurd hi (Nat.not_lt_zero _)⟩, by simp, by simp⟩, fun _ => Fracss.nil _⟩
  · have : c = .slice (some a) len cap := by simpa using h0
    subst this
    have hmc : m = cap := by simpa using hmm
    subst hmc
    rw [maxLen_is] at hm
    have each : ∀ i, i < len → ∃ l : List FracV, FracsB w (V i) l := fun i hi => openFracs (hx i (by omega)).2
    obtain ⟨f, hf⟩ := choose_lt each
    refine ⟨(List.range len).map (fun i => (f i).length), (List.range len).map f, ⟨⟨some a, m, by simp, by simpa using hl, fun i hi => ?_⟩, by simpa using Nat.le_trans hl hm, fun k hk => ?_⟩, fun ho => ?_⟩
    · have hi' : i < len := by simpa using hi
      obtain ⟨B, d, e, _⟩ := hf i hi'
      refine ⟨a, B, d, rfl, ?_⟩
      rw [(hx i (by omega)).1, e, List.getD_eq_getElem?_getD]
      simp [hi']
    · obtain ⟨i, hi, rfl⟩ := List.mem_map.1 hk
      obtain ⟨B, d, e, _, q, _⟩ := hf i (by simpa using hi)
      exact q
    · have hlen : len ≤ 10 := by have := ho.1; simpa using this
      have hel : ∀ i, i < len → (f i).length ≤ 10 := fun i hi => ho.2 _ (List.mem_map.2 ⟨i, by simpa using hi, rfl⟩)
      have hm0 : ∀ i, i < len → i < m := fun i hi => by omega
      refine ⟨V, ⟨some a, m, by simp, by simpa using hl, by simp; omega, fun i hi => ⟨a, rfl, (hx i (hm0 i (by simpa using hi))).1⟩⟩, fun i hi => ?_⟩
      have hi' : i < len := by simpa using hi
      have hg : ((List.range len).map f).getD i [] = f i := by rw [List.getD_eq_getElem?_getD]; simp [hi']
      rw [hg]
      obtain ⟨B, d, e, q1, q2, q3⟩ := hf i hi'
      exact ⟨B, d, e, q1, by have := hel i hi'; omega, q3⟩

instance : Inhabited SealV := ⟨⟨[], 0, []⟩⟩
set_option maxRecDepth 100000 in
theorem openSeals (h : DataW.trod enc Tryz.prog w 0 (fun _ => true) true fuel 33 [c] = some x) : ∃ l : List SealV, (∃ A cp, c = .slice A l.length cp) ∧ (l.length ≤ 20 → Seals w c l) := by
  rcases open_slice Tryz.underlying33 h with ⟨h0, _⟩ | ⟨a, len, cap, m, n, D, Pl, h0, _, hl, hm, hmm, _, hx⟩
  · have : c = .slice none 0 0 := by simpa using h0
    subst this
    exact ⟨[], ⟨none, 0, rfl⟩, fun _ => Seals.nil _⟩
  · have : c = .slice (some a) len cap := by simpa using h0
    subst this
    have hmc : m = cap := by simpa using hmm
    subst hmc
    rw [maxLen_is] at hm
    have each : ∀ i, i < len → ∃ s : SealV, (w.cell? (a.add (i * 3)) = some (.string ⟨s.pre.toArray⟩) ∧ w.cell? (a.add (i * 3 + 1)) = some (.int .i64 s.num) ∧ w.cell? (a.add (i * 3 + 2)) = some (.string ⟨s.said.toArray⟩)) ∧ s.pre.length ≤ 9223372036854775807 ∧ s.said.length ≤ 9223372036854775807 := fun i hi => by
      obtain ⟨cs', h1, h2⟩ := hx i (by omega)
      rw [cSeal] at h1
      obtain ⟨_, hlen, hcell⟩ := World.cells?_some h1
      obtain ⟨y0, y1, y2, n', _, _, t0, t1, t2⟩ := trod_struct3 Tryz.underlying68 h2
      match cs', hlen with
      | [v0, v1, v2], _ =>
        simp only [cStr, cInt, List.drop_zero, List.take_succ_cons, List.take_zero, List.drop_succ_cons] at t0 t1 t2
        obtain ⟨s0, e0, _, l0⟩ := DataW.trod_string Tryz.underlying9 t0
        obtain ⟨z1, e1, _⟩ := DataW.trod_int Tryz.underlying3 t1
        obtain ⟨s2, e2, _, l2⟩ := DataW.trod_string Tryz.underlying9 t2
        have g0 := hcell 0 (by omega)
        have g1 := hcell 1 (by omega)
        have g2 := hcell 2 (by omega)
        rw [add_add] at g0 g1 g2
        rw [maxLen_is] at l0 l2
        have e0' : v0 = .string s0 := by simpa using e0
        have e1' : v1 = .int .i64 z1 := by simpa using e1
        have e2' : v2 = .string s2 := by simpa using e2
        subst e0' e1' e2'
        exact ⟨⟨s0.data.toList, z1, s2.data.toList⟩, ⟨by simpa using g0, by simpa using g1, by simpa using g2⟩, by rw [Array.length_toList]; exact l0, by rw [Array.length_toList]; exact l2⟩
    obtain ⟨f, hf⟩ := choose_lt each
    have h20' : ((List.range len).map f).length ≤ 20 → ((List.range len).map f).length ≤ 1000000 := fun q => by omega
    refine ⟨(List.range len).map f, ⟨some a, m, by simp⟩, fun h20 => ⟨⟨some a, m, by simp, by simpa using hl, h20' h20, fun i hi => ⟨a, rfl, ?_⟩⟩, fun s hs => ?_⟩⟩
    · have hi' : i < len := by simpa using hi
      have hg : ((List.range len).map f).getD i ⟨[], 0, []⟩ = f i := by rw [List.getD_eq_getElem?_getD]; simp [hi']
      dsimp only
      rw [hg, addOne _ _ _ (by omega), addOne _ _ _ (by omega)]
      exact (hf i hi').1
    · obtain ⟨i, hi, rfl⟩ := List.mem_map.1 hs
      exact (hf i (by simpa using hi)).2

theorem list19 {l : List Value} (h : l.length = 19) : ∃ c0 c1 c2 c3 c4 c5 c6 c7 c8 c9 c10 c11 c12 c13 c14 c15 c16 c17 c18, l = [c0, c1, c2, c3, c4, c5, c6, c7, c8, c9, c10, c11, c12, c13, c14, c15, c16, c17, c18] := by
  match l, h with
  | [c0, c1, c2, c3, c4, c5, c6, c7, c8, c9, c10, c11, c12, c13, c14, c15, c16, c17, c18], _ => exact ⟨_, _, _, _, _, _, _, _, _, _, _, _, _, _, _, _, _, _, _, rfl⟩

theorem openThr {c0 c1 : Value} (h : DataW.trod enc Tryz.prog w 0 (fun _ => true) true fuel 31 [c0, c1] = some x) : ∃ (z : Int) (ns : List Nat) (ll : List (List FracV)), c0 = .int .i64 z ∧ LensB w c1 ns ∧ (okN ns → Fracss w c1 ll) := by
  obtain ⟨y0, y1, n, _, _, t0, t1⟩ := trod_struct2 Tryz.underlying31 h
  simp only [cInt, cSlF2, List.drop_zero, List.take_succ_cons, List.take_zero, List.drop_succ_cons] at t0 t1
  obtain ⟨z, e, _⟩ := DataW.trod_int Tryz.underlying3 t0
  obtain ⟨ns, ll, q1, q2⟩ := openFracss t1
  exact ⟨z, ns, ll, by simpa using e, q1, q2⟩

end
end Go.Proofs.YtkinlobfdkeamaaGreatDoor

namespace Go.Proofs.YtkinlobfdkeamaaGreatDoor
open Go.ChangeShapes Go.WideShapes Go.ChangeAt Go.RowKit Go.Deep

theorem strB (s : ByteArray) : (⟨s.data.toList.toArray⟩ : ByteArray) = s := by simp
theorem StrsB.one {w : World} {v : Value} {l : List (List UInt8)} (h : StrsB w v l) : v.oneCell' = true := by
  obtain ⟨⟨A, c, rfl, _⟩, _⟩ := h
  rfl
theorem LensB.one {w : World} {v : Value} {l : List Nat} (h : LensB w v l) : v.oneCell' = true := by
  obtain ⟨⟨A, c, rfl, _⟩, _⟩ := h
  rfl

set_option maxHeartbeats 4000000 in
set_option maxRecDepth 100000 in
theorem openEvent {H : Type} {enc : TypeId × Value → H} {W : World} {base : Nat} {v : Value} {d : DataW H} {p : List MemPlace} (hv : Value.okWide Tryz.prog W .any base 35 v) (h : DataW.Trod enc Tryz.prog W 0 (fun _ => true) true 35 v d p) :
    ∃ (e : EvV) (u : EvS) (n1 n2 : List Nat), v = .agg (evCells e u) ∧ StrsB W u.ks e.keys ∧ StrsB W u.nx e.next ∧ StrsB W u.ws e.wits ∧ StrsB W u.cs e.cuts ∧ StrsB W u.aa e.adds ∧ StrsB W u.cf e.conf ∧ LensB W u.tw n1 ∧ LensB W u.nw n2 ∧ (∃ A c, u.an = .slice A e.anc.length c) ∧
      (okN n1 → okN n2 → okL e.keys → okL e.next → okL e.wits → okL e.cuts → okL e.adds → okL e.conf → e.anc.length ≤ 20 → EvM W e u) ∧ (evCells e u).all (·.oneCell') = true := by
  obtain ⟨cs, rfl, hsz⟩ := okWide_struct Tryz.underlying35 hv
  rw [cEv] at hsz
  obtain ⟨l, rfl⟩ : ∃ l : List Value, cs = l.toArray := ⟨cs.toList, by simp⟩
  obtain ⟨c0, c1, c2, c3, c4, c5, c6, c7, c8, c9, c10, c11, c12, c13, c14, c15, c16, c17, c18, rfl⟩ := list19 (by simpa using hsz)
  obtain ⟨fuel, hf⟩ := h
  obtain ⟨xs, n, _, _, _, hlen, hx⟩ := DataW.trod_struct Tryz.underlying35 hf
  match xs, hlen with
  | [y0, y1, y2, y3, y4, y5, y6, y7, y8, y9, y10, y11, y12, y13, y14, y15, y16], _ =>
    have t0 : DataW.trod enc Tryz.prog W 0 (fun _ => true) true n 3 (([c0, c1, c2, c3, c4, c5, c6, c7, c8, c9, c10, c11, c12, c13, c14, c15, c16, c17, c18].drop 0).take (Tryz.prog.cellsOf 3)) = some y0 := hx 0 _ rfl
    have t1 : DataW.trod enc Tryz.prog W 0 (fun _ => true) true n 3 (([c0, c1, c2, c3, c4, c5, c6, c7, c8, c9, c10, c11, c12, c13, c14, c15, c16, c17, c18].drop 1).take (Tryz.prog.cellsOf 3)) = some y1 := hx 1 _ rfl
    have t2 : DataW.trod enc Tryz.prog W 0 (fun _ => true) true n 9 (([c0, c1, c2, c3, c4, c5, c6, c7, c8, c9, c10, c11, c12, c13, c14, c15, c16, c17, c18].drop 2).take (Tryz.prog.cellsOf 9)) = some y2 := hx 2 _ rfl
    have t3 : DataW.trod enc Tryz.prog W 0 (fun _ => true) true n 9 (([c0, c1, c2, c3, c4, c5, c6, c7, c8, c9, c10, c11, c12, c13, c14, c15, c16, c17, c18].drop 3).take (Tryz.prog.cellsOf 9)) = some y3 := hx 3 _ rfl
    have t4 : DataW.trod enc Tryz.prog W 0 (fun _ => true) true n 3 (([c0, c1, c2, c3, c4, c5, c6, c7, c8, c9, c10, c11, c12, c13, c14, c15, c16, c17, c18].drop 4).take (Tryz.prog.cellsOf 3)) = some y4 := hx 4 _ rfl
    have t5 : DataW.trod enc Tryz.prog W 0 (fun _ => true) true n 9 (([c0, c1, c2, c3, c4, c5, c6, c7, c8, c9, c10, c11, c12, c13, c14, c15, c16, c17, c18].drop 5).take (Tryz.prog.cellsOf 9)) = some y5 := hx 5 _ rfl
    have t6 : DataW.trod enc Tryz.prog W 0 (fun _ => true) true n 31 (([c0, c1, c2, c3, c4, c5, c6, c7, c8, c9, c10, c11, c12, c13, c14, c15, c16, c17, c18].drop 6).take (Tryz.prog.cellsOf 31)) = some y6 := hx 6 _ rfl
    have t7 : DataW.trod enc Tryz.prog W 0 (fun _ => true) true n 32 (([c0, c1, c2, c3, c4, c5, c6, c7, c8, c9, c10, c11, c12, c13, c14, c15, c16, c17, c18].drop 8).take (Tryz.prog.cellsOf 32)) = some y7 := hx 7 _ rfl
    have t8 : DataW.trod enc Tryz.prog W 0 (fun _ => true) true n 31 (([c0, c1, c2, c3, c4, c5, c6, c7, c8, c9, c10, c11, c12, c13, c14, c15, c16, c17, c18].drop 9).take (Tryz.prog.cellsOf 31)) = some y8 := hx 8 _ rfl
    have t9 : DataW.trod enc Tryz.prog W 0 (fun _ => true) true n 32 (([c0, c1, c2, c3, c4, c5, c6, c7, c8, c9, c10, c11, c12, c13, c14, c15, c16, c17, c18].drop 11).take (Tryz.prog.cellsOf 32)) = some y9 := hx 9 _ rfl
    have t10 : DataW.trod enc Tryz.prog W 0 (fun _ => true) true n 3 (([c0, c1, c2, c3, c4, c5, c6, c7, c8, c9, c10, c11, c12, c13, c14, c15, c16, c17, c18].drop 12).take (Tryz.prog.cellsOf 3)) = some y10 := hx 10 _ rfl
    have t11 : DataW.trod enc Tryz.prog W 0 (fun _ => true) true n 32 (([c0, c1, c2, c3, c4, c5, c6, c7, c8, c9, c10, c11, c12, c13, c14, c15, c16, c17, c18].drop 13).take (Tryz.prog.cellsOf 32)) = some y11 := hx 11 _ rfl
    have t12 : DataW.trod enc Tryz.prog W 0 (fun _ => true) true n 32 (([c0, c1, c2, c3, c4, c5, c6, c7, c8, c9, c10, c11, c12, c13, c14, c15, c16, c17, c18].drop 14).take (Tryz.prog.cellsOf 32)) = some y12 := hx 12 _ rfl
    have t13 : DataW.trod enc Tryz.prog W 0 (fun _ => true) true n 32 (([c0, c1, c2, c3, c4, c5, c6, c7, c8, c9, c10, c11, c12, c13, c14, c15, c16, c17, c18].drop 15).take (Tryz.prog.cellsOf 32)) = some y13 := hx 13 _ rfl
    have t14 : DataW.trod enc Tryz.prog W 0 (fun _ => true) true n 32 (([c0, c1, c2, c3, c4, c5, c6, c7, c8, c9, c10, c11, c12, c13, c14, c15, c16, c17, c18].drop 16).take (Tryz.prog.cellsOf 32)) = some y14 := hx 14 _ rfl
    have t15 : DataW.trod enc Tryz.prog W 0 (fun _ => true) true n 33 (([c0, c1, c2, c3, c4, c5, c6, c7, c8, c9, c10, c11, c12, c13, c14, c15, c16, c17, c18].drop 17).take (Tryz.prog.cellsOf 33)) = some y15 := hx 15 _ rfl
    have t16 : DataW.trod enc Tryz.prog W 0 (fun _ => true) true n 9 (([c0, c1, c2, c3, c4, c5, c6, c7, c8, c9, c10, c11, c12, c13, c14, c15, c16, c17, c18].drop 18).take (Tryz.prog.cellsOf 9)) = some y16 := hx 16 _ rfl
    simp only [cInt, cStr, cSlS, cThr, cSlSe, List.drop_zero, List.drop_succ_cons, List.take_succ_cons, List.take_zero, List.take_nil] at t0 t1 t2 t3 t4 t5 t6 t7 t8 t9 t10 t11 t12 t13 t14 t15 t16
    obtain ⟨z0, e0, _⟩ := DataW.trod_int Tryz.underlying3 t0
    obtain rfl : c0 = .int .i64 z0 := by simpa using e0
    obtain ⟨z1, e1, _⟩ := DataW.trod_int Tryz.underlying3 t1
    obtain rfl : c1 = .int .i64 z1 := by simpa using e1
    obtain ⟨s2, e2, _⟩ := DataW.trod_string Tryz.underlying9 t2
    obtain rfl : c2 = .string s2 := by simpa using e2
    obtain ⟨s3, e3, _⟩ := DataW.trod_string Tryz.underlying9 t3
    obtain rfl : c3 = .string s3 := by simpa using e3
    obtain ⟨z4, e4, _⟩ := DataW.trod_int Tryz.underlying3 t4
    obtain rfl : c4 = .int .i64 z4 := by simpa using e4
    obtain ⟨s5, e5, _⟩ := DataW.trod_string Tryz.underlying9 t5
    obtain rfl : c5 = .string s5 := by simpa using e5
    obtain ⟨z6, n6, ll6, rfl, q6, r6⟩ := openThr t6
    obtain ⟨l7, q7⟩ := openStrs t7
    obtain ⟨z8, n8, ll8, rfl, q8, r8⟩ := openThr t8
    obtain ⟨l9, q9⟩ := openStrs t9
    obtain ⟨z10, e10, _⟩ := DataW.trod_int Tryz.underlying3 t10
    obtain rfl : c12 = .int .i64 z10 := by simpa using e10
    obtain ⟨l11, q11⟩ := openStrs t11
    obtain ⟨l12, q12⟩ := openStrs t12
    obtain ⟨l13, q13⟩ := openStrs t13
    obtain ⟨l14, q14⟩ := openStrs t14
    obtain ⟨l15, q15, r15⟩ := openSeals t15
    obtain ⟨s16, e16, _⟩ := DataW.trod_string Tryz.underlying9 t16
    obtain rfl : c18 = .string s16 := by simpa using e16
    refine ⟨⟨z0, z1, s2.data.toList, s3.data.toList, z4, s5.data.toList, ⟨z6, ll6⟩, l7, ⟨z8, ll8⟩, l9, z10, l11, l12, l13, l14, l15, s16.data.toList⟩, ⟨c7, c8, c10, c11, c13, c14, c15, c16, c17⟩, n6, n8, ?_, q7, q9, q11, q12, q13, q14, q6, q8, q15, fun o1 o2 k1 k2 k3 k4 k5 k6 k7 => ⟨r6 o1, q7.small k1, r8 o2, q9.small k2, q11.small k3, q12.small k4, q13.small k5, q14.small k6, r15 k7⟩, ?_⟩
    · simp only [evCells, strB]
    · obtain ⟨A, c, ea⟩ := q15
      exact evCells_one _ _ q6.one q7.one q8.one q9.one q11.one q12.one q13.one q14.one (by rw [ea]; rfl)

end Go.Proofs.YtkinlobfdkeamaaGreatDoor

