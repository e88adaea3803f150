/- Base 64 walked: the reference's Decode. The program's table of codes, a map, and the range over it. With which code a text begins: the program's range over its table. -/
import Derived.Test.YtkinlobfdkeamaaGreatDoorV09
import Derived.Test.YtkinlobfdkeamaaGreatDoorV01
import Derived.Maps.Own
import Derived.Maps.RangeWalk
import Derived.Test.YtkinlobfdkeamaaGreatDoorV05
import Derived.Test.YtkinlobfdkeamaaGreatDoorShelf
import Derived.Deep.RegionWith
import Derived.WalkKit
import Derived.Lib.BufferMore
namespace Go.Proofs.YtkinlobfdkeamaaGreatDoor
open Go.RowKit

theorem decL_drop (l : List UInt8) (i : Nat) (h : 4 * i + 4 ≤ l.length) : decL (l.drop (4 * i)) = (numL ((l.drop (4 * i)).take 4) 0).bind fun n => (decL (l.drop (4 * (i + 1)))).map (tri n ++ ·) := by
  have e : ∃ a b c d, l.drop (4 * i) = a :: b :: c :: d :: l.drop (4 * (i + 1)) := by
    refine ⟨l[4 * i], l[4 * i + 1], l[4 * i + 2], l[4 * i + 3], ?_⟩
    rw [List.drop_eq_getElem_cons (by omega), List.drop_eq_getElem_cons (by omega), List.drop_eq_getElem_cons (by omega), List.drop_eq_getElem_cons (by omega)]
    rfl
  obtain ⟨a, b, c, d, e⟩ := e
  rw [e, decL_step]
  rfl

set_option maxHeartbeats 8000000 in
set_option maxRecDepth 100000 in
theorem r01_decode (l : List UInt8) (h1 : l.length ≤ 131072) (h2 : l.length % 4 = 0) (w : World) : Calls Tryz.prog 183 #[.string ⟨l.toArray⟩] w fun e w' => e = .returned (decV (decL l)) ∧ Below w.heap.size w w' := by
  have g1 : decide (131072 < (l.length : Int)) = false := by simp; omega
  have g2 : (l.length : Int) % 4 = 0 := by omega
  go_enter Tryz.func183, Tryz.ntmps183
  go_wp2_with fail
  rw [g2]
  clear g2
  obtain ⟨m, hm⟩ : ∃ m, l.length = 4 * m := ⟨l.length / 4, by omega⟩
  have HM := Lib.hid hm
  clear hm h2
  go_loopw [4, 5] (fun v4 v5 wr => ∃ (i : Nat) (d : List UInt8), i ≤ m ∧ v5 = .int .i64 (4 * (i : Int)) ∧ decL l = (decL (l.drop (4 * i))).map (d ++ ·) ∧ d.length = 3 * i ∧ OwnL w wr v4 d) (fun _ v5 _ => (4 * (m : Int) - intOf v5).toNat)
  case atStart => exact ⟨0, [], by omega, rfl, by simp, rfl, ownL_nil w⟩
  case round =>
    obtain ⟨i, d, hi, rfl, hd, hlen, hO⟩ := hrel
    have hml := HM.out
    by_cases hlt : i < m
    · have j0 : 4 * (i : Int) < l.length := by omega
      rw [decL_drop l i (by omega)] at hd
      obtain ⟨q, hq⟩ : ∃ q, q = (l.drop (4 * i)).take 4 := ⟨_, rfl⟩
      have hq4 : q.length = 4 := by rw [hq, List.length_take, List.length_drop]; omega
      have hqa : ∀ k, k < 4 → q.getD k 0 = l.getD (4 * i + k) 0 := by
        intro k hk
        rw [hq, List.getD_eq_getElem?_getD, List.getElem?_take_of_lt hk, List.getElem?_drop, ← List.getD_eq_getElem?_getD]
      rw [← hq] at hd
      have HQA := Lib.hid hqa
      have HD := Lib.hid hd
      clear hq hqa hd hml
      go_wp2_with fail
      obtain ⟨wo, rfl⟩ : ∃ wo : World, wo = wr := ⟨_, rfl⟩
      go_loopw [6, 25] (fun v6 v25 wq => ∃ (k n : Nat), k ≤ 4 ∧ v25 = .int .i64 (k : Int) ∧ v6 = .int .i64 (n : Int) ∧ n < 64 ^ k ∧ numL q 0 = numL (q.drop k) n ∧ wq = wo) (fun _ v25 _ => (4 - intOf v25).toNat)
      case atStart => exact ⟨0, 0, by omega, rfl, rfl, by omega, rfl, rfl⟩
      case round =>
        obtain ⟨k, n, hk, rfl, rfl, hn, hnum, rfl⟩ := hrel
        by_cases hlt2 : k < 4
        · have j1 : (k : Int) < 4 := by omega
          have j2 : 4 * (i : Int) + k < l.length := by have := HM.out; omega
          have j3 : (4 * (i : Int) + k).toNat = 4 * i + k := by omega
          have j4 : 0 ≤ 4 * (i : Int) + k := by omega
          rw [numL_drop q k n (by omega), HQA.out k hlt2] at hnum
          obtain ⟨X, hX⟩ : ∃ X, X = (l.getD (4 * i + k) 0).toNat := ⟨_, rfl⟩
          rw [← hX] at hnum
          have lx : X < 256 := by rw [hX]; exact UInt8.toNat_lt _
          have b0 : ∀ h, (((⟨l.toArray⟩ : ByteArray)[4 * i + k]'h).toNat : Int) = X := by intro h; rw [hX]; exact byte_getD l _ h
          have hv := valN_le X lx
          have hnb : n < 64 ^ 3 := Nat.lt_of_lt_of_le hn (Nat.pow_le_pow_right (by omega) (by omega))
          have hval := fun w => r01_valueV X lx w
          have hn' : n * 64 < 64 ^ k * 64 := Nat.mul_lt_mul_of_pos_right hn (by omega)
          generalize valN X = v at hv hnum hval
          clear hX
          cases v with
          | zero =>
            rw [if_pos rfl] at hnum
            have HNU := Lib.hid hnum
            clear hnum
            go_wp2_with fail
            refine (hval _).mono ?_
            rintro e w1 ⟨rfl, rfl⟩
            rw [valV]
            clear hval
            go_wp2_with fail
            go_ret2
            rw [HD.out, HNU.out]
            exact ⟨rfl, hO.low⟩
          | succ u =>
            rw [if_neg (by omega), Nat.add_sub_cancel] at hnum
            have o1 := or6 n u (by omega) (by omega)
            have wA : IntKind.i64.wrap ((n : Int) * 64) = (n : Int) * 64 := IntWalk.i64_in _ (by omega)
            have HNU := Lib.hid hnum
            clear hnum
            go_wp2_with fail
            refine (hval _).mono ?_
            rintro e w1 ⟨rfl, rfl⟩
            rw [valV]
            clear hval
            go_wp2_with fail
            refine ⟨⟨k + 1, 64 * n + u, by omega, by go_num, ?_, ?_, HNU.out, by first | trivial | rfl⟩, by simp only [intOf]; omega⟩
            · congr 1; omega
            · rw [Nat.pow_succ]; omega
        · have hk4 : k = 4 := by omega
          subst hk4
          rw [List.drop_of_length_le (by omega), numL] at hnum
          have hn2 : n < 16777216 := hn
          have hd' : decL l = (decL (l.drop (4 * (i + 1)))).map ((d ++ tri n) ++ ·) := by
            rw [HD.out, hnum]
            show Option.map (fun x => d ++ x) (Option.map (fun x => tri n ++ x) _) = _
            rw [Option.map_map]
            congr 1
            funext x
            show d ++ (tri n ++ x) = d ++ tri n ++ x
            rw [List.append_assoc]
          have HD' := Lib.hid hd'
          have HC := Lib.hid (tri_cells n hn2)
          have hdl : d.length ≤ 1000000 := by have := HM.out; omega
          rw [show ((4 : Nat) : Int) = 4 from rfl]
          clear hd' hnum
          go_wp2_with (at_builtin; refine ownL_append w wr d (tri n) 3 _ hO rfl _ _ rfl rfl rfl rfl _ (by exact HC.out) (by omega) ?_)
          intro v3 w3 h3
          go_wp2_with fail
          refine ⟨⟨i + 1, d ++ tri n, by omega, by congr 1, HD'.out, ?_, h3⟩, ?_⟩
          · rw [List.length_append, show (tri n).length = 3 from rfl]; omega
          · simp only [intOf]; omega
    · have him : i = m := by omega
      subst him
      have hcv := ownL_string hO
      rw [List.drop_eq_nil_of_le (by omega), show decL [] = some [] from rfl, Option.map_some, List.append_nil] at hd
      have hlow := hO.low
      have j1 : ¬ (4 * (i : Int) < l.length) := by omega
      have HD := Lib.hid hd
      clear hO hd hlen
      go_wp2_with fail
      go_ret2
      rw [HD.out]
      exact ⟨rfl, hlow⟩

end Go.Proofs.YtkinlobfdkeamaaGreatDoor

namespace Go.Proofs.YtkinlobfdkeamaaGreatDoor
open Go.RowKit Go.Maps

/-- A code, its characters, the number of its raw bytes. -/
structure Form where
  code : Nat
  str : List UInt8
  raw : Nat
def allForms : List Form := [⟨1, [69], 32⟩, ⟨2, [68], 32⟩, ⟨3, [66], 32⟩, ⟨4, [65], 32⟩, ⟨5, [48, 65], 16⟩, ⟨6, [77], 2⟩, ⟨7, [83], 626⟩, ⟨8, [49, 65, 65, 76], 6⟩]
def Form.val (f : Form) : Value := .agg #[.string ⟨f.str.toArray⟩, .int .i64 (f.raw : Int)]
def Form.dat (f : Form) : DataW Unit := .agg [.lit (.string f.str), .lit (.int .i64 (f.raw : Int))]

theorem formK : Keyed Tryz.prog 3 := int_keyed Tryz.underlying3
def formR : Value → Option (DataW Unit × List MemPlace)
  | .agg a => match a.toList with
    | [.string s, .int .i64 n] => some (.agg [.lit (.string s.data.toList), .lit (.int .i64 n)], [])
    | _ => none
  | _ => none

theorem formR_at (l : List UInt8) (n : Nat) : formR (.agg #[.string ⟨l.toArray⟩, .int .i64 (n : Int)]) = some (Form.dat ⟨0, l, n⟩, []) := rfl

def formD : DataW Unit := allForms.foldl (fun D f => D.put (.int .i64 (f.code : Int)) f.dat) (.map [])

/-- A literal's entry. -/
theorem wpList_insert_own {H : Type} {P : Program} (w : World) {ops : Array Oper} {rest : List Oper} {o : Oper} {a : Act} {Q : Exit → Act → World → Prop}
    (hg : o.guard = none) (m x v : Operand) (t : TypeId) (hop : o.op = Op.insert t m x v)
    (k e : TypeId) (K : Keyed P k) (ht : P.underlying t = some (.map k e)) (R : Value → Option (DataW H × List MemPlace)) (b n : Nat) (D : DataW H)
    (hm : a.eval m = .map (some b)) (hown : w.ownsMap P k R b n D) (hn : n < maxLen) (key val : Value) (kl : Lit) (hx : a.eval x = key) (hv : a.eval v = val) (hkey : keyOf P k key = some kl)
    (d : DataW H) (ps : List MemPlace) (hval : R val = some (d, ps))
    (hK : ∀ w', w'.ownsMap P k R b (n + 1) (D.put kl d) → w.grownBy w' (some b) → wpList P ops Q rest (a.put o.dst undef) w') :
    wpList P ops Q (o :: rest) a w := by
  refine wpList_plain hg fun K' hK' => ?_
  obtain ⟨w', hrun, r1, r2⟩ := hown.update K ht hn hkey hval
  unfold Oper.wp
  simp [execOp, hop, hm, hx, hv, hrun, Result.andThen]
  exact hK' _ _ (hK w' r1 r2)

theorem grow_below {w0 w w' : World} (h : Below w0.heap.size w0 w) {b : Nat} (hb : w0.heap.size ≤ b) (g : w.grownBy w' (some b)) : Below w0.heap.size w0 w' :=
  h.trans ⟨g.os, g.tape, g.output, g.size, fun k hk => g.block k (by have := h.size; omega) (by simp; omega)⟩

set_option maxHeartbeats 2000000 in
set_option maxRecDepth 100000 in
theorem forms_any (w : World) : Calls Tryz.prog 173 #[] w fun e w' => e = .returned (.map (some w.heap.size)) ∧ w'.ownsMap Tryz.prog 3 formR w.heap.size 8 formD ∧ Below w.heap.size w w' := by
  have hmm := @run_makeMap Tryz.prog
  have h0 := World.ownsMap_made w Tryz.prog 3 formR
  go_enter Tryz.func173, Tryz.ntmps173
  go_wp2_with (first
    | (refine wpList_insert_own _ rfl _ _ _ 179 rfl 3 157 formK Tryz.underlying179 formR w.heap.size 0 _ rfl h0 (by unfold maxLen; omega) _ _ _ rfl rfl (keyOf_int_mk Tryz.underlying3 (by decide)) (Form.dat ⟨1, [69], 32⟩) [] (by exact formR_at [69] 32) ?_; intro w1 h1 g1)
    | (refine wpList_insert_own _ rfl _ _ _ 179 rfl 3 157 formK Tryz.underlying179 formR w.heap.size 1 _ rfl h1 (by unfold maxLen; omega) _ _ _ rfl rfl (keyOf_int_mk Tryz.underlying3 (by decide)) (Form.dat ⟨2, [68], 32⟩) [] (by exact formR_at [68] 32) ?_; intro w2 h2 g2)
    | (refine wpList_insert_own _ rfl _ _ _ 179 rfl 3 157 formK Tryz.underlying179 formR w.heap.size 2 _ rfl h2 (by unfold maxLen; omega) _ _ _ rfl rfl (keyOf_int_mk Tryz.underlying3 (by decide)) (Form.dat ⟨3, [66], 32⟩) [] (by exact formR_at [66] 32) ?_; intro w3 h3 g3)
    | (refine wpList_insert_own _ rfl _ _ _ 179 rfl 3 157 formK Tryz.underlying179 formR w.heap.size 3 _ rfl h3 (by unfold maxLen; omega) _ _ _ rfl rfl (keyOf_int_mk Tryz.underlying3 (by decide)) (Form.dat ⟨4, [65], 32⟩) [] (by exact formR_at [65] 32) ?_; intro w4 h4 g4)
    | (refine wpList_insert_own _ rfl _ _ _ 179 rfl 3 157 formK Tryz.underlying179 formR w.heap.size 4 _ rfl h4 (by unfold maxLen; omega) _ _ _ rfl rfl (keyOf_int_mk Tryz.underlying3 (by decide)) (Form.dat ⟨5, [48, 65], 16⟩) [] (by exact formR_at [48, 65] 16) ?_; intro w5 h5 g5)
    | (refine wpList_insert_own _ rfl _ _ _ 179 rfl 3 157 formK Tryz.underlying179 formR w.heap.size 5 _ rfl h5 (by unfold maxLen; omega) _ _ _ rfl rfl (keyOf_int_mk Tryz.underlying3 (by decide)) (Form.dat ⟨6, [77], 2⟩) [] (by exact formR_at [77] 2) ?_; intro w6 h6 g6)
    | (refine wpList_insert_own _ rfl _ _ _ 179 rfl 3 157 formK Tryz.underlying179 formR w.heap.size 6 _ rfl h6 (by unfold maxLen; omega) _ _ _ rfl rfl (keyOf_int_mk Tryz.underlying3 (by decide)) (Form.dat ⟨7, [83], 626⟩) [] (by exact formR_at [83] 626) ?_; intro w7 h7 g7)
    | (refine wpList_insert_own _ rfl _ _ _ 179 rfl 3 157 formK Tryz.underlying179 formR w.heap.size 7 _ rfl h7 (by unfold maxLen; omega) _ _ _ rfl rfl (keyOf_int_mk Tryz.underlying3 (by decide)) (Form.dat ⟨8, [49, 65, 65, 76], 6⟩) [] (by exact formR_at [49, 65, 65, 76] 6) ?_; intro w8 h8 g8))
  go_ret
  refine ⟨rfl, h8, ?_⟩
  exact grow_below (grow_below (grow_below (grow_below (grow_below (grow_below (grow_below (grow_below (ext_alloc w (.map #[] 0)) (Nat.le_refl _) g1) (Nat.le_refl _) g2) (Nat.le_refl _) g3) (Nat.le_refl _) g4) (Nat.le_refl _) g5) (Nat.le_refl _) g6) (Nat.le_refl _) g7) (Nat.le_refl _) g8

end Go.Proofs.YtkinlobfdkeamaaGreatDoor

namespace Go.Proofs.YtkinlobfdkeamaaGreatDoor
open Go.RowKit Go.Maps

def findF (t : List UInt8) : Option Form := allForms.find? fun f => Lib.hasPrefix t f.str
def zeroF : Value := .agg #[.string ⟨#[]⟩, .int .i64 0]
def begV : Option Form → Value
  | some f => .tuple #[.int .i64 (f.code : Int), f.val, .bool true]
  | none => .tuple #[.int .i64 0, zeroF, .bool false]

theorem formD_eq : formD = .map (allForms.map fun f => (Lit.int .i64 (f.code : Int), f.dat)) := by kernel_rfl

theorem formD_has (x : Int) (h : Maps.has formD (.int .i64 x) = true) : ∃ f ∈ allForms, x = (f.code : Int) := by
  rw [formD_eq] at h
  simp [Maps.has, Lit.sameKey] at h
  obtain ⟨f, hf, e⟩ := h
  exact ⟨f, hf, by omega⟩

theorem formD_at (f : Form) (hf : f ∈ allForms) (zd : DataW Unit) : formD.atKey (.int .i64 (f.code : Int)) zd = f.dat := by
  rw [formD_eq]
  simp only [allForms, List.mem_cons, List.not_mem_nil, or_false] at hf
  rcases hf with rfl | rfl | rfl | rfl | rfl | rfl | rfl | rfl <;> rfl

def mkF (c : ByteArray × Int) : Value := .agg #[.string c.1, .int .i64 c.2]
theorem formR_inv (v : Value) (y : DataW Unit × List MemPlace) (h : formR v = some y) : ∃ c, v = mkF c := by
  unfold formR at h
  split at h
  · rename_i a
    split at h
    · rename_i s n ha
      refine ⟨(s, n), ?_⟩
      unfold mkF
      congr 1
      exact Array.toList_inj.1 ha
    · cases h
  · cases h

/-- An entry that has come is one of the forms. -/
theorem entry_is {x : Int} {c : ByteArray × Int} {y : DataW Unit × List MemPlace} (hx : Maps.has formD (.int .i64 x) = true) (hat : ∀ zd, formD.atKey (.int .i64 x) zd = y.1) (hy : formR (mkF c) = some y) : ∃ f ∈ allForms, x = (f.code : Int) ∧ mkF c = f.val := by
  obtain ⟨f, hf, rfl⟩ := formD_has x hx
  refine ⟨f, hf, rfl, ?_⟩
  have h1 := (hat .nil).symm.trans (formD_at f hf .nil)
  obtain ⟨s, n⟩ := c
  have h2 : formR (mkF (s, n)) = some (.agg [.lit (.string s.data.toList), .lit (.int .i64 n)], []) := rfl
  rw [h2] at hy
  cases hy
  simp only [Form.dat, DataW.agg.injEq, List.cons.injEq, DataW.lit.injEq, Lit.string.injEq, Lit.int.injEq, and_true, true_and] at h1
  unfold mkF Form.val
  rw [h1.2]
  congr 2
  congr 1
  congr 1
  apply ByteArray.ext
  apply Array.toList_inj.1
  rw [h1.1]

theorem forms_apart (f g : Form) (hf : f ∈ allForms) (hg : g ∈ allForms) (h : f.str.isPrefixOf g.str = true ∨ g.str.isPrefixOf f.str = true) : f = g := by
  simp only [allForms, List.mem_cons, List.not_mem_nil, or_false] at hf hg
  rcases hf with rfl | rfl | rfl | rfl | rfl | rfl | rfl | rfl <;> rcases hg with rfl | rfl | rfl | rfl | rfl | rfl | rfl | rfl <;> first | rfl | (exfalso; revert h; decide)

theorem findF_of (t : List UInt8) (f : Form) (hf : f ∈ allForms) (h : Lib.hasPrefix t f.str = true) : findF t = some f := by
  unfold findF
  cases hq : allForms.find? fun f => Lib.hasPrefix t f.str with
  | none =>
    rw [List.find?_eq_none] at hq
    exact absurd h (hq f hf)
  | some g =>
    have h1 := List.find?_some hq
    have h2 := List.mem_of_find?_eq_some hq
    congr 1
    refine forms_apart g f h2 hf ?_
    unfold Lib.hasPrefix at h h1
    rw [List.isPrefixOf_iff_prefix] at h h1 ⊢
    rw [List.isPrefixOf_iff_prefix]
    rcases Nat.le_total g.str.length f.str.length with hl | hl
    · exact .inl (List.prefix_of_prefix_length_le h1 h hl)
    · exact .inr (List.prefix_of_prefix_length_le h h1 hl)
theorem findF_none (t : List UInt8) (h : ∀ f ∈ allForms, Lib.hasPrefix t f.str = false) : findF t = none := by
  unfold findF
  rw [List.find?_eq_none]
  intro f hf
  rw [h f hf]
  simp

theorem formInv (key : Value) (kl : Lit) (h : keyOf Tryz.prog 3 key = some kl) : ∃ x, key = Value.int .i64 x := by
  obtain ⟨x, rfl, _⟩ := Maps.keyOf_int_inv Tryz.underlying3 h
  exact ⟨x, rfl⟩
theorem formD_hasF (f : Form) (hf : f ∈ allForms) : Maps.has formD (.int .i64 (f.code : Int)) = true := by
  rw [formD_eq]
  simp only [allForms, List.mem_cons, List.not_mem_nil, or_false] at hf
  rcases hf with rfl | rfl | rfl | rfl | rfl | rfl | rfl | rfl <;> rfl

theorem results_tct {P : Program} {fn : Func} {p q r : Tmp} {ty : TypeId} (h : fn.results = #[.tmp p, .cell q ty, .tmp r]) (tmps : Array Value) (w : World) (g : Nat) (t : TypeId) (cs : Array Value) (fr : Nat × Nat) (d : TypeDesc)
    (hp : tmps.getD q undef = .pointer (some ⟨g, 0, none⟩)) (hg : w.heap[g]? = some (.cells cs t fr))
    (hu : P.underlying ty = some d) (hd : (match d with | .struct _ | .array _ _ => true | _ => false) = true) (hi : (P.info? ty).map (·.size) = some cs.size) :
    (results fn tmps).run P w = .ok (.tuple #[tmps.getD p undef, .agg cs, tmps.getD r undef]) w := by
  have hp' : tmps[q]?.getD undef = .pointer (some ⟨g, 0, none⟩) := by simpa using hp
  simp [results, h, hp', asAddr, run_loadVar_row w g t ty cs fr d hg hu hd hi]
theorem below_setRow' {B : Nat} {a w : World} (h : Below B a w) {g : Nat} (hB : B ≤ g) (cs : Array Value) : Below B a (w.setRow g cs) :=
  ⟨h.os, h.tape, h.output, by rw [size_setRow]; exact h.size, fun k hk => by rw [setRow_other _ _ _ _ (by omega)]; exact h.block k hk⟩

theorem codes_apart (f g : Form) (hf : f ∈ allForms) (hg : g ∈ allForms) (h : f ≠ g) : (!(Lit.int .i64 (f.code : Int)).sameKey (.int .i64 (g.code : Int))) = true := by
  simp only [allForms, List.mem_cons, List.not_mem_nil, or_false] at hf hg
  rcases hf with rfl | rfl | rfl | rfl | rfl | rfl | rfl | rfl <;> rcases hg with rfl | rfl | rfl | rfl | rfl | rfl | rfl | rfl <;> first | rfl | exact absurd rfl h

/-- What stands while the loop goes on. -/
structure BegR (w0 w : World) (t : List UInt8) (g b r : Nat) (left : Lit → Bool) (cnt : Nat) : Prop where
  rg : w.ranges Tryz.prog 3 formR b r 8 formD left cnt
  sub : ∀ kl, left kl = true → Maps.has formD kl = true
  done : ∀ f ∈ allForms, left (.int .i64 (f.code : Int)) = true ∨ Lib.hasPrefix t f.str = false
  cell : w.heap[g]? = some (.cells #[.string ⟨#[]⟩, .int .i64 0] 157 (0, 0))
  low : Below w0.heap.size w0 w

set_option maxHeartbeats 4000000 in
set_option maxRecDepth 100000 in
theorem begins_any (t : List UInt8) (w : World) : Calls Tryz.prog 151 #[.string ⟨t.toArray⟩] w fun e w' => e = .returned (begV (findF t)) ∧ Below w.heap.size w w' := by
  go_enter Tryz.func151, Tryz.ntmps151
  go_wp2_with fail
  refine (forms_any _).mono ?_
  rintro e w1 ⟨rfl, hown, b1⟩
  have z1 := b1.size
  rw [size_alloc] at z1 hown
  have hc1 : w1.heap[w.heap.size]? = some (.cells #[.string ⟨#[]⟩, .int .i64 0] 157 (0, 0)) := (b1.block _ (by rw [size_alloc]; omega)).trans (heap_alloc_new _ _)
  have hb1 : Below w.heap.size w w1 := ext_trans (ext_alloc _ _) b1
  clear b1
  rw [size_alloc]
  go_wp2_with (first
    | (at_range; refine wpList_range_own _ rfl _ 179 rfl 3 157 formK Tryz.underlying179 formR (w.heap.size + 1) 8 formD rfl hown ?_; intro w2 hrg2 hg2 hs2))
  go_frame
  have hR2 : BegR w w2 t w.heap.size (w.heap.size + 1) w1.heap.size (Maps.has formD) (Maps.size formD) :=
    ⟨hrg2, fun _ h => h, fun f hf => .inl (formD_hasF f hf), (hg2.block _ (by omega) (by simp)).trans hc1, ext_trans hb1 ⟨hg2.os, hg2.tape, hg2.output, hg2.size, fun k hk => hg2.block k hk (by simp)⟩⟩
  have hrb : w.heap.size < w1.heap.size := by omega
  clear hrg2 hg2 hs2 hc1 hb1 hown z1
  generalize w1.heap.size = r at hR2 hrb ⊢
  go_loopw [5] (fun _ wr => ∃ left cnt, BegR w wr t w.heap.size (w.heap.size + 1) r left cnt) (fun _ wr => wr.rangeLeft (w.heap.size + 1) r)
  case atStart => exact ⟨_, _, hR2⟩
  case round =>
    obtain ⟨left, cnt, hR⟩ := hrel
    have hrg := hR.rg
    go_wp2_with (first
      | (at_next; refine wpList_next_ranges _ rfl _ rfl 3 formK formR (Value.int .i64) mkF formInv formR_inv (w.heap.size + 1) r 8 formD left cnt rfl hrg ?_ ?_))
    · intro hc0 hl0
      have hcell := hR.cell
      go_wp2_with (refine wpList_store_row rfl 157 _ _ rfl w.heap.size #[.string ⟨#[]⟩, .int .i64 0] rfl rfl 157 _ hcell (by kernel_rfl) rfl (by kernel_rfl) ?_)
      refine bodyPost_ret (results_tct rfl _ _ w.heap.size _ _ _ _ rfl (setRow_heap _ _ _ _ _ _ hcell) Tryz.underlying157 rfl (by kernel_rfl)) rfl ⟨?_, below_setRow' hR.low (Nat.le_refl _) _⟩
      rw [findF_none t (fun f hf => (hR.done f hf).resolve_left (by rw [hl0]; simp))]
      rfl
    · intro x c0 c1 kl d ps w3 cnt1 hkey hlx hy hat hrg1 hlt hg1 hs1 hen
      have hkl : kl = .int .i64 x := by
        obtain ⟨x', e1, e2, _⟩ := Maps.keyOf_int_inv Tryz.underlying3 hkey
        cases e1
        exact e2
      subst hkl
      obtain ⟨f, hf, rfl, hcv⟩ := entry_is (hR.sub _ hlx) (y := (d, ps)) hat hy
      rw [hcv] at hen ⊢
      unfold Form.val at hen ⊢
      have hcell3 : w3.heap[w.heap.size]? = _ := (hg1.block _ (by have := hrg.lt; omega) (by simp; omega)).trans hR.cell
      have hlow3 : Below w.heap.size w w3 := hR.low.trans ⟨hg1.os, hg1.tape, hg1.output, hg1.size, fun k hk => hg1.block k (by have := hR.low.size; omega) (by simp; omega)⟩
      cases hp : Lib.hasPrefix t f.str
      · go_wp2_with fail
        refine (Tryz.strings_HasPrefix _ _ _).mono ?_
        rintro e w4 ⟨rfl, rfl⟩
        rw [show (ByteArray.mk t.toArray).data.toList = t from rfl, show (ByteArray.mk f.str.toArray).data.toList = f.str from rfl, hp]
        go_wp2_with fail
        refine ⟨⟨_, cnt1, ⟨hrg1.alloc _, ?_, ?_, (Lib.alloc_old _ _ _ (by have := hrg.lt; omega)).trans hcell3, ext_trans hlow3 (ext_alloc _ _)⟩⟩, ?_⟩
        · intro kl hkl
          rw [Bool.and_eq_true] at hkl
          exact hR.sub kl hkl.1
        · intro g hg
          rcases hR.done g hg with h | h
          · by_cases e : g = f
            · right; rw [e]; exact hp
            · left
              rw [Bool.and_eq_true]
              exact ⟨h, codes_apart g f hg hf e⟩
          · exact .inr h
        · rw [(hrg1.alloc _).left_eq, hrg.left_eq]; exact hlt
      · go_wp2_with fail
        refine (Tryz.strings_HasPrefix _ _ _).mono ?_
        rintro e w4 ⟨rfl, rfl⟩
        rw [show (ByteArray.mk t.toArray).data.toList = t from rfl, show (ByteArray.mk f.str.toArray).data.toList = f.str from rfl, hp]
        go_wp2_with fail
        have hA := heap_alloc_new w3 (Obj.cells #[.string ⟨f.str.toArray⟩, .int .i64 (f.raw : Int)] 157)
        have hB := (Lib.alloc_old w3 (Obj.cells #[.string ⟨f.str.toArray⟩, .int .i64 (f.raw : Int)] 157) _ (by have := hrg.lt; omega)).trans hcell3
        have hlow4 := ext_trans hlow3 (ext_alloc w3 (Obj.cells #[.string ⟨f.str.toArray⟩, .int .i64 (f.raw : Int)] 157))
        rw [hs1] at hA
        generalize w3.alloc (Obj.cells #[.string ⟨f.str.toArray⟩, .int .i64 (f.raw : Int)] 157) = w5 at hA hB hlow4 ⊢
        have c0 : w5.drew.cell? ⟨wr.heap.size, 0, none⟩ = some (.string ⟨f.str.toArray⟩) := cell_of_row w5.drew _ 0 _ _ _ hA
        have c1 : w5.drew.cell? ⟨wr.heap.size, 1, none⟩ = some (.int .i64 (f.raw : Int)) := cell_of_row w5.drew _ 1 _ _ _ hA
        have d0 : w5.drew.cell? ⟨w.heap.size, 0, none⟩ = some (.string ⟨#[]⟩) := cell_of_row w5.drew _ 0 _ _ _ hB
        have d1 : w5.drew.cell? ⟨w.heap.size, 1, none⟩ = some (.int .i64 0) := cell_of_row w5.drew _ 1 _ _ _ hB
        have hfr : ∀ j, w5.drew.frozen? ⟨w.heap.size, j, none⟩ = false := fun j => frozen_of_row (w := w5.drew) hB
        have e1 : w5.cell? ⟨w.heap.size, 1, none⟩ = some (.int .i64 0) := d1
        have hfr2 : ∀ j, w5.frozen? ⟨w.heap.size, j, none⟩ = false := hfr
        go_region
        have hC := Lib.heap_setCell_same (i := 1) (Lib.heap_setCell_same (i := 0) hB (Value.string ⟨f.str.toArray⟩)) (Value.int .i64 (f.raw : Int))
        have hlow6 : Below w.heap.size w ((w5.setCell ⟨w.heap.size, 0, none⟩ (Value.string ⟨f.str.toArray⟩)).setCell ⟨w.heap.size, 1, none⟩ (Value.int .i64 (f.raw : Int))).drew := ((hlow4.setCell (by simp) _).setCell (by simp) _).drew
        clear c0 c1 d0 d1 e1 hfr hfr2
        have hC2 : ((w5.setCell ⟨w.heap.size, 0, none⟩ (Value.string ⟨f.str.toArray⟩)).setCell ⟨w.heap.size, 1, none⟩ (Value.int .i64 (f.raw : Int))).drew.heap[w.heap.size]? = some (.cells #[.string ⟨f.str.toArray⟩, .int .i64 (f.raw : Int)] 157 (0, 0)) := hC
        generalize ((w5.setCell ⟨w.heap.size, 0, none⟩ (Value.string ⟨f.str.toArray⟩)).setCell ⟨w.heap.size, 1, none⟩ (Value.int .i64 (f.raw : Int))).drew = w6 at hC2 hlow6 ⊢
        go_wp2_with fail
        refine bodyPost_ret (results_tct rfl _ _ w.heap.size _ _ _ _ rfl hC2 Tryz.underlying157 rfl (by kernel_rfl)) rfl ⟨?_, hlow6⟩
        rw [findF_of t f hf hp]
        rfl

end Go.Proofs.YtkinlobfdkeamaaGreatDoor

