/- Rows that the kit's functions make and append to. Different texts of a kind. (Printed by gen_diff.py.) The kit's seals. -/
import Derived.Test.YtkinlobfdkeamaaGreatDoorV22
import Derived.Test.YtkinlobfdkeamaaGreatDoorV07
namespace Go.Proofs.YtkinlobfdkeamaaGreatDoor
open Go.RowKit

theorem KitB.grown {D : Nat} {w0 w w' : World} {row : Option Nat} (h : KitB D w0 w) (hg : w.grownBy w' row) (hr : ∀ k, row = some k → w0.heap.size ≤ k) : KitB D w0 w' :=
  ⟨hg.os.trans h.os, hg.tape.trans h.tape, hg.output.trans h.output, Nat.le_trans h.size hg.size, fun k hk hD => (hg.block k (Nat.lt_of_lt_of_le hk h.size) (fun e => by have := hr k e.symm; omega)).trans (h.block k hk hD)⟩
theorem Dice.from {D : Nat} {A : Option Addr} {n c : Nat} {w0 w : World} (h0 : Dice D A n c w0) (h : KitB D w0 w) (hr : ∃ t : Nat, w.heap[D]? = some (.cells #[.slice A n c, .int .i64 (t : Int)] 58 (0, 0)) ∧ t ≤ n) : Dice D A n c w :=
  ⟨hr, h0.cap, h0.few, fun i hi => by obtain ⟨ad, z, e1, e2, e3, e4⟩ := h0.ints i hi; exact ⟨ad, z, e1, e2, h.cell e2 e3, e4⟩⟩
theorem KitW.grown {D : Nat} {A : Option Addr} {n c : Nat} {w0 w w' : World} {row : Option Nat} (h0 : Dice D A n c w0) (h : KitW D A n c w0 w) (hg : w.grownBy w' row) (hr : ∀ k, row = some k → w0.heap.size ≤ k) : KitW D A n c w0 w' := by
  have hb := h.b.grown hg hr
  refine ⟨hb, h0.from hb ?_⟩
  obtain ⟨t, e1, e2⟩ := h.d.row
  refine ⟨t, ?_, e2⟩
  rw [hg.block D (krow_lt e1) (fun e => by have := hr D e.symm; have := h0.lt; omega)]
  exact e1
theorem KitB.setRow {D : Nat} {w0 w : World} (h : KitB D w0 w) {g : Nat} (hg : w0.heap.size ≤ g) (cs : Array Value) : KitB D w0 (w.setRow g cs) :=
  ⟨h.os, h.tape, h.output, by rw [size_setRow]; exact h.size, fun k hk hD => by rw [setRow_other _ _ _ _ (by omega)]; exact h.block k hk hD⟩
theorem KitW.setRow {D : Nat} {A : Option Addr} {n c : Nat} {w0 w : World} (h0 : Dice D A n c w0) (h : KitW D A n c w0 w) {g : Nat} (hg : w0.heap.size ≤ g) (cs : Array Value) : KitW D A n c w0 (w.setRow g cs) := by
  have hb := h.b.setRow hg cs
  refine ⟨hb, h0.from hb ?_⟩
  obtain ⟨t, e1, e2⟩ := h.d.row
  have := h0.lt
  exact ⟨t, by rw [setRow_other _ _ _ _ (by omega)]; exact e1, e2⟩

theorem own_kit {D : Nat} {w w' : World} {base : Nat} {e : TypeId} {size : Nat} {v : Value} {n : Nat} {xs : List Value} (h : w.ownsRow base e size v n xs) (hD : D < base) (hk : KitB D w w') : w'.ownsRow base e size v n xs := by
  obtain ⟨h1, h2⟩ := h
  refine ⟨h1, ?_⟩
  rcases h2 with h2 | ⟨g, cap, cur, hv, hg, hh, r⟩
  · exact Or.inl h2
  · exact Or.inr ⟨g, cap, cur, hv, hg, hk.row (by omega) hh, r⟩
theorem own_later {w w' : World} {base : Nat} {e : TypeId} {size : Nat} {v : Value} {n : Nat} {xs : List Value} (h : w.ownsRow base e size v n xs) (hb : Below w.heap.size w w') : w'.ownsRow base e size v n xs := by
  obtain ⟨h1, h2⟩ := h
  refine ⟨h1, ?_⟩
  rcases h2 with h2 | ⟨g, cap, cur, hv, hg, hh, r⟩
  · exact Or.inl h2
  · exact Or.inr ⟨g, cap, cur, hv, hg, rowLater hb hh, r⟩

theorem strCells_len (l : List (List UInt8)) : (strCells l).toList.length = l.length := by simp [strCells]
theorem strCells_append (a b : List (List UInt8)) : (strCells a).toList ++ (strCells b).toList = (strCells (a ++ b)).toList := by simp [strCells]
theorem strs_own {w : World} {base : Nat} {T : TypeId} {v : Value} (l : List (List UInt8)) (h : w.ownsRow base T 1 v l.length (strCells l).toList) (hl : l.length ≤ 1000000) (hs : ∀ s ∈ l, s.length ≤ 1000000) : Strs w v l := by
  refine ⟨?_, hl, hs⟩
  rcases h.2 with ⟨rfl, h0⟩ | ⟨g, cap, cur, rfl, hg, hh, hn, r1, r2, r3⟩
  · exact ⟨none, 0, by rw [h0], by omega, fun i hi => by omega⟩
  · refine ⟨_, _, rfl, hn, fun i hi => ⟨_, rfl, ?_⟩⟩
    rw [add0, h.cellAt i (by omega)]
    unfold strCells
    rw [List.getElem?_map, List.getElem?_eq_getElem hi, List.getD_eq_getElem?_getD, List.getElem?_eq_getElem hi]
    rfl

theorem kStr : (Tryz.prog.info? 9).map (fun i => (i.zero, i.size, i.bytes)) = some (some (.string ⟨#[]⟩), 1, 16) := by kernel_rfl

/-- append(v, x..), v one's own. -/
theorem kapp {ops : Array Oper} {rest : List Oper} {o : Oper} {a : Act} {Q : Exit → Act → World → Prop} {D : Nat} {A : Option Addr} {n c : Nat} {w0 w : World} (h0 : Dice D A n c w0) (hW : KitW D A n c w0 w)
    (T e : TypeId) (z : Value) (size bytes : Nat) (hT : Tryz.prog.underlying T = some (.slice e)) (hinf : (Tryz.prog.info? e).map (fun i => (i.zero, i.size, i.bytes)) = some (some z, size, bytes)) (hz : z.cells.size = size) (hsz : 0 < size) (hby : bytes ≤ 1000)
    (hgd : o.guard = none) (s x : Operand) (ho : o.op = .call { callee := .builtin .append, args := #[s, x], argTypes := #[T, T] })
    (v : Value) (m : Nat) (xs : List Value) (hs : a.eval s = v) (hown : w.ownsRow w0.heap.size e size v m xs)
    (ad : Addr) (k cp : Nat) (news : List Value) (hx : a.eval x = .slice (some ad) k cp) (hl : news.length = k * size) (hnews : ∀ j u, news[j]? = some u → w.cell? (ad.add j) = some u) (hone : ∀ u ∈ news, u.oneCell' = true) (hlen : m + k ≤ 1000000)
    (h : ∀ v' w', w'.ownsRow w0.heap.size e size v' (m + k) (xs ++ news) → KitW D A n c w0 w' → w.grownBy w' v.ownBlock → wpList Tryz.prog ops Q rest (a.put o.dst v') w') : wpList Tryz.prog ops Q (o :: rest) a w := by
  obtain ⟨i0, hi, hz0, hz1, hz2⟩ := info_parts hinf
  refine wpList_append_own w hgd s x T ho w0.heap.size e i0 z size bytes hT hi hz0 hz1 hz2 hz hsz v m xs hs hown ad k cp news hx hl hnews hone (by unfold maxLen; omega) ?_ hW.b.size ?_
  · have : (m + k) * bytes ≤ 1000000 * 1000 := Nat.mul_le_mul hlen hby
    omega
  · intro v' w' h1 h2 _
    exact h v' w' h1 (hW.grown h0 h2 (fun k hk => (hown.lt k hk).1)) h2

/-- The types of the rows of thresholds. -/
def ThrT (T : TypeId) : Prop := T = 93 ∨ T = 56
/-- It holds as long as the rows of thresholds from block B on are what they are. -/
def FirmT (B : Nat) (w : World) (φ : World → Prop) : Prop := ∀ W, (∀ b cs T, B ≤ b → ThrT T → w.heap[b]? = some (.cells cs T (0, 0)) → W.heap[b]? = some (.cells cs T (0, 0))) → φ W
theorem FirmT.now {B : Nat} {w : World} {φ : World → Prop} (h : FirmT B w φ) : φ w := h w (fun _ _ _ _ _ h => h)
theorem FirmT.step {B : Nat} {w w' : World} {φ : World → Prop} (h : FirmT B w φ) (k : ∀ b cs T, B ≤ b → ThrT T → w.heap[b]? = some (.cells cs T (0, 0)) → w'.heap[b]? = some (.cells cs T (0, 0))) : FirmT B w' φ :=
  fun W hW => h W (fun b cs T hb hT hr => hW b cs T hb hT (k b cs T hb hT hr))
theorem FirmT.kit {B D : Nat} {w w' : World} {φ : World → Prop} (h : FirmT B w φ) (hD : D < B) (k : KitB D w w') : FirmT B w' φ := h.step (fun b _ _ hb _ hr => k.row (by omega) hr)
theorem FirmT.later {B : Nat} {w w' : World} {φ : World → Prop} (h : FirmT B w φ) (k : Below w.heap.size w w') : FirmT B w' φ := h.step (fun _ _ _ _ _ hr => rowLater k hr)
theorem FirmT.setCell {B : Nat} {w : World} {φ : World → Prop} (h : FirmT B w φ) {g : Nat} {cs : Array Value} {T : TypeId} (hg : w.heap[g]? = some (.cells cs T (0, 0))) (hT : ¬ ThrT T) (j : Nat) (v : Value) : FirmT B (w.setCell ⟨g, j, none⟩ v) φ :=
  h.step (fun b cs' T' _ hT' hr => by
    rw [heap_setCell_other _ _ _ _ (show b ≠ g from fun e => by
      subst e
      rw [hg] at hr
      injection hr with hr
      injection hr with _ h3
      exact hT (by rw [h3]; exact hT'))]
    exact hr)
theorem FirmT.setRow {B : Nat} {w : World} {φ : World → Prop} (h : FirmT B w φ) {g : Nat} {cs : Array Value} {T : TypeId} (hg : w.heap[g]? = some (.cells cs T (0, 0))) (hT : ¬ ThrT T) (xs : Array Value) : FirmT B (w.setRow g xs) φ :=
  h.step (fun b cs' T' _ hT' hr => by
    rw [setRow_other _ _ _ _ (show b ≠ g from fun e => by
      subst e
      rw [hg] at hr
      injection hr with hr
      injection hr with _ h3
      exact hT (by rw [h3]; exact hT'))]
    exact hr)
theorem FirmT.grown {B : Nat} {w w' : World} {φ : World → Prop} (h : FirmT B w φ) {base : Nat} {T : TypeId} {size : Nat} {v : Value} {m : Nat} {xs : List Value} (ho : w.ownsRow base T size v m xs) (hT : ¬ ThrT T) (hg : w.grownBy w' v.ownBlock) : FirmT B w' φ :=
  h.step (fun b cs' T' _ hT' hr => by
    rw [hg.block b (krow_lt hr) (fun e => by
      rcases ho.2 with ⟨rfl, _⟩ | ⟨g, cap, cur, rfl, _, hh, _⟩
      · exact absurd e (by simp [Value.ownBlock])
      · have : b = g := by simpa [Value.ownBlock] using e
        subst this
        rw [hh] at hr
        injection hr with hr
        injection hr with _ h3
        exact hT (by rw [h3]; exact hT'))]
    exact hr)

end Go.Proofs.YtkinlobfdkeamaaGreatDoor

namespace Go.Proofs.YtkinlobfdkeamaaGreatDoor
open Go.RowKit
set_option maxHeartbeats 8000000 in
set_option maxRecDepth 100000 in
theorem different0 (F : FuncId) (hent : ∀ args w, (callFunc F args).run Tryz.prog w = .ok (.enter F args) w) (pv : Value) (D : Nat) (A : Option Addr) (n c : Nat) (most : Nat) (hm : most ≤ 1000) (w : World) (hd : Dice D A n c w)
    (hF : ∀ w', KitB D w w' → Dice D A n c w' → Calls Tryz.prog F #[pv] w' fun e w2 => (∃ s : List UInt8, e = .returned (.string ⟨s.toArray⟩) ∧ s.length ≤ 1000) ∧ KitW D A n c w' w2) :
    Calls Tryz.prog 31 #[.pointer (some ⟨D, 0, none⟩), .int .i64 (most : Int), .func (.func F) #[pv] #[]] w fun e w' => (∃ v, e = .returned v ∧ ∃ l : List (List UInt8), l.length ≤ most ∧ (∀ s ∈ l, s.length ≤ 1000) ∧ w'.ownsRow w.heap.size 9 1 v l.length (strCells l).toList) ∧ KitW D A n c w w' := by
  have HN : PLift _ := PLift.up (next_any D A n c ((most : Int) + 1) (by omega) (by omega) w hd)
  have HF : PLift _ := PLift.up hF
  have HD : PLift _ := PLift.up hd
  have hent2 : PLift _ := PLift.up hent
  have hlt : PLift (D < w.heap.size) := PLift.up hd.lt
  clear hF hd
  go_enter Tryz.func31, Tryz.ntmps31
  go_wp2_with fail
  refine HN.down.mono ?_
  rintro e w1 ⟨⟨z, rfl, z0, z1⟩, hk1⟩
  obtain ⟨K, rfl⟩ := Int.eq_ofNat_of_zero_le z0
  have HK1 : PLift _ := PLift.up hk1
  clear hk1
  go_wp2_with fail
  go_loopw [8, 7] (fun v8 v7 wr => ∃ (kk : Nat) (l : List (List UInt8)), v8 = .int .i64 (kk : Int) ∧ wr.ownsRow w.heap.size 9 1 v7 l.length (strCells l).toList ∧ l.length + kk ≤ most ∧ (∀ s ∈ l, s.length ≤ 1000) ∧ KitW D A n c w wr) (fun v8 _ _ => (intOf v8).toNat)
  case atStart => exact ⟨K, [], rfl, World.ownsRow_nil _ _ _ _, by simp; omega, by simp, HK1.down⟩
  case round =>
    obtain ⟨kk, l, rfl, hown, hkl, hsh, hk⟩ := hrel
    have HSL : PLift _ := PLift.up hsh
    have HK : PLift _ := PLift.up hk
    have HO : PLift _ := PLift.up hown
    clear hsh hk hown
    have hstr := strs_own l HO.down (by omega) (fun s hs => by have := HSL.down s hs; omega)
    obtain ⟨B, cap, rfl⟩ := hstr.is
    have HST : PLift _ := PLift.up hstr
    clear hstr
    by_cases hpos : kk = 0
    · subst hpos
      clear hent
      go_wp2_with fail
      go_ret
      exact ⟨⟨_, rfl, l, by omega, HSL.down, HO.down⟩, HK.down⟩
    · have p0 : (0 : Int) < (kk : Int) := by omega
      have p1 : 0 < kk := by omega
      go_wp2_with fail
      refine (HF.down wr HK.down.b HK.down.d).mono ?_
      rintro e w2 ⟨⟨s, rfl, hs⟩, hk2⟩
      have HK2 : PLift _ := PLift.up (HK.down.trans hk2)
      have HO2 : PLift _ := PLift.up (own_kit HO.down hlt.down hk2.b)
      have hst2 := strs_own l HO2.down (by omega) (fun s hs => by have := HSL.down s hs; omega)
      obtain ⟨⟨B', cap', he, hcap, hel⟩, _, _⟩ := hst2
      cases he
      have HS1 : PLift _ := PLift.up hs
      clear hk2 hs hent
      go_wp2_with fail
      obtain ⟨wo, rfl⟩ : ∃ wo : World, wo = w2 := ⟨_, rfl⟩
      go_loopw [25, 10] (fun v25 v10 wq => ∃ (j : Nat) (b : Bool), j ≤ l.length ∧ v25 = .int .i64 (j : Int) ∧ v10 = .bool b ∧ wq = wo) (fun v25 _ _ => ((l.length : Int) - intOf v25).toNat)
      case atStart => exact ⟨0, false, by omega, rfl, rfl, rfl⟩
      case round =>
        obtain ⟨j, b, hj, rfl, rfl, rfl⟩ := hrel
        by_cases hjl : j < l.length
        · obtain ⟨ad, rfl, hcj⟩ := hel j hjl
          have j1 : (j : Int) < l.length := by omega
          clear hel
          generalize l.getD j [] = y at hcj
          cases b with
          | true =>
            go_wp2_with fail
            exact ⟨⟨j + 1, true, by omega, by go_num, rfl, by first | rfl | trivial⟩, by simp only [intOf]; omega⟩
          | false =>
            go_wp2_with fail
            exact ⟨⟨j + 1, _, by omega, by go_num, rfl, by first | rfl | trivial⟩, by simp only [intOf]; omega⟩
        · have hjl' : j = l.length := by omega
          subst hjl'
          clear hel
          cases b with
          | true =>
            go_wp2_with fail
            exact ⟨⟨kk - 1, l, by go_num, HO2.down, by omega, HSL.down, HK2.down⟩, by simp only [intOf]; omega⟩
          | false =>
            go_wp2_with (refine kapp HD.down (HK2.down.later (ext_alloc _ _)) 32 9 (.string ⟨#[]⟩) 1 16 Tryz.underlying32 kStr rfl (by decide) (by decide) rfl _ _ rfl _ l.length (strCells l).toList rfl (own_later HO2.down (ext_alloc _ _)) _ 1 1 (strCells [s]).toList rfl rfl (fun j u hu => by rw [add0, cell_of_row _ _ j _ _ _ (hA1_0 _ _)]; simpa [strCells] using hu) (fun u hu => by simp [strCells] at hu; subst hu; rfl) (by omega) ?_; intro v' w' ho' hk' _)
            rw [strCells_append] at ho'
            exact ⟨⟨kk - 1, l ++ [s], by go_num, by rw [List.length_append]; exact ho', by rw [List.length_append]; simp; omega, fun x hx => by
              rw [List.mem_append, List.mem_singleton] at hx
              rcases hx with hx | hx
              · exact HSL.down x hx
              · rw [hx]; exact HS1.down, hk'⟩, by simp only [intOf]; omega⟩

set_option maxHeartbeats 8000000 in
set_option maxRecDepth 100000 in
theorem different1 (F : FuncId) (hent : ∀ args w, (callFunc F args).run Tryz.prog w = .ok (.enter F args) w) (pv : Value) (D : Nat) (A : Option Addr) (n c : Nat) (most : Nat) (hm : most ≤ 1000) (w : World) (hd : Dice D A n c w)
    (hF : ∀ w', KitB D w w' → Dice D A n c w' → Calls Tryz.prog F #[pv] w' fun e w2 => (∃ s : List UInt8, e = .returned (.string ⟨s.toArray⟩) ∧ s.length ≤ 1000) ∧ KitW D A n c w' w2) :
    Calls Tryz.prog 31 #[.pointer (some ⟨D, 0, none⟩), .int .i64 (most : Int), .func (.func F) #[] #[pv]] w fun e w' => (∃ v, e = .returned v ∧ ∃ l : List (List UInt8), l.length ≤ most ∧ (∀ s ∈ l, s.length ≤ 1000) ∧ w'.ownsRow w.heap.size 9 1 v l.length (strCells l).toList) ∧ KitW D A n c w w' := by
  have HN : PLift _ := PLift.up (next_any D A n c ((most : Int) + 1) (by omega) (by omega) w hd)
  have HF : PLift _ := PLift.up hF
  have HD : PLift _ := PLift.up hd
  have hent2 : PLift _ := PLift.up hent
  have hlt : PLift (D < w.heap.size) := PLift.up hd.lt
  clear hF hd
  go_enter Tryz.func31, Tryz.ntmps31
  go_wp2_with fail
  refine HN.down.mono ?_
  rintro e w1 ⟨⟨z, rfl, z0, z1⟩, hk1⟩
  obtain ⟨K, rfl⟩ := Int.eq_ofNat_of_zero_le z0
  have HK1 : PLift _ := PLift.up hk1
  clear hk1
  go_wp2_with fail
  go_loopw [8, 7] (fun v8 v7 wr => ∃ (kk : Nat) (l : List (List UInt8)), v8 = .int .i64 (kk : Int) ∧ wr.ownsRow w.heap.size 9 1 v7 l.length (strCells l).toList ∧ l.length + kk ≤ most ∧ (∀ s ∈ l, s.length ≤ 1000) ∧ KitW D A n c w wr) (fun v8 _ _ => (intOf v8).toNat)
  case atStart => exact ⟨K, [], rfl, World.ownsRow_nil _ _ _ _, by simp; omega, by simp, HK1.down⟩
  case round =>
    obtain ⟨kk, l, rfl, hown, hkl, hsh, hk⟩ := hrel
    have HSL : PLift _ := PLift.up hsh
    have HK : PLift _ := PLift.up hk
    have HO : PLift _ := PLift.up hown
    clear hsh hk hown
    have hstr := strs_own l HO.down (by omega) (fun s hs => by have := HSL.down s hs; omega)
    obtain ⟨B, cap, rfl⟩ := hstr.is
    have HST : PLift _ := PLift.up hstr
    clear hstr
    by_cases hpos : kk = 0
    · subst hpos
      clear hent
      go_wp2_with fail
      go_ret
      exact ⟨⟨_, rfl, l, by omega, HSL.down, HO.down⟩, HK.down⟩
    · have p0 : (0 : Int) < (kk : Int) := by omega
      have p1 : 0 < kk := by omega
      go_wp2_with fail
      refine (HF.down wr HK.down.b HK.down.d).mono ?_
      rintro e w2 ⟨⟨s, rfl, hs⟩, hk2⟩
      have HK2 : PLift _ := PLift.up (HK.down.trans hk2)
      have HO2 : PLift _ := PLift.up (own_kit HO.down hlt.down hk2.b)
      have hst2 := strs_own l HO2.down (by omega) (fun s hs => by have := HSL.down s hs; omega)
      obtain ⟨⟨B', cap', he, hcap, hel⟩, _, _⟩ := hst2
      cases he
      have HS1 : PLift _ := PLift.up hs
      clear hk2 hs hent
      go_wp2_with fail
      obtain ⟨wo, rfl⟩ : ∃ wo : World, wo = w2 := ⟨_, rfl⟩
      go_loopw [25, 10] (fun v25 v10 wq => ∃ (j : Nat) (b : Bool), j ≤ l.length ∧ v25 = .int .i64 (j : Int) ∧ v10 = .bool b ∧ wq = wo) (fun v25 _ _ => ((l.length : Int) - intOf v25).toNat)
      case atStart => exact ⟨0, false, by omega, rfl, rfl, rfl⟩
      case round =>
        obtain ⟨j, b, hj, rfl, rfl, rfl⟩ := hrel
        by_cases hjl : j < l.length
        · obtain ⟨ad, rfl, hcj⟩ := hel j hjl
          have j1 : (j : Int) < l.length := by omega
          clear hel
          generalize l.getD j [] = y at hcj
          cases b with
          | true =>
            go_wp2_with fail
            exact ⟨⟨j + 1, true, by omega, by go_num, rfl, by first | rfl | trivial⟩, by simp only [intOf]; omega⟩
          | false =>
            go_wp2_with fail
            exact ⟨⟨j + 1, _, by omega, by go_num, rfl, by first | rfl | trivial⟩, by simp only [intOf]; omega⟩
        · have hjl' : j = l.length := by omega
          subst hjl'
          clear hel
          cases b with
          | true =>
            go_wp2_with fail
            exact ⟨⟨kk - 1, l, by go_num, HO2.down, by omega, HSL.down, HK2.down⟩, by simp only [intOf]; omega⟩
          | false =>
            go_wp2_with (refine kapp HD.down (HK2.down.later (ext_alloc _ _)) 32 9 (.string ⟨#[]⟩) 1 16 Tryz.underlying32 kStr rfl (by decide) (by decide) rfl _ _ rfl _ l.length (strCells l).toList rfl (own_later HO2.down (ext_alloc _ _)) _ 1 1 (strCells [s]).toList rfl rfl (fun j u hu => by rw [add0, cell_of_row _ _ j _ _ _ (hA1_0 _ _)]; simpa [strCells] using hu) (fun u hu => by simp [strCells] at hu; subst hu; rfl) (by omega) ?_; intro v' w' ho' hk' _)
            rw [strCells_append] at ho'
            exact ⟨⟨kk - 1, l ++ [s], by go_num, by rw [List.length_append]; exact ho', by rw [List.length_append]; simp; omega, fun x hx => by
              rw [List.mem_append, List.mem_singleton] at hx
              rcases hx with hx | hx
              · exact HSL.down x hx
              · rw [hx]; exact HS1.down, hk'⟩, by simp only [intOf]; omega⟩

end Go.Proofs.YtkinlobfdkeamaaGreatDoor

namespace Go.Proofs.YtkinlobfdkeamaaGreatDoor
open Go.RowKit

theorem KitB.setCell {D : Nat} {w0 w : World} (h : KitB D w0 w) {g : Nat} (hg : w0.heap.size ≤ g) (j : Nat) (v : Value) : KitB D w0 (w.setCell ⟨g, j, none⟩ v) :=
  ⟨h.os, h.tape, h.output, by show _ ≤ (w.heap.modify _ _).size; rw [Array.size_modify]; exact h.size, fun k hk hD => by rw [heap_setCell_other _ _ _ _ (show k ≠ g by omega)]; exact h.block k hk hD⟩
theorem KitW.setCell {D : Nat} {A : Option Addr} {n c : Nat} {w0 w : World} (h0 : Dice D A n c w0) (h : KitW D A n c w0 w) {g : Nat} (hg : w0.heap.size ≤ g) (j : Nat) (v : Value) : KitW D A n c w0 (w.setCell ⟨g, j, none⟩ v) := by
  have hb := h.b.setCell hg j v
  refine ⟨hb, h0.from hb ?_⟩
  obtain ⟨t, e1, e2⟩ := h.d.row
  have := h0.lt
  exact ⟨t, by rw [heap_setCell_other _ _ _ _ (show D ≠ g by omega)]; exact e1, e2⟩

theorem own_setCell {w : World} {base : Nat} {e : TypeId} {size : Nat} {v : Value} {n : Nat} {xs : List Value} (h : w.ownsRow base e size v n xs) {g : Nat} (j : Nat) (x : Value) (hne : v.ownBlock ≠ some g) : (w.setCell ⟨g, j, none⟩ x).ownsRow base e size v n xs := by
  obtain ⟨h1, h2⟩ := h
  refine ⟨h1, ?_⟩
  rcases h2 with h2 | ⟨b, cap, cur, hv, hg, hh, r⟩
  · exact Or.inl h2
  · refine Or.inr ⟨b, cap, cur, hv, hg, ?_, r⟩
    rw [heap_setCell_other _ _ _ _ (fun e => hne (by rw [hv]; show some b = some g; rw [show b = g from e]))]
    exact hh

theorem hA1_at (w : World) (o : Obj) {k : Nat} (hk : k = w.heap.size) : (w.alloc o).heap[k]? = some o := by rw [hk]; exact hA1_0 w o

/-- The cells of seals. -/
def sealCells : List SealV → List Value
  | [] => []
  | s :: r => .string ⟨s.pre.toArray⟩ :: .int .i64 s.num :: .string ⟨s.said.toArray⟩ :: sealCells r
theorem sealCells_append (a b : List SealV) : sealCells (a ++ b) = sealCells a ++ sealCells b := by
  induction a with
  | nil => rfl
  | cons x r ih => simp [sealCells, ih]
theorem sealCells_at (l : List SealV) : ∀ i, i < l.length → (sealCells l)[i * 3]? = some (.string ⟨(l.getD i ⟨[], 0, []⟩).pre.toArray⟩) ∧ (sealCells l)[i * 3 + 1]? = some (.int .i64 (l.getD i ⟨[], 0, []⟩).num) ∧ (sealCells l)[i * 3 + 2]? = some (.string ⟨(l.getD i ⟨[], 0, []⟩).said.toArray⟩) := by
  induction l with
  | nil => intro i hi; simp at hi
  | cons x r ih =>
    intro i hi
    cases i with
    | zero => exact ⟨rfl, rfl, rfl⟩
    | succ i =>
      have := ih i (by simpa using hi)
      rw [show (i + 1) * 3 = i * 3 + 3 by omega]
      simpa [sealCells] using this

theorem seals_own {w : World} {base : Nat} {T : TypeId} {v : Value} (l : List SealV) (h : w.ownsRow base T 3 v l.length (sealCells l)) (hl : l.length ≤ 1000000) (hs : ∀ s ∈ l, s.pre.length ≤ 9223372036854775807 ∧ s.said.length ≤ 9223372036854775807) : Seals w v l := by
  refine ⟨?_, hs⟩
  rcases h.2 with ⟨rfl, h0⟩ | ⟨g, cap, cur, rfl, hg, hh, hn, r1, r2, r3⟩
  · exact ⟨none, 0, by rw [h0], by omega, hl, fun i hi => by omega⟩
  · refine ⟨_, _, rfl, hn, hl, fun i hi => ⟨_, rfl, ?_⟩⟩
    obtain ⟨a1, a2, a3⟩ := sealCells_at l i hi
    rw [add0]
    dsimp only
    exact ⟨by rw [h.cellAt (i * 3) (by omega)]; exact a1, by rw [h.cellAt (i * 3 + 1) (by omega)]; exact a2, by rw [h.cellAt (i * 3 + 2) (by omega)]; exact a3⟩

theorem kSeal : (Tryz.prog.info? 68).map (fun i => (i.zero, i.size, i.bytes)) = some (some (.agg #[.string ⟨#[]⟩, .int .i64 0, .string ⟨#[]⟩]), 3, 40) := by kernel_rfl

set_option maxHeartbeats 8000000 in
set_option maxRecDepth 100000 in
theorem kseals_any (D : Nat) (A : Option Addr) (n c : Nat) (w : World) (hd : Dice D A n c w) :
    Calls Tryz.prog 29 #[.pointer (some ⟨D, 0, none⟩), .int .i64 3] w fun e w' => (∃ v, e = .returned v ∧ ∃ l : List SealV, l.length ≤ 3 ∧ (∀ s ∈ l, s.pre.length ≤ 9223372036854775807 ∧ s.said.length ≤ 9223372036854775807) ∧ w'.ownsRow w.heap.size 68 3 v l.length (sealCells l)) ∧ KitW D A n c w w' := by
  have HN : PLift _ := PLift.up (next_any D A n c 4 (by omega) (by omega) w hd)
  have HN2 : PLift _ := PLift.up (fun W h => next_any D A n c 2 (by omega) (by omega) W h)
  have HN3 : PLift _ := PLift.up (fun W h => next_any D A n c 300 (by omega) (by omega) W h)
  have HG : PLift _ := PLift.up (fun W h => kdigest_any D A n c W h)
  have HD : PLift _ := PLift.up hd
  have hlt : PLift (D < w.heap.size) := PLift.up hd.lt
  clear hd
  go_enter Tryz.func29, Tryz.ntmps29
  go_wp2_with fail
  refine HN.down.mono ?_
  rintro e w1 ⟨⟨z, rfl, z0, z1⟩, hk1⟩
  obtain ⟨K, rfl⟩ := Int.eq_ofNat_of_zero_le z0
  have HK1 : PLift _ := PLift.up hk1
  clear hk1
  go_wp2_with fail
  go_loopw [6, 5] (fun v6 v5 wr => ∃ (kk : Nat) (l : List SealV), v6 = .int .i64 (kk : Int) ∧ wr.ownsRow w.heap.size 68 3 v5 l.length (sealCells l) ∧ l.length + kk ≤ 3 ∧ (∀ s ∈ l, s.pre.length ≤ 9223372036854775807 ∧ s.said.length ≤ 9223372036854775807) ∧ KitW D A n c w wr) (fun v6 _ _ => (intOf v6).toNat)
  case atStart => exact ⟨K, [], rfl, World.ownsRow_nil _ _ _ _, by simp; omega, by simp, HK1.down⟩
  case round =>
    obtain ⟨kk, l, rfl, hown, hkl, hsh, hk⟩ := hrel
    have HSL : PLift _ := PLift.up hsh
    have HK : PLift _ := PLift.up hk
    have HO : PLift _ := PLift.up hown
    clear hsh hk hown
    by_cases hpos : kk = 0
    · subst hpos
      go_wp2_with fail
      go_ret
      exact ⟨⟨_, rfl, l, by omega, HSL.down, HO.down⟩, HK.down⟩
    · have p0 : (0 : Int) < (kk : Int) := by omega
      have p1 : 0 < kk := by omega
      go_wp2_with fail
      refine (HG.down wr HK.down.d).mono ?_
      rintro e w2 ⟨⟨s, rfl, hs⟩, hk2⟩
      have HK2 : PLift _ := PLift.up (HK.down.trans hk2)
      have HO2 : PLift _ := PLift.up (own_kit HO.down hlt.down hk2.b)
      have hb2 := HK2.down.b.size
      have hne : u5.ownBlock ≠ some w2.heap.size := fun e => by have := (HO2.down.lt _ e).2; omega
      clear hk2
      go_wp2_with fail
      refine (HN2.down _ (HK2.down.later (ext_alloc _ _)).d).mono ?_
      rintro e w3 ⟨⟨z, rfl, z0, z1⟩, hk3⟩
      have hrow3 := hk3.b.row (by have := hlt.down; omega) (hA1_0 w2 (.cells #[.string ⟨#[]⟩, .int .i64 0, .string ⟨s.toArray⟩] 68))
      have HK3 : PLift _ := PLift.up ((HK2.down.later (ext_alloc _ _)).trans hk3)
      have HO3 : PLift _ := PLift.up (own_kit (own_later HO2.down (ext_alloc _ _)) hlt.down hk3.b)
      clear hk3
      by_cases hz : z = 0
      · subst hz
        go_wp2_with fail
        refine (HG.down w3 HK3.down.d).mono ?_
        rintro e w4 ⟨⟨s2, rfl, hs2⟩, hk4⟩
        have hrow4 := hk4.b.row (by have := hlt.down; omega) hrow3
        have HK4 : PLift _ := PLift.up (HK3.down.trans hk4)
        have HO4 : PLift _ := PLift.up (own_kit HO3.down hlt.down hk4.b)
        clear hk4 hrow3
        go_wp2_with fail
        refine (HN3.down w4 HK4.down.d).mono ?_
        rintro e w5 ⟨⟨y, rfl, y0, y1⟩, hk5⟩
        have hrow5 := hk5.b.row (by have := hlt.down; omega) hrow4
        have HK5 : PLift _ := PLift.up (HK4.down.trans hk5)
        have HO5 : PLift _ := PLift.up (own_kit HO4.down hlt.down hk5.b)
        clear hk5 hrow4
        have hrow6 := heap_setCell_same w5 w2.heap.size 0 _ _ (.string ⟨s2.toArray⟩) hrow5
        have hrow7 := heap_setCell_same _ w2.heap.size 1 _ _ (.int .i64 y) hrow6
        have HKZ : PLift (KitW D A n c w _) := PLift.up ((HK5.down.setCell HD.down hb2 0 (.string ⟨s2.toArray⟩)).setCell HD.down hb2 1 (.int .i64 y))
        have HOZ : PLift _ := PLift.up (own_setCell (own_setCell HO5.down 0 (.string ⟨s2.toArray⟩) hne) 1 (.int .i64 y) hne)
        have c0 := cell_of_row _ _ 0 _ _ _ hrow5
        have f0 : w5.frozen? ⟨w2.heap.size, 0, none⟩ = false := frozen_of_row hrow5
        have c1 := cell_of_row _ _ 1 _ _ _ hrow6
        have f1 : (w5.setCell ⟨w2.heap.size, 0, none⟩ (.string ⟨s2.toArray⟩)).frozen? ⟨w2.heap.size, 1, none⟩ = false := frozen_of_row hrow6
        have d0 := cell_of_row _ _ 0 _ _ _ hrow7
        have d1 := cell_of_row _ _ 1 _ _ _ hrow7
        have d2 := cell_of_row _ _ 2 _ _ _ hrow7
        clear hrow5 hrow6 hrow7
        go_wp2_with (refine kapp HD.down (HKZ.down.later (ext_alloc _ _)) 33 68 (.agg #[.string ⟨#[]⟩, .int .i64 0, .string ⟨#[]⟩]) 3 40 Tryz.underlying33 kSeal rfl (by decide) (by decide) rfl _ _ rfl _ l.length (sealCells l) rfl (own_later HOZ.down (ext_alloc _ _)) _ 1 1 (sealCells [(⟨s2, y, s⟩ : SealV)]) rfl rfl (fun j u hu => by rw [add0, cell_of_row _ _ j _ _ _ (hA1_at _ _ (by simp [World.setCell]))]; simpa [sealCells] using hu) (fun u hu => by simp only [sealCells, List.mem_cons, List.not_mem_nil, or_false] at hu; rcases hu with rfl | rfl | rfl <;> rfl) (by omega) ?_; intro v' w' ho' hk' _)
        rw [← sealCells_append] at ho'
        exact ⟨⟨kk - 1, l ++ [(⟨s2, y, s⟩ : SealV)], by go_num, by rw [List.length_append]; exact ho', by rw [List.length_append]; simp; omega, fun x hx => by
          rw [List.mem_append, List.mem_singleton] at hx
          rcases hx with hx | hx
          · exact HSL.down x hx
          · rw [hx]; exact ⟨by simp; try omega, by simp; omega⟩, hk'⟩, by simp only [intOf]; omega⟩
      · have hz2 : (z == 0) = false := by simpa using hz
        have HKZ := HK3
        have HOZ := HO3
        obtain ⟨SV, hSV⟩ : ∃ SV : SealV, SV = ⟨[], 0, s⟩ := ⟨_, rfl⟩
        have c0 := cell_of_row _ _ 0 _ _ _ hrow3
        have c1 := cell_of_row _ _ 1 _ _ _ hrow3
        have c2 := cell_of_row _ _ 2 _ _ _ hrow3
        subst hSV
        go_wp2_with (refine kapp HD.down (HKZ.down.later (ext_alloc _ _)) 33 68 (.agg #[.string ⟨#[]⟩, .int .i64 0, .string ⟨#[]⟩]) 3 40 Tryz.underlying33 kSeal rfl (by decide) (by decide) rfl _ _ rfl _ l.length (sealCells l) rfl (own_later HOZ.down (ext_alloc _ _)) _ 1 1 (sealCells [(⟨[], 0, s⟩ : SealV)]) rfl rfl (fun j u hu => by rw [add0, cell_of_row _ _ j _ _ _ (hA1_0 _ _)]; simpa [sealCells] using hu) (fun u hu => by simp only [sealCells, List.mem_cons, List.not_mem_nil, or_false] at hu; rcases hu with rfl | rfl | rfl <;> rfl) (by omega) ?_; intro v' w' ho' hk' _)
        rw [← sealCells_append] at ho'
        exact ⟨⟨kk - 1, l ++ [(⟨[], 0, s⟩ : SealV)], by go_num, by rw [List.length_append]; exact ho', by rw [List.length_append]; simp; omega, fun x hx => by
          rw [List.mem_append, List.mem_singleton] at hx
          rcases hx with hx | hx
          · exact HSL.down x hx
          · rw [hx]; exact ⟨by simp; try omega, by simp; omega⟩, hk'⟩, by simp only [intOf]; omega⟩

end Go.Proofs.YtkinlobfdkeamaaGreatDoor

