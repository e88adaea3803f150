/- The kit's event: what stands while it is made. -/
import Derived.Test.YtkinlobfdkeamaaGreatDoorV25
import Derived.Deep.RegionHeld3
namespace Go.Proofs.YtkinlobfdkeamaaGreatDoor
open Go.RowKit

/-- The pointer to the dice in its box, and the zero result. -/
structure EvS1 (D : Nat) (A : Option Addr) (n c : Nat) (w W : World) : Prop where
  box : ∃ T, W.heap[w.heap.size]? = some (.cells #[.pointer (some ⟨D, 0, none⟩)] T (0, 0))
  res : W.heap[w.heap.size + 1]? = some (.cells zeroEv 35 (0, 0))
  kit : KitW D A n c w W
theorem EvS1.cell {D : Nat} {A : Option Addr} {n c : Nat} {w W : World} (h : EvS1 D A n c w W) : W.cell? ⟨w.heap.size, 0, none⟩ = some (.pointer (some ⟨D, 0, none⟩)) := by
  obtain ⟨T, e⟩ := h.box
  exact cell_of_row _ _ 0 _ _ _ e
theorem EvS1.step {D : Nat} {A : Option Addr} {n c : Nat} {w W W' : World} (h : EvS1 D A n c w W) (hD : D < w.heap.size) (k : KitW D A n c W W') : EvS1 D A n c w W' := by
  obtain ⟨T, e⟩ := h.box
  exact ⟨⟨T, k.b.row (by omega) e⟩, k.b.row (by omega) h.res, h.kit.trans k⟩
theorem EvS1.later {D : Nat} {A : Option Addr} {n c : Nat} {w W W' : World} (h : EvS1 D A n c w W) (k : Below W.heap.size W W') : EvS1 D A n c w W' := by
  obtain ⟨T, e⟩ := h.box
  exact ⟨⟨T, rowLater k e⟩, rowLater k h.res, h.kit.later k⟩

/-- .. and the event in its variable, block N. -/
structure EvB (D : Nat) (A : Option Addr) (n c m : Nat) (w W : World) (N : Nat) (e : EvV) (u : EvS) : Prop where
  s1 : EvS1 D A n c w W
  row : W.heap[N]? = some (.cells (evCells e u) 35 (0, 0))
  low : w.heap.size + 1 < N
  own : EvO w.heap.size W e u
  few : Few m e
theorem EvB.step {D : Nat} {A : Option Addr} {n c m : Nat} {w W W' : World} {N : Nat} {e : EvV} {u : EvS} (h : EvB D A n c m w W N e u) (hD : D < w.heap.size) (k : KitW D A n c W W') : EvB D A n c m w W' N e u :=
  ⟨h.s1.step hD k, k.b.row (by have := h.low; omega) h.row, h.low, h.own.kit hD k.b, h.few⟩
theorem EvB.later {D : Nat} {A : Option Addr} {n c m : Nat} {w W W' : World} {N : Nat} {e : EvV} {u : EvS} (h : EvB D A n c m w W N e u) (k : Below W.heap.size W W') : EvB D A n c m w W' N e u :=
  ⟨h.s1.later k, rowLater k h.row, h.low, h.own.later k, h.few⟩
theorem EvB.cell {D : Nat} {A : Option Addr} {n c m : Nat} {w W : World} {N : Nat} {e : EvV} {u : EvS} (h : EvB D A n c m w W N e u) (j : Nat) : W.cell? ⟨N, j, none⟩ = (evCells e u)[j]? := cell_of_row _ _ _ _ _ _ h.row
theorem EvB.free {D : Nat} {A : Option Addr} {n c m : Nat} {w W : World} {N : Nat} {e : EvV} {u : EvS} (h : EvB D A n c m w W N e u) (j : Nat) : W.frozen? ⟨N, j, none⟩ = false := frozen_of_row h.row
theorem EvS1.put {D : Nat} {A : Option Addr} {n c : Nat} {w W : World} (h : EvS1 D A n c w W) (h0 : Dice D A n c w) {N : Nat} (hN : w.heap.size + 1 < N) (j : Nat) (v : Value) : EvS1 D A n c w (W.setCell ⟨N, j, none⟩ v) := by
  obtain ⟨T, e⟩ := h.box
  exact ⟨⟨T, by rw [heap_setCell_other _ _ _ _ (show w.heap.size ≠ N by omega)]; exact e⟩, by rw [heap_setCell_other _ _ _ _ (show w.heap.size + 1 ≠ N by omega)]; exact h.res, h.kit.setCell h0 (by omega) j v⟩
/-- One cell is stored. -/
theorem EvB.put {D : Nat} {A : Option Addr} {n c m m' : Nat} {w W : World} {N : Nat} {e e' : EvV} {u u' : EvS} (h : EvB D A n c m w W N e u) (h0 : Dice D A n c w) (j : Nat) (v : Value) (hc : (evCells e u).setIfInBounds j v = evCells e' u') (ho : EvO w.heap.size W e' u') (hf : Few m' e') : EvB D A n c m' w (W.setCell ⟨N, j, none⟩ v) N e' u' :=
  ⟨h.s1.put h0 h.low j v, by rw [heap_setCell_same _ _ _ _ _ _ h.row, hc], h.low, ho.setCell h.row j v, hf⟩
theorem EvB.put1 {D : Nat} {A : Option Addr} {n c m : Nat} {w W : World} {N : Nat} {e e' : EvV} {u : EvS} (h : EvB D A n c m w W N e u) (h0 : Dice D A n c w) (j : Nat) (v : Value) (hc : (evCells e u).setIfInBounds j v = evCells e' u) (h1 : e'.thr.ws = e.thr.ws) (h2 : e'.nthr.ws = e.nthr.ws) (h3 : ∀ i, i < 6 → e'.ll i = e.ll i) (h4 : e'.anc = e.anc) : EvB D A n c m w (W.setCell ⟨N, j, none⟩ v) N e' u :=
  h.put h0 j v hc (h.own.congr h1 h2 h3 h4) (h.few.congr h3 h4)
/-- A list is laid in. -/
theorem EvB.putList {D : Nat} {A : Option Addr} {n c m : Nat} {w W : World} {N : Nat} {e : EvV} {u : EvS} (h : EvB D A n c m w W N e u) (h0 : Dice D A n c w) (i : Nat) (hi : i < 6) {v : Value} {l : List (List UInt8)} (ho : W.ownsRow w.heap.size 9 1 v l.length (strCells l).toList) (hn : l.length ≤ m) (hs : ∀ s ∈ l, s.length ≤ 1000000) :
    EvB D A n c m w (W.setCell ⟨N, offE i, none⟩ v) N (e.putLl i l) (u.putSl i v) := by
  refine h.put h0 (offE i) v (by rw [evCells_putSl _ _ _ i hi, evCells_putLl _ _ _ i hi]) ⟨?_, ?_, fun j hj => ?_, ?_⟩ ⟨fun j hj => ?_, ?_⟩
  · rw [putSl_tw _ _ i hi, putLl_thr _ _ i hi]; exact h.own.tw
  · rw [putSl_nw _ _ i hi, putLl_nthr _ _ i hi]; exact h.own.nw
  · by_cases e1 : i = j
    · subst e1
      rw [putSl_same _ _ i hi, putLl_same _ _ i hi]; exact ho
    · rw [putSl_other _ _ i hi j hj e1, putLl_other _ _ i hi j hj e1]; exact h.own.own j hj
  · rw [putSl_an _ _ i hi, putLl_anc _ _ i hi]; exact h.own.an
  · by_cases e1 : i = j
    · subst e1
      rw [putLl_same _ _ i hi]; exact ⟨hn, hs⟩
    · rw [putLl_other _ _ i hi j hj e1]; exact h.few.ll j hj
  · rw [putLl_anc _ _ i hi]; exact h.few.an
/-- A threshold is laid in. -/
theorem EvB.putThr {D : Nat} {A : Option Addr} {n c m : Nat} {w W : World} {N : Nat} {e : EvV} {u : EvS} (h : EvB D A n c m w W N e u) (h0 : Dice D A n c w) {t : ThrV} {v : Value} (hv : FirmT w.heap.size W (fun W => Fracss W v t.ws)) :
    EvB D A n c m w ((W.setCell ⟨N, 6, none⟩ (.int .i64 t.num)).setCell ⟨N, 7, none⟩ v) N { e with thr := t } { u with tw := v } := by
  have h1 : EvB D A n c m w (W.setCell ⟨N, 6, none⟩ (.int .i64 t.num)) N { e with thr := { e.thr with num := t.num } } u := h.put1 h0 6 _ rfl rfl rfl (six rfl rfl rfl rfl rfl rfl) rfl
  have hv1 := hv.setCell h.row notThrT_ev 6 (.int .i64 t.num)
  refine h1.put h0 7 v rfl ⟨hv1, h1.own.nw, fun i hi => ?_, h1.own.an⟩ (h1.few.congr (six rfl rfl rfl rfl rfl rfl) rfl)
  exact (six id id id id id id : ∀ i, i < 6 → (W.setCell ⟨N, 6, none⟩ (.int .i64 t.num)).ownsRow w.heap.size 9 1 (u.sl i) (e.ll i).length (strCells (e.ll i)).toList → (W.setCell ⟨N, 6, none⟩ (.int .i64 t.num)).ownsRow w.heap.size 9 1 (EvS.sl { u with tw := v } i) (EvV.ll { e with thr := t } i).length (strCells (EvV.ll { e with thr := t } i)).toList) i hi ((h.own.own i hi |> fun q => own_setCell q 6 (.int .i64 t.num) (own_type q h.row (by decide))))
theorem EvB.putNthr {D : Nat} {A : Option Addr} {n c m : Nat} {w W : World} {N : Nat} {e : EvV} {u : EvS} (h : EvB D A n c m w W N e u) (h0 : Dice D A n c w) {t : ThrV} {v : Value} (hv : FirmT w.heap.size W (fun W => Fracss W v t.ws)) :
    EvB D A n c m w ((W.setCell ⟨N, 9, none⟩ (.int .i64 t.num)).setCell ⟨N, 10, none⟩ v) N { e with nthr := t } { u with nw := v } := by
  have h1 : EvB D A n c m w (W.setCell ⟨N, 9, none⟩ (.int .i64 t.num)) N { e with nthr := { e.nthr with num := t.num } } u := h.put1 h0 9 _ rfl rfl rfl (six rfl rfl rfl rfl rfl rfl) rfl
  have hv1 := hv.setCell h.row notThrT_ev 9 (.int .i64 t.num)
  refine h1.put h0 10 v rfl ⟨h1.own.tw, hv1, fun i hi => ?_, h1.own.an⟩ (h1.few.congr (six rfl rfl rfl rfl rfl rfl) rfl)
  exact (six id id id id id id : ∀ i, i < 6 → (W.setCell ⟨N, 9, none⟩ (.int .i64 t.num)).ownsRow w.heap.size 9 1 (u.sl i) (e.ll i).length (strCells (e.ll i)).toList → (W.setCell ⟨N, 9, none⟩ (.int .i64 t.num)).ownsRow w.heap.size 9 1 (EvS.sl { u with nw := v } i) (EvV.ll { e with nthr := t } i).length (strCells (EvV.ll { e with nthr := t } i)).toList) i hi ((h.own.own i hi |> fun q => own_setCell q 9 (.int .i64 t.num) (own_type q h.row (by decide))))
/-- The first of it: what all events have. -/
theorem EvB.first {D : Nat} {A : Option Addr} {n c : Nat} {w W : World} {N : Nat} (h : EvS1 D A n c w W) (h0 : Dice D A n c w) (hN : w.heap.size + 1 < N) (hr : W.heap[N]? = some (.cells zeroEv 35 (0, 0))) (form kind : Int) (pre said : List UInt8) (an : Value) (l : List SealV)
    (hl : l.length ≤ 3) (hs : ∀ s ∈ l, s.pre.length ≤ 9223372036854775807 ∧ s.said.length ≤ 9223372036854775807) (ho : W.ownsRow w.heap.size 68 3 an l.length (sealCells l)) :
    EvB D A n c 10 w (W.setRow N (evCells ⟨form, kind, said, pre, 0, [], ⟨0, []⟩, [], ⟨0, []⟩, [], 0, [], [], [], [], l, []⟩ ⟨.slice none 0 0, .slice none 0 0, .slice none 0 0, .slice none 0 0, .slice none 0 0, .slice none 0 0, .slice none 0 0, .slice none 0 0, an⟩)) N
      ⟨form, kind, said, pre, 0, [], ⟨0, []⟩, [], ⟨0, []⟩, [], 0, [], [], [], [], l, []⟩ ⟨.slice none 0 0, .slice none 0 0, .slice none 0 0, .slice none 0 0, .slice none 0 0, .slice none 0 0, .slice none 0 0, .slice none 0 0, an⟩ := by
  obtain ⟨T, e⟩ := h.box
  refine ⟨⟨⟨T, by rw [setRow_other _ _ _ _ (show w.heap.size ≠ N by omega)]; exact e⟩, by rw [setRow_other _ _ _ _ (show w.heap.size + 1 ≠ N by omega)]; exact h.res, h.kit.setRow h0 (by omega) _⟩, setRow_heap _ _ _ _ _ _ hr, hN, EvO.setRow ⟨fun W _ => Fracss.nil W, fun W _ => Fracss.nil W, ?_, ho⟩ hr _, ⟨?_, by show l.length ≤ 10; omega, hs⟩⟩
  · exact six (World.ownsRow_nil _ _ _ _) (World.ownsRow_nil _ _ _ _) (World.ownsRow_nil _ _ _ _) (World.ownsRow_nil _ _ _ _) (World.ownsRow_nil _ _ _ _) (World.ownsRow_nil _ _ _ _)
  · exact six (by simp [EvV.ll]) (by simp [EvV.ll]) (by simp [EvV.ll]) (by simp [EvV.ll]) (by simp [EvV.ll]) (by simp [EvV.ll])
/-- What is handed back. -/
theorem EvB.ends {D : Nat} {A : Option Addr} {n c : Nat} {w W : World} {N : Nat} {e : EvV} {u : EvS} (h : EvB D A n c 10 w W N e u) (h0 : Dice D A n c w) :
    (∃ e' u', Ending.returned (.agg (evCells e u)) = .returned (.agg (evCells e' u')) ∧ Firm D (W.setRow (w.heap.size + 1) (evCells e u)) (fun W => EvM W e' u') ∧ Few 10 e') ∧ KitW D A n c w (W.setRow (w.heap.size + 1) (evCells e u)) :=
  ⟨⟨e, u, rfl, (h.own.setRow h.s1.res _).firm (h.few.mono (by omega)) h0.lt, h.few⟩, h.s1.kit.setRow h0 (by omega) _⟩

theorem kdiffStays (D : Nat) (A : Option Addr) (n c most : Nat) (hm : most ≤ 1000) (w : World) (hd : Dice D A n c w) :
    Calls Tryz.prog 31 #[.pointer (some ⟨D, 0, none⟩), .int .i64 (most : Int), .func (.func 32) #[.pointer (some ⟨D, 0, none⟩)] #[]] w fun e w' => (∃ v, e = .returned v ∧ ∃ l : List (List UInt8), l.length ≤ most ∧ (∀ s ∈ l, s.length ≤ 1000) ∧ w'.ownsRow w.heap.size 9 1 v l.length (strCells l).toList) ∧ KitW D A n c w w' :=
  different0 _ (fun args w => MuLone.run_callFunc_enter Tryz.func32 (by kernel_rfl) rfl args w) _ D A n c most hm w hd (fun w' _ h => (kstays_any D A n c w' h).mono (fun _ _ q => by obtain ⟨⟨s, e, hs⟩, k⟩ := q; exact ⟨⟨s, e, by omega⟩, k⟩))
theorem kdiffDigest (D : Nat) (A : Option Addr) (n c most : Nat) (hm : most ≤ 1000) (w : World) (hd : Dice D A n c w) :
    Calls Tryz.prog 31 #[.pointer (some ⟨D, 0, none⟩), .int .i64 (most : Int), .func (.func 28) #[.pointer (some ⟨D, 0, none⟩)] #[]] w fun e w' => (∃ v, e = .returned v ∧ ∃ l : List (List UInt8), l.length ≤ most ∧ (∀ s ∈ l, s.length ≤ 1000) ∧ w'.ownsRow w.heap.size 9 1 v l.length (strCells l).toList) ∧ KitW D A n c w w' :=
  different0 _ (fun args w => MuLone.run_callFunc_enter Tryz.func28 (by kernel_rfl) rfl args w) _ D A n c most hm w hd (fun w' _ h => (kdigest_any D A n c w' h).mono (fun _ _ q => by obtain ⟨⟨s, e, hs⟩, k⟩ := q; exact ⟨⟨s, e, by omega⟩, k⟩))
theorem kdiff1 (D : Nat) (A : Option Addr) (n c most p : Nat) (hm : most ≤ 1000) (w : World) (hd : Dice D A n c w) (hp : ∀ w', KitB D w w' → w'.cell? ⟨p, 0, none⟩ = some (.pointer (some ⟨D, 0, none⟩))) :
    Calls Tryz.prog 31 #[.pointer (some ⟨D, 0, none⟩), .int .i64 (most : Int), .func (.func 33) #[] #[.pointer (some ⟨p, 0, none⟩)]] w fun e w' => (∃ v, e = .returned v ∧ ∃ l : List (List UInt8), l.length ≤ most ∧ (∀ s ∈ l, s.length ≤ 1000) ∧ w'.ownsRow w.heap.size 9 1 v l.length (strCells l).toList) ∧ KitW D A n c w w' :=
  different1 _ (fun args w => MuLone.run_callFunc_enter Tryz.func33 (by kernel_rfl) rfl args w) _ D A n c most hm w hd (fun w' k h => (kevent1_any D A n c p w' h (hp w' k)).mono (fun _ _ q => by obtain ⟨⟨s, e, hs⟩, k⟩ := q; exact ⟨⟨s, e, by omega⟩, k⟩))
theorem kdiff2 (D : Nat) (A : Option Addr) (n c most p : Nat) (hm : most ≤ 1000) (w : World) (hd : Dice D A n c w) (hp : ∀ w', KitB D w w' → w'.cell? ⟨p, 0, none⟩ = some (.pointer (some ⟨D, 0, none⟩))) :
    Calls Tryz.prog 31 #[.pointer (some ⟨D, 0, none⟩), .int .i64 (most : Int), .func (.func 35) #[] #[.pointer (some ⟨p, 0, none⟩)]] w fun e w' => (∃ v, e = .returned v ∧ ∃ l : List (List UInt8), l.length ≤ most ∧ (∀ s ∈ l, s.length ≤ 1000) ∧ w'.ownsRow w.heap.size 9 1 v l.length (strCells l).toList) ∧ KitW D A n c w w' :=
  different1 _ (fun args w => MuLone.run_callFunc_enter Tryz.func35 (by kernel_rfl) rfl args w) _ D A n c most hm w hd (fun w' k h => (kevent2_any D A n c p w' h (hp w' k)).mono (fun _ _ q => by obtain ⟨⟨s, e, hs⟩, k⟩ := q; exact ⟨⟨s, e, by omega⟩, k⟩))
theorem own_sliceN {w : World} {base : Nat} {e : TypeId} {size : Nat} {v : Value} {n : Nat} {xs : List Value} (h : w.ownsRow base e size v n xs) : ∃ B cp, v = .slice B n cp := by
  rcases h.2 with ⟨e1, e2⟩ | ⟨g, cap, cur, e1, _⟩
  · exact ⟨none, 0, by rw [e1, e2]⟩
  · exact ⟨_, _, e1⟩
theorem EvB.grown {D : Nat} {A : Option Addr} {n c m : Nat} {w W W' : World} {N : Nat} {e : EvV} {u : EvS} (h : EvB D A n c m w W N e u) (hk : KitW D A n c w W') {B2 : Nat} {v : Value} {k : Nat} {xs : List Value} (ho : W.ownsRow B2 9 1 v k xs) (hg : W.grownBy W' v.ownBlock)
    (hb : ∀ b, v.ownBlock = some b → b ≠ w.heap.size ∧ b ≠ w.heap.size + 1) (hap : ∀ i, i < 6 → Apart (u.sl i) v) : EvB D A n c m w W' N e u := by
  obtain ⟨T, eb⟩ := h.s1.box
  refine ⟨⟨⟨T, ?_⟩, ?_, hk⟩, ?_, h.low, ⟨h.own.tw.grown ho notThrT_str hg, h.own.nw.grown ho notThrT_str hg, fun i hi => (h.own.own i hi).kept hg (hap i hi), h.own.an.kept hg (own_apart h.own.an ho (by decide))⟩, h.few⟩
  · rw [hg.block _ (krow_lt eb) (fun e => (hb _ e.symm).1 rfl)]; exact eb
  · rw [hg.block _ (krow_lt h.s1.res) (fun e => (hb _ e.symm).2 rfl)]; exact h.s1.res
  · rw [hg.block _ (krow_lt h.row) (fun e => own_type ho h.row (by decide) e.symm)]; exact h.row
theorem EvB.fresh {D : Nat} {A : Option Addr} {n c m : Nat} {w W : World} {N : Nat} {e : EvV} {u : EvS} (h : EvB D A n c m w W N e u) {b k cp : Nat} (hb : W.heap.size ≤ b) : (∀ b', (Value.slice (some ⟨b, 0, none⟩) k cp).ownBlock = some b' → b' ≠ w.heap.size ∧ b' ≠ w.heap.size + 1) ∧ ∀ i, i < 6 → Apart (u.sl i) (.slice (some ⟨b, 0, none⟩) k cp) := by
  have h1 := krow_lt h.s1.res
  refine ⟨fun b' e => ?_, fun i hi => ?_⟩
  · have : b = b' := by simpa [Value.ownBlock] using e
    subst this
    exact ⟨by omega, by omega⟩
  · cases hv : (u.sl i).ownBlock with
    | none => exact Or.inl hv
    | some g =>
      refine Or.inr ?_
      rw [hv]
      intro q
      have q2 : g = b := by simpa [Value.ownBlock] using q
      have := ((h.own.own i hi).lt g hv).2
      omega
theorem EvS1.cellB {D : Nat} {A : Option Addr} {n c : Nat} {w W : World} (h : EvS1 D A n c w W) (hD : D < w.heap.size) : ∀ w', KitB D W w' → w'.cell? ⟨w.heap.size, 0, none⟩ = some (.pointer (some ⟨D, 0, none⟩)) := fun w' k => by
  obtain ⟨T, e⟩ := h.box
  exact cell_of_row _ _ 0 _ _ _ (k.row (by omega) e)

end Go.Proofs.YtkinlobfdkeamaaGreatDoor

