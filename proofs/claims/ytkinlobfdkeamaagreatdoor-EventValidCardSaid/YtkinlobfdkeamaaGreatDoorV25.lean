/- Events of one's own. The reference's copy of an event. Something of an event is changed: what stands meanwhile. -/
import Derived.Test.YtkinlobfdkeamaaGreatDoorV24
import Derived.Test.YtkinlobfdkeamaaGreatDoorV15
namespace Go.Proofs.YtkinlobfdkeamaaGreatDoor
open Go.RowKit

/-- The six lists of texts, and where they lie. -/
def EvS.sl (u : EvS) : Nat → Value
  | 0 => u.ks
  | 1 => u.nx
  | 2 => u.ws
  | 3 => u.cs
  | 4 => u.aa
  | _ => u.cf
def EvV.ll (e : EvV) : Nat → List (List UInt8)
  | 0 => e.keys
  | 1 => e.next
  | 2 => e.wits
  | 3 => e.cuts
  | 4 => e.adds
  | _ => e.conf
def offE : Nat → Nat
  | 0 => 8
  | 1 => 11
  | 2 => 13
  | 3 => 14
  | 4 => 15
  | _ => 16
def EvS.putSl (u : EvS) (i : Nat) (v : Value) : EvS := match i with
  | 0 => { u with ks := v }
  | 1 => { u with nx := v }
  | 2 => { u with ws := v }
  | 3 => { u with cs := v }
  | 4 => { u with aa := v }
  | _ => { u with cf := v }
def EvV.putLl (e : EvV) (i : Nat) (l : List (List UInt8)) : EvV := match i with
  | 0 => { e with keys := l }
  | 1 => { e with next := l }
  | 2 => { e with wits := l }
  | 3 => { e with cuts := l }
  | 4 => { e with adds := l }
  | _ => { e with conf := l }
theorem six {p : Nat → Prop} (h0 : p 0) (h1 : p 1) (h2 : p 2) (h3 : p 3) (h4 : p 4) (h5 : p 5) : ∀ i, i < 6 → p i := fun i hi => by
  have h : i = 0 ∨ i = 1 ∨ i = 2 ∨ i = 3 ∨ i = 4 ∨ i = 5 := by omega
  rcases h with rfl | rfl | rfl | rfl | rfl | rfl <;> assumption
theorem evCells_sl (e : EvV) (u : EvS) : ∀ i, i < 6 → (evCells e u)[offE i]? = some (u.sl i) := six rfl rfl rfl rfl rfl rfl
theorem evCells_putSl (e : EvV) (u : EvS) (v : Value) : ∀ i, i < 6 → (evCells e u).setIfInBounds (offE i) v = evCells e (u.putSl i v) := six rfl rfl rfl rfl rfl rfl
theorem evCells_putLl (e : EvV) (u : EvS) (l : List (List UInt8)) : ∀ i, i < 6 → evCells (e.putLl i l) u = evCells e u := six rfl rfl rfl rfl rfl rfl
theorem putSl_same (u : EvS) (v : Value) : ∀ i, i < 6 → (u.putSl i v).sl i = v := six rfl rfl rfl rfl rfl rfl
theorem putLl_same (e : EvV) (v : List (List UInt8)) : ∀ i, i < 6 → (e.putLl i v).ll i = v := six rfl rfl rfl rfl rfl rfl
theorem putSl_other (u : EvS) (v : Value) : ∀ i, i < 6 → ∀ j, j < 6 → i ≠ j → (u.putSl i v).sl j = u.sl j :=
  six (six (by simp) (fun _ => rfl) (fun _ => rfl) (fun _ => rfl) (fun _ => rfl) (fun _ => rfl)) (six (fun _ => rfl) (by simp) (fun _ => rfl) (fun _ => rfl) (fun _ => rfl) (fun _ => rfl))
    (six (fun _ => rfl) (fun _ => rfl) (by simp) (fun _ => rfl) (fun _ => rfl) (fun _ => rfl)) (six (fun _ => rfl) (fun _ => rfl) (fun _ => rfl) (by simp) (fun _ => rfl) (fun _ => rfl))
    (six (fun _ => rfl) (fun _ => rfl) (fun _ => rfl) (fun _ => rfl) (by simp) (fun _ => rfl)) (six (fun _ => rfl) (fun _ => rfl) (fun _ => rfl) (fun _ => rfl) (fun _ => rfl) (by simp))
theorem putLl_other (u : EvV) (v : List (List UInt8)) : ∀ i, i < 6 → ∀ j, j < 6 → i ≠ j → (u.putLl i v).ll j = u.ll j :=
  six (six (by simp) (fun _ => rfl) (fun _ => rfl) (fun _ => rfl) (fun _ => rfl) (fun _ => rfl)) (six (fun _ => rfl) (by simp) (fun _ => rfl) (fun _ => rfl) (fun _ => rfl) (fun _ => rfl))
    (six (fun _ => rfl) (fun _ => rfl) (by simp) (fun _ => rfl) (fun _ => rfl) (fun _ => rfl)) (six (fun _ => rfl) (fun _ => rfl) (fun _ => rfl) (by simp) (fun _ => rfl) (fun _ => rfl))
    (six (fun _ => rfl) (fun _ => rfl) (fun _ => rfl) (fun _ => rfl) (by simp) (fun _ => rfl)) (six (fun _ => rfl) (fun _ => rfl) (fun _ => rfl) (fun _ => rfl) (fun _ => rfl) (by simp))
theorem putSl_an (u : EvS) (v : Value) : ∀ i, i < 6 → (u.putSl i v).an = u.an := six rfl rfl rfl rfl rfl rfl
theorem putSl_tw (u : EvS) (v : Value) : ∀ i, i < 6 → (u.putSl i v).tw = u.tw := six rfl rfl rfl rfl rfl rfl
theorem putSl_nw (u : EvS) (v : Value) : ∀ i, i < 6 → (u.putSl i v).nw = u.nw := six rfl rfl rfl rfl rfl rfl
theorem putLl_anc (u : EvV) (v : List (List UInt8)) : ∀ i, i < 6 → (u.putLl i v).anc = u.anc := six rfl rfl rfl rfl rfl rfl
theorem putLl_thr (u : EvV) (v : List (List UInt8)) : ∀ i, i < 6 → (u.putLl i v).thr = u.thr := six rfl rfl rfl rfl rfl rfl
theorem putLl_nthr (u : EvV) (v : List (List UInt8)) : ∀ i, i < 6 → (u.putLl i v).nthr = u.nthr := six rfl rfl rfl rfl rfl rfl

theorem EvM.strs {w : World} {e : EvV} {u : EvS} (h : EvM w e u) : ∀ i, i < 6 → Strs w (u.sl i) (e.ll i) := six h.ks h.nx h.ws h.cs h.aa h.cf

/-- Few and short texts and seals. -/
structure Few (m : Nat) (e : EvV) : Prop where
  ll : ∀ i, i < 6 → (e.ll i).length ≤ m ∧ ∀ s ∈ e.ll i, s.length ≤ 1000000
  an : e.anc.length ≤ m ∧ ∀ s ∈ e.anc, s.pre.length ≤ 9223372036854775807 ∧ s.said.length ≤ 9223372036854775807
theorem EvM.few {w : World} {e : EvV} {u : EvS} (h : EvM w e u) : Few 1000000 e where
  ll := fun i hi => ⟨(h.strs i hi).few, (h.strs i hi).short⟩
  an := ⟨by obtain ⟨_, _, _, _, q, _⟩ := h.an.row; exact q, h.an.short⟩
theorem Few.mono {m m' : Nat} {e : EvV} (h : Few m e) (hm : m ≤ m') : Few m' e := ⟨fun i hi => ⟨Nat.le_trans (h.ll i hi).1 hm, (h.ll i hi).2⟩, Nat.le_trans h.an.1 hm, h.an.2⟩

def Apart (a b : Value) : Prop := a.ownBlock = none ∨ a.ownBlock ≠ b.ownBlock
/-- The event's lists are rows of one's own, from block B on. -/
structure EvO (B : Nat) (w : World) (e : EvV) (u : EvS) : Prop where
  tw : FirmT B w (fun W => Fracss W u.tw e.thr.ws)
  nw : FirmT B w (fun W => Fracss W u.nw e.nthr.ws)
  own : ∀ i, i < 6 → w.ownsRow B 9 1 (u.sl i) (e.ll i).length (strCells (e.ll i)).toList
  an : w.ownsRow B 68 3 u.an e.anc.length (sealCells e.anc)
/-- No two of them lie in one row. -/
def AllApart (u : EvS) : Prop := ∀ i, i < 6 → ∀ j, j < 6 → i ≠ j → Apart (u.sl i) (u.sl j)

theorem notThrT_str : ¬ ThrT 9 := by unfold ThrT; decide
theorem notThrT_seal : ¬ ThrT 68 := by unfold ThrT; decide
theorem notThrT_ev : ¬ ThrT 35 := by unfold ThrT; decide

theorem EvO.kit {B D : Nat} {w w' : World} {e : EvV} {u : EvS} (h : EvO B w e u) (hD : D < B) (k : KitB D w w') : EvO B w' e u :=
  ⟨h.tw.kit hD k, h.nw.kit hD k, fun i hi => own_kit (h.own i hi) hD k, own_kit h.an hD k⟩
theorem EvO.later {B : Nat} {w w' : World} {e : EvV} {u : EvS} (h : EvO B w e u) (k : Below w.heap.size w w') : EvO B w' e u :=
  ⟨h.tw.later k, h.nw.later k, fun i hi => own_later (h.own i hi) k, own_later h.an k⟩
theorem EvO.setCell {B : Nat} {w : World} {e : EvV} {u : EvS} (h : EvO B w e u) {g : Nat} {cs : Array Value} (hg : w.heap[g]? = some (.cells cs 35 (0, 0))) (j : Nat) (v : Value) : EvO B (w.setCell ⟨g, j, none⟩ v) e u :=
  ⟨h.tw.setCell hg notThrT_ev j v, h.nw.setCell hg notThrT_ev j v, fun i hi => own_setCell (h.own i hi) j v (own_type (h.own i hi) hg (by decide)), own_setCell h.an j v (own_type h.an hg (by decide))⟩
theorem EvO.setRow {B : Nat} {w : World} {e : EvV} {u : EvS} (h : EvO B w e u) {g : Nat} {cs : Array Value} (hg : w.heap[g]? = some (.cells cs 35 (0, 0))) (xs : Array Value) : EvO B (w.setRow g xs) e u :=
  ⟨h.tw.setRow hg notThrT_ev xs, h.nw.setRow hg notThrT_ev xs, fun i hi => own_setRow (h.own i hi) xs (own_type (h.own i hi) hg (by decide)), own_setRow h.an xs (own_type h.an hg (by decide))⟩
theorem EvO.evM {B : Nat} {w : World} {e : EvV} {u : EvS} (h : EvO B w e u) (f : Few 1000000 e) : EvM w e u :=
  ⟨h.tw.now, strs_own _ (h.own 0 (by omega)) (f.ll 0 (by omega)).1 (f.ll 0 (by omega)).2, h.nw.now, strs_own _ (h.own 1 (by omega)) (f.ll 1 (by omega)).1 (f.ll 1 (by omega)).2, strs_own _ (h.own 2 (by omega)) (f.ll 2 (by omega)).1 (f.ll 2 (by omega)).2,
    strs_own _ (h.own 3 (by omega)) (f.ll 3 (by omega)).1 (f.ll 3 (by omega)).2, strs_own _ (h.own 4 (by omega)) (f.ll 4 (by omega)).1 (f.ll 4 (by omega)).2, strs_own _ (h.own 5 (by omega)) (f.ll 5 (by omega)).1 (f.ll 5 (by omega)).2, seals_own _ h.an f.an.1 f.an.2⟩
theorem EvO.firm {B D : Nat} {w : World} {e : EvV} {u : EvS} (h : EvO B w e u) (f : Few 1000000 e) (hD : D < B) : Firm D w (fun W => EvM W e u) := fun _ k => (h.kit hD k).evM f

/-- One of the lists grows. -/
theorem EvO.grow {B : Nat} {w w' : World} {e : EvV} {u : EvS} (h : EvO B w e u) {i : Nat} (hi : i < 6) {v : Value} {l : List (List UInt8)} (ho : w'.ownsRow B 9 1 v l.length (strCells l).toList) (hg : w.grownBy w' (u.sl i).ownBlock)
    (hap : AllApart u) : EvO B w' (e.putLl i l) (u.putSl i v) where
  tw := by rw [putSl_tw _ _ i hi, putLl_thr _ _ i hi]; exact h.tw.grown (h.own i hi) notThrT_str hg
  nw := by rw [putSl_nw _ _ i hi, putLl_nthr _ _ i hi]; exact h.nw.grown (h.own i hi) notThrT_str hg
  own := fun j hj => by
    by_cases e : i = j
    · subst e
      rw [putSl_same _ _ i hi, putLl_same _ _ i hi]; exact ho
    · rw [putSl_other _ _ i hi j hj e, putLl_other _ _ i hi j hj e]
      exact (h.own j hj).kept hg (hap j hj i hi (Ne.symm e))
  an := by
    rw [putSl_an _ _ i hi, putLl_anc _ _ i hi]
    exact h.an.kept hg (own_apart h.an (h.own i hi) (by decide))

end Go.Proofs.YtkinlobfdkeamaaGreatDoor

namespace Go.Proofs.YtkinlobfdkeamaaGreatDoor
open Go.RowKit

theorem FirmT.mono {B B' : Nat} {w : World} {φ : World → Prop} (h : FirmT B' w φ) (hB : B ≤ B') : FirmT B w φ := fun W hW => h W (fun b cs T hb hT hr => hW b cs T (Nat.le_trans hB hb) hT hr)

/-- append(nil, x..) at a plain list of operations. -/
theorem kappL {ops : Array Oper} {rest : List Oper} {o : Oper} {a : Act} {Q : Exit → Act → World → Prop} {D : Nat} {A : Option Addr} {n c : Nat} {w : World} (h0 : Dice D A n c w)
    (T e : TypeId) (z : Value) (size bytes : Nat) (hT : Tryz.prog.underlying T = some (.slice e)) (hinf : (Tryz.prog.info? e).map (fun i => (i.zero, i.size, i.bytes)) = some (some z, size, bytes)) (hz : z.cells.size = size) (hsz : 0 < size) (hby : bytes ≤ 1000)
    (hgd : o.guard = none) (s x : Operand) (ho : o.op = .call { callee := .builtin .append, args := #[s, x], argTypes := #[T, T] })
    (hs : a.eval s = .slice none 0 0)
    (B : Option Addr) (k cp : Nat) (news : List Value) (hx : a.eval x = .slice B k cp) (hl : news.length = k * size) (hnews : ∀ j u, news[j]? = some u → ∃ ad, B = some ad ∧ w.cell? (ad.add j) = some u) (hB : B = none → k = 0) (hone : ∀ u ∈ news, u.oneCell' = true) (hlen : k ≤ 1000000)
    (h : ∀ v' w', w'.ownsRow w.heap.size e size v' k news → KitW D A n c w w' → w.grownBy w' none → wpList Tryz.prog ops Q rest (a.put o.dst v') w') : wpList Tryz.prog ops Q (o :: rest) a w :=
  wpList_plain hgd fun _ hK => kapp_op h0 (KitW.refl h0) T e z size bytes hT hinf hz hsz hby s x ho (.slice none 0 0) 0 [] hs (World.ownsRow_nil _ _ _ _) B k cp news hx hl hnews hB hone (by omega) (fun v' w' h1 h2 h3 => hK _ _ (h v' w' (by simpa using h1) h2 h3))

theorem Strs.cellsB {w : World} {B : Option Addr} {k cp : Nat} {l : List (List UInt8)} (h : Strs w (.slice B k cp) l) : k = l.length ∧ (B = none → k = 0) ∧ ∀ j u, (strCells l).toList[j]? = some u → ∃ ad, B = some ad ∧ w.cell? (ad.add j) = some u := by
  obtain ⟨⟨B', c', he, hc, hel⟩, _, _⟩ := h
  cases he
  refine ⟨rfl, fun hb => ?_, fun j u hj => ?_⟩
  · rcases Nat.eq_zero_or_pos l.length with h | h
    · exact h
    · obtain ⟨ad, e, _⟩ := hel 0 h
      rw [hb] at e; exact absurd e (by simp)
  · have hjl : j < l.length := by rw [← strCells_len l]; exact (List.getElem?_eq_some_iff.1 hj).1
    obtain ⟨ad, e, q⟩ := hel j hjl
    refine ⟨ad, e, ?_⟩
    rw [q, ← hj]
    unfold strCells
    simp [List.getElem?_eq_getElem hjl]
theorem strCells_one (l : List (List UInt8)) : ∀ u ∈ (strCells l).toList, u.oneCell' = true := by
  intro u hu
  simp only [strCells, List.mem_map] at hu
  obtain ⟨s, _, rfl⟩ := hu
  rfl
theorem sealCells_len (l : List SealV) : (sealCells l).length = l.length * 3 := by
  induction l with
  | nil => rfl
  | cons x r ih => simp [sealCells, ih]; omega
theorem sealCells_one (l : List SealV) : ∀ u ∈ sealCells l, u.oneCell' = true := by
  induction l with
  | nil => simp [sealCells]
  | cons x r ih =>
    intro u hu
    simp only [sealCells, List.mem_cons] at hu
    rcases hu with rfl | rfl | rfl | hu
    · rfl
    · rfl
    · rfl
    · exact ih u hu
theorem Seals.cellsB {w : World} {B : Option Addr} {k cp : Nat} {l : List SealV} (h : Seals w (.slice B k cp) l) : k = l.length ∧ (B = none → k = 0) ∧ ∀ j u, (sealCells l)[j]? = some u → ∃ ad, B = some ad ∧ w.cell? (ad.add j) = some u := by
  obtain ⟨⟨B', c', he, hc, _, hel⟩, _⟩ := h
  cases he
  refine ⟨rfl, fun hb => ?_, fun j u hj => ?_⟩
  · rcases Nat.eq_zero_or_pos l.length with h | h
    · exact h
    · obtain ⟨ad, e, _⟩ := hel 0 h
      rw [hb] at e; exact absurd e (by simp)
  · have hjl : j < l.length * 3 := by rw [← sealCells_len]; exact (List.getElem?_eq_some_iff.1 hj).1
    obtain ⟨ad, e, q0, q1, q2⟩ := hel (j / 3) (by omega)
    refine ⟨ad, e, ?_⟩
    obtain ⟨r0, r1, r2⟩ := sealCells_at l (j / 3) (by omega)
    have hadd : ∀ i m : Nat, 0 < m → (⟨(ad.add i).block, (ad.add i).off + m, none⟩ : Addr) = ad.add (i + m) := fun i m hm => by
      unfold Addr.add
      rw [if_neg (show ¬ (i + m = 0) by omega)]
      split
      · rename_i e0; subst e0; simp
      · simp [Nat.add_assoc]
    have h3 : j % 3 = 0 ∨ j % 3 = 1 ∨ j % 3 = 2 := by omega
    rcases h3 with hm | hm | hm
    · have ej : j / 3 * 3 = j := by omega
      rw [ej] at q0 r0
      rw [hj] at r0
      rw [q0]; exact r0.symm
    · have ej : j / 3 * 3 + 1 = j := by omega
      rw [hadd _ _ (by omega), ej] at q1
      rw [ej, hj] at r1
      rw [q1]; exact r1.symm
    · have ej : j / 3 * 3 + 2 = j := by omega
      rw [hadd _ _ (by omega), ej] at q2
      rw [ej, hj] at r2
      rw [q2]; exact r2.symm

/-- The zero event's cells. -/
def zeroEv : Array Value := #[.int .i64 0, .int .i64 0, .string ⟨#[]⟩, .string ⟨#[]⟩, .int .i64 0, .string ⟨#[]⟩, .int .i64 0, .slice none 0 0, .slice none 0 0, .int .i64 0, .slice none 0 0, .slice none 0 0, .int .i64 0, .slice none 0 0, .slice none 0 0, .slice none 0 0, .slice none 0 0, .slice none 0 0, .string ⟨#[]⟩]

/-- What stands while the lists are copied. -/
structure CpE (D : Nat) (A : Option Addr) (n c : Nat) (w wr : World) (e : EvV) (u0 u : EvS) (k : Nat) : Prop where
  row : wr.heap[w.heap.size]? = some (.cells (evCells e u) 35 (0, 0))
  res : wr.heap[w.heap.size + 1]? = some (.cells zeroEv 35 (0, 0))
  tw : FirmT w.heap.size wr (fun W => Fracss W u.tw e.thr.ws)
  nw : FirmT w.heap.size wr (fun W => Fracss W u.nw e.nthr.ws)
  an : u.an = u0.an
  old : ∀ i, k ≤ i → i < 6 → u.sl i = u0.sl i
  own : ∀ i, i < k → i < 6 → wr.ownsRow w.heap.size 9 1 (u.sl i) (e.ll i).length (strCells (e.ll i)).toList
  apart : ∀ i, i < k → ∀ j, j < k → i < 6 → j < 6 → i ≠ j → Apart (u.sl i) (u.sl j)
  kit : KitW D A n c w wr

theorem own_mono {w : World} {base base' : Nat} {e : TypeId} {size : Nat} {v : Value} {n : Nat} {xs : List Value} (h : w.ownsRow base e size v n xs) (hb : base' ≤ base) : w.ownsRow base' e size v n xs := by
  obtain ⟨h1, h2⟩ := h
  refine ⟨h1, ?_⟩
  rcases h2 with h2 | ⟨g, cap, cur, hv, hg, r⟩
  · exact Or.inl h2
  · exact Or.inr ⟨g, cap, cur, hv, Nat.le_trans hb hg, r⟩
theorem CpE.later {D : Nat} {A : Option Addr} {n c : Nat} {w wr w2 : World} {e : EvV} {u0 u : EvS} {k : Nat} (h : CpE D A n c w wr e u0 u k) (b : Below wr.heap.size wr w2) : CpE D A n c w w2 e u0 u k :=
  ⟨rowLater b h.row, rowLater b h.res, h.tw.later b, h.nw.later b, h.an, h.old, fun i h1 h2 => own_later (h.own i h1 h2) b, h.apart, h.kit.later b⟩
theorem own_one {w : World} {base : Nat} {e : TypeId} {size : Nat} {v : Value} {n : Nat} {xs : List Value} (h : w.ownsRow base e size v n xs) : v.oneCell' = true := by
  obtain ⟨A, m, c, rfl⟩ := own_slice h
  rfl
theorem fracss_one {w : World} {v : Value} {l : List (List FracV)} (h : Fracss w v l) : v.oneCell' = true := by
  obtain ⟨_, ⟨B, m, rfl, _⟩, _⟩ := h
  rfl
theorem evCells_one (e : EvV) (u : EvS) (h1 : u.tw.oneCell' = true) (h2 : u.ks.oneCell' = true) (h3 : u.nw.oneCell' = true) (h4 : u.nx.oneCell' = true) (h5 : u.ws.oneCell' = true) (h6 : u.cs.oneCell' = true) (h7 : u.aa.oneCell' = true) (h8 : u.cf.oneCell' = true) (h9 : u.an.oneCell' = true) : (evCells e u).all (·.oneCell') = true := by
  simp [evCells, Value.oneCell']
  exact ⟨h1, h2, h3, h4, h5, h6, h7, h8, h9⟩
theorem noneOr (x : Option Nat) : x = none ∨ x ≠ none := by
  cases x with
  | none => exact Or.inl rfl
  | some b => exact Or.inr (by simp)
theorem CpE.step {D : Nat} {A : Option Addr} {n c : Nat} {w wr w2 : World} {e : EvV} {u0 u : EvS} {k : Nat} {v : Value} (h : CpE D A n c w wr e u0 u k) (h0 : Dice D A n c w) (hk : k < 6) (hg : wr.grownBy w2 none)
    (ho : w2.ownsRow wr.heap.size 9 1 v (e.ll k).length (strCells (e.ll k)).toList) (kit2 : KitW D A n c wr w2) : CpE D A n c w (w2.setCell ⟨w.heap.size, offE k, none⟩ v) e u0 (u.putSl k v) (k + 1) := by
  have hrow : w2.heap[w.heap.size]? = some (.cells (evCells e u) 35 (0, 0)) := (hg.block _ (krow_lt h.row) (by simp)).trans h.row
  have hD := h0.lt
  have hsz := h.kit.b.size
  refine ⟨?_, ?_, ?_, ?_, ?_, fun i h1 h2 => ?_, fun i h1 h2 => ?_, fun i h1 j h2 h3 h4 hne => ?_, ?_⟩
  · rw [heap_setCell_same _ _ _ _ _ _ hrow, evCells_putSl _ _ _ _ hk]
  · rw [heap_setCell_other _ _ _ _ (show w.heap.size + 1 ≠ w.heap.size by omega)]
    exact (hg.block _ (krow_lt h.res) (by simp)).trans h.res
  · rw [putSl_tw _ _ _ hk]
    exact (h.tw.kit hD kit2.b).setCell hrow notThrT_ev _ _
  · rw [putSl_nw _ _ _ hk]
    exact (h.nw.kit hD kit2.b).setCell hrow notThrT_ev _ _
  · rw [putSl_an _ _ _ hk]; exact h.an
  · rw [putSl_other _ _ k hk i h2 (by omega)]
    exact h.old i (by omega) h2
  · by_cases e1 : i = k
    · subst e1
      rw [putSl_same _ _ _ hk]
      have ho2 := own_mono ho hsz
      exact own_setCell ho2 _ _ (own_type ho2 hrow (by decide))
    · rw [putSl_other _ _ k hk i h2 (Ne.symm e1)]
      have ho2 := (h.own i (by omega) h2).kept hg (noneOr _)
      exact own_setCell ho2 _ _ (own_type ho2 hrow (by decide))
  · by_cases e1 : i = k
    · subst e1
      rw [putSl_same _ _ _ hk, putSl_other _ _ i hk j h4 hne]
      cases hv : v.ownBlock with
      | none => exact Or.inl hv
      | some b =>
        refine Or.inr ?_
        rw [hv]
        intro q
        have := (ho.lt b hv).1
        have := ((h.own j (by omega) h4).lt b q.symm).2
        omega
    · rw [putSl_other _ _ k hk i h3 (Ne.symm e1)]
      by_cases e2 : j = k
      · subst e2
        rw [putSl_same _ _ _ hk]
        cases hv : (u.sl i).ownBlock with
        | none => exact Or.inl hv
        | some b =>
          refine Or.inr ?_
          rw [hv]
          intro q
          have := (ho.lt b q.symm).1
          have := ((h.own i (by omega) h3).lt b hv).2
          omega
      · rw [putSl_other _ _ k hk j h4 (Ne.symm e2)]
        exact h.apart i (by omega) j (by omega) h3 h4 hne
  · exact (h.kit.trans kit2).setCell h0 (Nat.le_refl _) _ _

theorem cutR {P : Program} {code : Code} {Q : Exit → Act → World → Prop} {a : Act} {w : World} (Φ : Act → Exit → Act → World → Prop) (h : code.wp P (Φ a) a w) (hQ : ∀ e a' w', Φ a e a' w' → Q e a' w') : code.wp P Q a w := Code.wp_mono hQ h

theorem six_ptrs {w : World} {P N : Nat} (h : w.heap[P]? = some (.cells #[.pointer (some ⟨N, 8, none⟩), .pointer (some ⟨N, 11, none⟩), .pointer (some ⟨N, 13, none⟩), .pointer (some ⟨N, 14, none⟩), .pointer (some ⟨N, 15, none⟩), .pointer (some ⟨N, 16, none⟩)] 95 (0, 0))) :
    ∀ k, k < 6 → w.cell? ⟨P, k, none⟩ = some (.pointer (some ⟨N, offE k, none⟩)) :=
  six (cell_of_row _ _ 0 _ _ _ h) (cell_of_row _ _ 1 _ _ _ h) (cell_of_row _ _ 2 _ _ _ h) (cell_of_row _ _ 3 _ _ _ h) (cell_of_row _ _ 4 _ _ _ h) (cell_of_row _ _ 5 _ _ _ h)

set_option maxHeartbeats 8000000 in
set_option maxRecDepth 100000 in
theorem kcopy (D : Nat) (A : Option Addr) (n c : Nat) (e : EvV) (u : EvS) (w : World) (hd : Dice D A n c w) (h : Firm D w (fun W => EvM W e u)) :
    Calls Tryz.prog 40 #[.agg (evCells e u)] w fun r w' => (∃ u', r = .returned (.agg (evCells e u')) ∧ EvO w.heap.size w' e u' ∧ AllApart u') ∧ KitW D A n c w w' := by
  have HT1 : PLift _ := PLift.up (fun W (hk : KitW D A n c w W) => kcopythr D A n c (.agg #[.int .i64 e.thr.num, u.tw]) e.thr W hk.d (fun W' k => (h W' (hk.b.trans k)).thr))
  have HT2 : PLift _ := PLift.up (fun W (hk : KitW D A n c w W) => kcopythr D A n c (.agg #[.int .i64 e.nthr.num, u.nw]) e.nthr W hk.d (fun W' k => (h W' (hk.b.trans k)).nthr))
  have HD : PLift _ := PLift.up hd
  have H : PLift _ := PLift.up h
  have hlt : PLift (D < w.heap.size) := PLift.up hd.lt
  obtain ⟨C0, hC0⟩ : ∃ V, V = evCells e u := ⟨_, rfl⟩
  rw [← hC0]
  have HC0 : PLift _ := PLift.up hC0
  clear hd h hC0
  go_enter Tryz.func40, Tryz.ntmps40
  go_wp2_with fail
  have hr0 := hA2_0 w (.cells C0 35) (.cells zeroEv 35)
  have hz0 := hA2_1 w (.cells C0 35) (.cells zeroEv 35)
  have hk0 : KitW D A n c w ((w.alloc (.cells C0 35)).alloc (.cells zeroEv 35)).drew := (KitW.refl HD.down).later (extA2 w (.cells C0 35) (.cells zeroEv 35)).drew
  unfold zeroEv at hr0 hz0 hk0
  generalize ((w.alloc (.cells C0 35)).alloc (.cells #[.int .i64 0, .int .i64 0, .string ⟨#[]⟩, .string ⟨#[]⟩, .int .i64 0, .string ⟨#[]⟩, .int .i64 0, .slice none 0 0, .slice none 0 0, .int .i64 0, .slice none 0 0, .slice none 0 0, .int .i64 0, .slice none 0 0, .slice none 0 0, .slice none 0 0, .slice none 0 0, .slice none 0 0, .string ⟨#[]⟩] 35)) = W0 at hr0 hz0 hk0 ⊢
  have e6 : C0[6]? = some (.int .i64 e.thr.num) := by rw [HC0.down]; rfl
  have e7 : C0[7]? = some u.tw := by rw [HC0.down]; rfl
  have e9 : C0[9]? = some (.int .i64 e.nthr.num) := by rw [HC0.down]; rfl
  have e10 : C0[10]? = some u.nw := by rw [HC0.down]; rfl
  have HE : PLift (C0[6]? = some (.int .i64 e.thr.num) ∧ C0[7]? = some u.tw ∧ C0[9]? = some (.int .i64 e.nthr.num) ∧ C0[10]? = some u.nw) := PLift.up ⟨e6, e7, e9, e10⟩
  have HR0 : PLift _ := PLift.up hr0
  have HZ0 : PLift _ := PLift.up hz0
  have HK0 : PLift _ := PLift.up hk0
  clear e6 e7 e9 e10 hr0 hz0 hk0
  refine cutR (fun a ex a' w' => match ex with
    | .normal => ∃ t1 t2 x5 x6 x7 x8 x9 x10 x11 x12 : Value, a' = ((((((((a.put (some 5) x5).put (some 6) x6).put (some 7) x7).put (some 8) x8).put (some 9) x9).put (some 10) x10).put (some 11) x11).put (some 12) x12) ∧ CpE D A n c w w' e u { u with tw := t1, nw := t2 } 0
    | _ => False) ?_ ?_
  · have d6 : W0.drew.cell? ⟨w.heap.size, 6, none⟩ = some (.int .i64 e.thr.num) := (cell_of_row W0.drew _ 6 _ _ _ HR0.down).trans HE.down.1
    have d7 : W0.drew.cell? ⟨w.heap.size, 7, none⟩ = some u.tw := (cell_of_row W0.drew _ 7 _ _ _ HR0.down).trans HE.down.2.1
    have d9 : W0.drew.cell? ⟨w.heap.size, 9, none⟩ = some (.int .i64 e.nthr.num) := (cell_of_row W0.drew _ 9 _ _ _ HR0.down).trans HE.down.2.2.1
    have d10 : W0.drew.cell? ⟨w.heap.size, 10, none⟩ = some u.nw := (cell_of_row W0.drew _ 10 _ _ _ HR0.down).trans HE.down.2.2.2
    go_region_law (first
      | (go_simp; first
          | (go_at_call_of 74 (Value.agg #[.int .i64 e.thr.num, u.tw]); refine (HT1.down _ HK0.down).mono ?_; rintro r w1 ⟨⟨t1, rfl, hv1⟩, hk1⟩
             obtain ⟨B1, m1, rfl⟩ : ∃ B m, t1 = .slice B e.thr.ws.length m := by obtain ⟨_, ⟨B, m, q, _⟩, _⟩ := hv1.now; exact ⟨B, m, q⟩
             have hr1 := hk1.b.row (k := w.heap.size) (by have := hlt.down; omega) HR0.down
             have p9 : w1.cell? ⟨w.heap.size, 9, none⟩ = some (.int .i64 e.nthr.num) := (cell_of_row _ _ 9 _ _ _ hr1).trans HE.down.2.2.1
             have p10 : w1.cell? ⟨w.heap.size, 10, none⟩ = some u.nw := (cell_of_row _ _ 10 _ _ _ hr1).trans HE.down.2.2.2
             have HR1 : PLift _ := PLift.up hr1
             have HZ1 : PLift _ := PLift.up (hk1.b.row (k := w.heap.size + 1) (by have := hlt.down; omega) HZ0.down)
             have HK1 : PLift _ := PLift.up (HK0.down.trans hk1)
             have HV1 : PLift _ := PLift.up (FirmT.mono hv1 HK0.down.b.size)
             clear hr1 hk1 hv1)
          | (go_at_call_of 74 (Value.agg #[.int .i64 e.nthr.num, u.nw]); refine (HT2.down _ HK1.down).mono ?_; rintro r w2 ⟨⟨t2, rfl, hv2⟩, hk2⟩
             obtain ⟨B2, m2, rfl⟩ : ∃ B m, t2 = .slice B e.nthr.ws.length m := by obtain ⟨_, ⟨B, m, q, _⟩, _⟩ := hv2.now; exact ⟨B, m, q⟩
             have hr2 := hk2.b.row (k := w.heap.size) (by have := hlt.down; omega) HR1.down
             have s6 : w2.cell? ⟨w.heap.size, 6, none⟩ = some (.int .i64 e.thr.num) := (cell_of_row _ _ 6 _ _ _ hr2).trans HE.down.1
             have s6f : w2.frozen? ⟨w.heap.size, 6, none⟩ = false := frozen_of_row hr2
             have hr3 := heap_setCell_same w2 w.heap.size 6 _ _ (.int .i64 e.thr.num) hr2
             have s7 : (w2.setCell ⟨w.heap.size, 6, none⟩ (.int .i64 e.thr.num)).cell? ⟨w.heap.size, 7, none⟩ = some u.tw := (cell_of_row _ _ 7 _ _ _ hr3).trans (by rw [Array.getElem?_setIfInBounds_ne (by omega)]; exact HE.down.2.1)
             have s7f : (w2.setCell ⟨w.heap.size, 6, none⟩ (.int .i64 e.thr.num)).frozen? ⟨w.heap.size, 7, none⟩ = false := frozen_of_row hr3
             have hr4 := heap_setCell_same _ w.heap.size 7 _ _ (.slice B1 e.thr.ws.length m1) hr3
             have s9 : ((w2.setCell ⟨w.heap.size, 6, none⟩ (.int .i64 e.thr.num)).setCell ⟨w.heap.size, 7, none⟩ (.slice B1 e.thr.ws.length m1)).cell? ⟨w.heap.size, 9, none⟩ = some (.int .i64 e.nthr.num) := (cell_of_row _ _ 9 _ _ _ hr4).trans (by rw [Array.getElem?_setIfInBounds_ne (by omega), Array.getElem?_setIfInBounds_ne (by omega)]; exact HE.down.2.2.1)
             have s9f : ((w2.setCell ⟨w.heap.size, 6, none⟩ (.int .i64 e.thr.num)).setCell ⟨w.heap.size, 7, none⟩ (.slice B1 e.thr.ws.length m1)).frozen? ⟨w.heap.size, 9, none⟩ = false := frozen_of_row hr4
             have hr5 := heap_setCell_same _ w.heap.size 9 _ _ (.int .i64 e.nthr.num) hr4
             have s10 : (((w2.setCell ⟨w.heap.size, 6, none⟩ (.int .i64 e.thr.num)).setCell ⟨w.heap.size, 7, none⟩ (.slice B1 e.thr.ws.length m1)).setCell ⟨w.heap.size, 9, none⟩ (.int .i64 e.nthr.num)).cell? ⟨w.heap.size, 10, none⟩ = some u.nw := (cell_of_row _ _ 10 _ _ _ hr5).trans (by rw [Array.getElem?_setIfInBounds_ne (by omega), Array.getElem?_setIfInBounds_ne (by omega), Array.getElem?_setIfInBounds_ne (by omega)]; exact HE.down.2.2.2)
             have s10f : (((w2.setCell ⟨w.heap.size, 6, none⟩ (.int .i64 e.thr.num)).setCell ⟨w.heap.size, 7, none⟩ (.slice B1 e.thr.ws.length m1)).setCell ⟨w.heap.size, 9, none⟩ (.int .i64 e.nthr.num)).frozen? ⟨w.heap.size, 10, none⟩ = false := frozen_of_row hr5
             have HR2 : PLift _ := PLift.up hr2
             have HZ2 : PLift _ := PLift.up (hk2.b.row (k := w.heap.size + 1) (by have := hlt.down; omega) HZ1.down)
             have HK2 : PLift _ := PLift.up (HK1.down.trans hk2)
             have HV2 : PLift _ := PLift.up (FirmT.mono hv2 HK1.down.b.size)
             have HV1' : PLift _ := PLift.up (HV1.down.kit hlt.down hk2.b)
             clear hr2 hr3 hr4 hr5 hk2 hv2)))
    all_goals
      refine ⟨.slice B1 e.thr.ws.length m1, .slice B2 e.nthr.ws.length m2, _, _, _, _, _, _, _, _, by simp only [Act.put, List.setIfInBounds_toArray, List.set_cons_zero, List.set_cons_succ]; rfl, ?_⟩
      have hr3 := heap_setCell_same w2 w.heap.size 6 _ _ (.int .i64 e.thr.num) HR2.down
      have hr4 := heap_setCell_same _ w.heap.size 7 _ _ (.slice B1 e.thr.ws.length m1) hr3
      have hr5 := heap_setCell_same _ w.heap.size 9 _ _ (.int .i64 e.nthr.num) hr4
      have hr6 := heap_setCell_same _ w.heap.size 10 _ _ (.slice B2 e.nthr.ws.length m2) hr5
      refine ⟨?_, ?_, ?_, ?_, rfl, fun i _ hi => (six rfl rfl rfl rfl rfl rfl : ∀ i, i < 6 → EvS.sl _ i = u.sl i) i hi, fun i hi => absurd hi (Nat.not_lt_zero _), fun i hi => absurd hi (Nat.not_lt_zero _), ?_⟩
      · rw [hr6, HC0.down]; rfl
      · rw [heap_setCell_other _ _ _ _ (show w.heap.size + 1 ≠ w.heap.size by omega), heap_setCell_other _ _ _ _ (show w.heap.size + 1 ≠ w.heap.size by omega), heap_setCell_other _ _ _ _ (show w.heap.size + 1 ≠ w.heap.size by omega), heap_setCell_other _ _ _ _ (show w.heap.size + 1 ≠ w.heap.size by omega)]
        exact HZ2.down
      · exact (((HV1'.down.setCell HR2.down notThrT_ev _ _).setCell hr3 notThrT_ev _ _).setCell hr4 notThrT_ev _ _).setCell hr5 notThrT_ev _ _
      · exact (((HV2.down.setCell HR2.down notThrT_ev _ _).setCell hr3 notThrT_ev _ _).setCell hr4 notThrT_ev _ _).setCell hr5 notThrT_ev _ _
      · exact (((HK2.down.setCell HD.down (Nat.le_refl _) _ _).setCell HD.down (Nat.le_refl _) _ _).setCell HD.down (Nat.le_refl _) _ _).setCell HD.down (Nat.le_refl _) _ _
  · rintro ex a' w1 hΦ
    cases ex with
    | normal =>
      obtain ⟨t1, t2, x5, x6, x7, x8, x9, x10, x11, x12, rfl, hC⟩ := hΦ
      have HC : PLift _ := PLift.up hC
      clear hC
      go_wp2_with fail
      have hp0 := hA1_0 w1 (.cells #[.pointer (some ⟨w.heap.size, 8, none⟩), .pointer (some ⟨w.heap.size, 11, none⟩), .pointer (some ⟨w.heap.size, 13, none⟩), .pointer (some ⟨w.heap.size, 14, none⟩), .pointer (some ⟨w.heap.size, 15, none⟩), .pointer (some ⟨w.heap.size, 16, none⟩)] 95)
      have hC1 := HC.down.later (ext_alloc w1 (.cells #[.pointer (some ⟨w.heap.size, 8, none⟩), .pointer (some ⟨w.heap.size, 11, none⟩), .pointer (some ⟨w.heap.size, 13, none⟩), .pointer (some ⟨w.heap.size, 14, none⟩), .pointer (some ⟨w.heap.size, 15, none⟩), .pointer (some ⟨w.heap.size, 16, none⟩)] 95))
      have hlow : w.heap.size + 1 < w1.heap.size := krow_lt HC.down.res
      generalize w1.heap.size = P at hp0 hlow ⊢
      generalize w1.alloc (.cells #[.pointer (some ⟨w.heap.size, 8, none⟩), .pointer (some ⟨w.heap.size, 11, none⟩), .pointer (some ⟨w.heap.size, 13, none⟩), .pointer (some ⟨w.heap.size, 14, none⟩), .pointer (some ⟨w.heap.size, 15, none⟩), .pointer (some ⟨w.heap.size, 16, none⟩)] 95) = W1 at hp0 hC1 ⊢
      have HP0 : PLift _ := PLift.up hp0
      have HC1 : PLift _ := PLift.up hC1
      have HLOW : PLift _ := PLift.up hlow
      clear hp0 hC1 hlow
      go_loopw [21] (fun v21 wr => ∃ (k : Nat) (u1 : EvS), k ≤ 6 ∧ v21 = .int .i64 (k : Int) ∧ CpE D A n c w wr e u u1 k ∧ wr.heap[P]? = some (.cells #[.pointer (some ⟨w.heap.size, 8, none⟩), .pointer (some ⟨w.heap.size, 11, none⟩), .pointer (some ⟨w.heap.size, 13, none⟩), .pointer (some ⟨w.heap.size, 14, none⟩), .pointer (some ⟨w.heap.size, 15, none⟩), .pointer (some ⟨w.heap.size, 16, none⟩)] 95 (0, 0))) (fun v21 _ => ((6 : Int) - intOf v21).toNat)
      case atStart => exact ⟨0, _, by omega, rfl, HC1.down, HP0.down⟩
      case round =>
        obtain ⟨k, u1, hk, rfl, hC, hp⟩ := hrel
        have HC : PLift _ := PLift.up hC
        have HP : PLift _ := PLift.up hp
        clear hC hp
        by_cases hk6 : k < 6
        · have k0 : (k : Int) < 6 := by omega
          have cp := six_ptrs HP.down k hk6
          have hst := (H.down wr HC.down.kit.b).strs k hk6
          obtain ⟨Bk, ck, ek⟩ := hst.is
          have cN : wr.cell? ⟨w.heap.size, offE k, none⟩ = some (.slice Bk (e.ll k).length ck) := by
            rw [cell_of_row _ _ _ _ _ _ HC.down.row, evCells_sl _ _ k hk6, HC.down.old k (Nat.le_refl _) hk6, ek]
          rw [ek] at hst
          have HST : PLift _ := PLift.up hst
          obtain ⟨p, hp⟩ : ∃ p, p = offE k := ⟨_, rfl⟩
          rw [← hp] at cp cN
          have HPK : PLift _ := PLift.up hp
          clear hst ek hp
          go_wp2_with (refine kappL HC.down.kit.d 32 9 (.string ⟨#[]⟩) 1 16 Tryz.underlying32 kStr rfl (by decide) (by decide) rfl _ _ rfl rfl Bk (e.ll k).length ck (strCells (e.ll k)).toList rfl (by rw [strCells_len]; omega) HST.down.cellsB.2.2 HST.down.cellsB.2.1 (strCells_one _) HST.down.few ?_; intro v2 w2 ho hk2 hg; obtain ⟨A2, m2, c2, rfl⟩ := own_slice ho; have HO : PLift _ := PLift.up ho; have HK2 : PLift _ := PLift.up hk2; have HG : PLift _ := PLift.up hg; have cN2 : w2.cell? ⟨w.heap.size, p, none⟩ = some (.slice Bk (e.ll k).length ck) := (cell_of_row _ _ _ _ _ _ ((hg.block _ (krow_lt HC.down.row) (by simp)).trans HC.down.row)).trans ((cell_of_row _ _ _ _ _ _ HC.down.row).symm.trans cN); have fN2 : w2.frozen? ⟨w.heap.size, p, none⟩ = false := frozen_of_row ((hg.block _ (krow_lt HC.down.row) (by simp)).trans HC.down.row); clear ho hk2 hg cN)
          refine ⟨⟨k + 1, u1.putSl k (.slice A2 m2 c2), by omega, by go_num, ?_, ?_⟩, by simp only [intOf]; omega⟩
          · have := HC.down.step HD.down hk6 HG.down HO.down HK2.down
            rw [← HPK.down] at this
            exact this
          · rw [heap_setCell_other _ _ _ _ (show P ≠ w.heap.size by have := HLOW.down; omega), HG.down.block _ (krow_lt HP.down) (by simp)]
            exact HP.down
        · have hk6' : k = 6 := by omega
          subst hk6'
          rw [show ((6 : Nat) : Int) = 6 from rfl]
          have hse := (H.down wr HC.down.kit.b).an
          obtain ⟨Bk, ck, ek⟩ := hse.is
          have cN : wr.cell? ⟨w.heap.size, 17, none⟩ = some (.slice Bk e.anc.length ck) := by
            rw [cell_of_row _ _ _ _ _ _ HC.down.row, ← ek, ← HC.down.an]; rfl
          rw [ek] at hse
          have HSE : PLift _ := PLift.up hse
          clear hse ek
          have HONE : PLift (∀ v : Value, v.oneCell' = true → (evCells e { u1 with an := v }).all (·.oneCell') = true) := PLift.up (fun v hv => evCells_one _ _ (fracss_one HC.down.tw.now) (own_one (HC.down.own 0 (by omega) (by omega))) (fracss_one HC.down.nw.now) (own_one (HC.down.own 1 (by omega) (by omega))) (own_one (HC.down.own 2 (by omega) (by omega))) (own_one (HC.down.own 3 (by omega) (by omega))) (own_one (HC.down.own 4 (by omega) (by omega))) (own_one (HC.down.own 5 (by omega) (by omega))) hv)
          go_wp2_with (first
            | (refine kappL HC.down.kit.d 33 68 (.agg #[.string ⟨#[]⟩, .int .i64 0, .string ⟨#[]⟩]) 3 40 Tryz.underlying33 kSeal rfl (by decide) (by decide) rfl _ _ rfl rfl Bk e.anc.length ck (sealCells e.anc) rfl (sealCells_len _) HSE.down.cellsB.2.2 HSE.down.cellsB.2.1 (sealCells_one _) (by obtain ⟨_, _, _, _, q, _⟩ := HSE.down.row; exact q) ?_
               intro v2 w2 ho hk2 hg
               obtain ⟨A2, m2, c2, rfl⟩ := own_slice ho
               have HO : PLift _ := PLift.up ho
               have HK2 : PLift _ := PLift.up hk2
               have hrow2 := (hg.block _ (krow_lt HC.down.row) (by simp)).trans HC.down.row
               have HROW2 : PLift _ := PLift.up hrow2
               have HG : PLift _ := PLift.up hg
               have cN2 : w2.cell? ⟨w.heap.size, 17, none⟩ = some (.slice Bk e.anc.length ck) := (cell_of_row _ _ _ _ _ _ hrow2).trans ((cell_of_row _ _ _ _ _ _ HC.down.row).symm.trans cN)
               have fN2 : w2.frozen? ⟨w.heap.size, 17, none⟩ = false := frozen_of_row hrow2
               have HRF : PLift ((w2.setCell ⟨w.heap.size, 17, none⟩ (.slice A2 m2 c2)).heap[w.heap.size]? = some (.cells (evCells e { u1 with an := .slice A2 m2 c2 }) 35 (0, 0))) := PLift.up (by rw [heap_setCell_same _ _ _ _ _ _ hrow2]; rfl)
               have HZF : PLift ((w2.setCell ⟨w.heap.size, 17, none⟩ (.slice A2 m2 c2)).heap[w.heap.size + 1]? = some (.cells zeroEv 35 (0, 0))) := PLift.up (by rw [heap_setCell_other _ _ _ _ (show w.heap.size + 1 ≠ w.heap.size by omega)]; exact (hg.block _ (krow_lt HC.down.res) (by simp)).trans HC.down.res)
               clear ho hk2 hg cN hrow2)
            | (refine wpList_load_row rfl 35 _ rfl w.heap.size rfl 35 _ _ _ HRF.down Tryz.underlying35 rfl (by kernel_rfl) ?_)
            | (refine wpList_store_row rfl 35 _ _ rfl (w.heap.size + 1) (evCells e { u1 with an := .slice A2 m2 c2 }) rfl rfl 35 _ HZF.down (by kernel_rfl) rfl (HONE.down _ rfl) ?_))
          refine bodyPost_ret (results_cell_row rfl _ _ (w.heap.size + 1) _ _ _ _ rfl (setRow_heap _ _ _ _ _ _ HZF.down) Tryz.underlying35 rfl (by kernel_rfl)) rfl ⟨⟨_, rfl, ?_, ?_⟩, ?_⟩
          · have hD := hlt.down
            have hsz := HC.down.kit.b.size
            have hE : EvO w.heap.size w2 e { u1 with an := .slice A2 m2 c2 } := ⟨HC.down.tw.kit hD HK2.down.b, HC.down.nw.kit hD HK2.down.b, fun i hi => by
              have := (HC.down.own i hi hi).kept HG.down (noneOr _)
              exact (six id id id id id id : ∀ i, i < 6 → w2.ownsRow w.heap.size 9 1 (u1.sl i) (e.ll i).length (strCells (e.ll i)).toList → w2.ownsRow w.heap.size 9 1 (EvS.sl { u1 with an := .slice A2 m2 c2 } i) (e.ll i).length (strCells (e.ll i)).toList) i hi this, own_mono HO.down hsz⟩
            exact (hE.setCell HROW2.down _ _).setRow HZF.down _
          · intro i hi j hj hne
            have := HC.down.apart i hi j hj hi hj hne
            have hs := (six rfl rfl rfl rfl rfl rfl : ∀ i, i < 6 → EvS.sl { u1 with an := .slice A2 m2 c2 } i = u1.sl i)
            rw [hs i hi, hs j hj]; exact this
          · exact ((HC.down.kit.trans HK2.down).setCell HD.down (Nat.le_refl _) _ _).setRow HD.down (by omega) _
    | _ => exact hΦ.elim

end Go.Proofs.YtkinlobfdkeamaaGreatDoor

namespace Go.Proofs.YtkinlobfdkeamaaGreatDoor
open Go.RowKit

/-- A cut behind a piece of code that ends normally: what stands there, said in a letter meanwhile. -/
theorem cutX {P : Program} {code : Code} {Q : Exit → Act → World → Prop} {a : Act} {w : World} (Φ : Act → Act → World → Prop)
    (h : ∀ R : Act → World → Prop, PLift (∀ a' w', Φ a a' w' → R a' w') → code.wp P (fun ex a' w' => match ex with | .normal => R a' w' | _ => False) a w) (hQ : ∀ a' w', Φ a a' w' → Q .normal a' w') : code.wp P Q a w :=
  Code.wp_mono (fun e a' w' q => by
    cases e with
    | normal => exact hQ _ _ q
    | _ => exact q.elim) (h (Φ a) ⟨fun _ _ h => h⟩)

theorem EvO.mono {B B' : Nat} {w : World} {e : EvV} {u : EvS} (h : EvO B' w e u) (hB : B ≤ B') : EvO B w e u :=
  ⟨h.tw.mono hB, h.nw.mono hB, fun i hi => own_mono (h.own i hi) hB, own_mono h.an hB⟩
theorem EvO.congr {B : Nat} {w : World} {e e' : EvV} {u : EvS} (h : EvO B w e u) (h1 : e'.thr.ws = e.thr.ws) (h2 : e'.nthr.ws = e.nthr.ws) (h3 : ∀ i, i < 6 → e'.ll i = e.ll i) (h4 : e'.anc = e.anc) : EvO B w e' u :=
  ⟨by rw [h1]; exact h.tw, by rw [h2]; exact h.nw, fun i hi => by rw [h3 i hi]; exact h.own i hi, by rw [h4]; exact h.an⟩
theorem Few.congr {m : Nat} {e e' : EvV} (h : Few m e) (h3 : ∀ i, i < 6 → e'.ll i = e.ll i) (h4 : e'.anc = e.anc) : Few m e' :=
  ⟨fun i hi => by rw [h3 i hi]; exact h.ll i hi, by rw [h4]; exact h.an⟩

/-- What stands while something of an event is changed. -/
structure OddS (D : Nat) (A : Option Addr) (n c m : Nat) (w W : World) (e : EvV) (u : EvS) : Prop where
  row : W.heap[w.heap.size]? = some (.cells (evCells e u) 35 (0, 0))
  res : W.heap[w.heap.size + 1]? = some (.cells zeroEv 35 (0, 0))
  own : EvO w.heap.size W e u
  few : Few m e
  kit : KitW D A n c w W
theorem OddS.step {D : Nat} {A : Option Addr} {n c m : Nat} {w W W' : World} {e : EvV} {u : EvS} (h : OddS D A n c m w W e u) (hD : D < w.heap.size) (k : KitW D A n c W W') : OddS D A n c m w W' e u :=
  ⟨k.b.row (by omega) h.row, k.b.row (by omega) h.res, h.own.kit hD k.b, h.few, h.kit.trans k⟩
theorem OddS.later {D : Nat} {A : Option Addr} {n c m : Nat} {w W W' : World} {e : EvV} {u : EvS} (h : OddS D A n c m w W e u) (k : Below W.heap.size W W') : OddS D A n c m w W' e u :=
  ⟨rowLater k h.row, rowLater k h.res, h.own.later k, h.few, h.kit.later k⟩
theorem OddS.cell {D : Nat} {A : Option Addr} {n c m : Nat} {w W : World} {e : EvV} {u : EvS} (h : OddS D A n c m w W e u) (j : Nat) : W.cell? ⟨w.heap.size, j, none⟩ = (evCells e u)[j]? := cell_of_row _ _ _ _ _ _ h.row
theorem OddS.free {D : Nat} {A : Option Addr} {n c m : Nat} {w W : World} {e : EvV} {u : EvS} (h : OddS D A n c m w W e u) (j : Nat) : W.frozen? ⟨w.heap.size, j, none⟩ = false := frozen_of_row h.row
theorem OddS.slice {D : Nat} {A : Option Addr} {n c m : Nat} {w W : World} {e : EvV} {u : EvS} (h : OddS D A n c m w W e u) (i : Nat) (hi : i < 6) : ∃ B cp, u.sl i = .slice B (e.ll i).length cp := by
  have hs := (h.own.own i hi)
  rcases hs.2 with ⟨e1, e2⟩ | ⟨g, cap, cur, e1, _⟩
  · exact ⟨none, 0, by rw [e1, e2]⟩
  · exact ⟨_, _, e1⟩
/-- One cell is stored. -/
theorem OddS.put {D : Nat} {A : Option Addr} {n c m m' : Nat} {w W : World} {e e' : EvV} {u u' : EvS} (h : OddS D A n c m w W e u) (h0 : Dice D A n c w) (j : Nat) (v : Value) (hc : (evCells e u).setIfInBounds j v = evCells e' u') (ho : EvO w.heap.size W e' u') (hf : Few m' e') : OddS D A n c m' w (W.setCell ⟨w.heap.size, j, none⟩ v) e' u' :=
  ⟨by rw [heap_setCell_same _ _ _ _ _ _ h.row, hc], by rw [heap_setCell_other _ _ _ _ (show w.heap.size + 1 ≠ w.heap.size by omega)]; exact h.res, ho.setCell h.row j v, hf, h.kit.setCell h0 (Nat.le_refl _) j v⟩
/-- .. of a number or a text that is no list's. -/
theorem OddS.put1 {D : Nat} {A : Option Addr} {n c m : Nat} {w W : World} {e e' : EvV} {u : EvS} (h : OddS D A n c m w W e u) (h0 : Dice D A n c w) (j : Nat) (v : Value) (hc : (evCells e u).setIfInBounds j v = evCells e' u) (h1 : e'.thr.ws = e.thr.ws) (h2 : e'.nthr.ws = e.nthr.ws) (h3 : ∀ i, i < 6 → e'.ll i = e.ll i) (h4 : e'.anc = e.anc) : OddS D A n c m w (W.setCell ⟨w.heap.size, j, none⟩ v) e' u :=
  h.put h0 j v hc (h.own.congr h1 h2 h3 h4) (h.few.congr h3 h4)
/-- A list of texts grows. -/
theorem OddS.grow {D : Nat} {A : Option Addr} {n c m r : Nat} {w W w2 : World} {e : EvV} {u : EvS} (h : OddS D A n c m w W e u) (h0 : Dice D A n c w) (hap : AllApart u) {i : Nat} (hi : i < 6) {news : List (List UInt8)} {v2 : Value}
    (ho : w2.ownsRow w.heap.size 9 1 v2 ((e.ll i).length + news.length) ((strCells (e.ll i)).toList ++ (strCells news).toList)) (hk : KitW D A n c w w2) (hg : W.grownBy w2 (u.sl i).ownBlock) (hn : news.length ≤ r) (hs : ∀ s ∈ news, s.length ≤ 1000000) :
    OddS D A n c (m + r) w (w2.setCell ⟨w.heap.size, offE i, none⟩ v2) (e.putLl i (e.ll i ++ news)) (u.putSl i v2) := by
  have hne := own_type (h.own.own i hi) h.row (by decide)
  have hne2 := own_type (h.own.own i hi) h.res (by decide)
  have hrow : w2.heap[w.heap.size]? = some (.cells (evCells e u) 35 (0, 0)) := (hg.block _ (krow_lt h.row) (fun e => hne e.symm)).trans h.row
  have hres : w2.heap[w.heap.size + 1]? = some (.cells zeroEv 35 (0, 0)) := (hg.block _ (krow_lt h.res) (fun e => hne2 e.symm)).trans h.res
  have hO : EvO w.heap.size w2 (e.putLl i (e.ll i ++ news)) (u.putSl i v2) := h.own.grow hi (by rw [strCells_append] at ho; rw [List.length_append]; exact ho) hg hap
  have hF : Few (m + r) (e.putLl i (e.ll i ++ news)) := ⟨fun j hj => by
    by_cases e1 : i = j
    · subst e1
      rw [putLl_same _ _ i hi]
      obtain ⟨q1, q2⟩ := h.few.ll i hi
      refine ⟨by rw [List.length_append]; omega, fun s hs' => ?_⟩
      rw [List.mem_append] at hs'
      rcases hs' with hs' | hs'
      · exact q2 s hs'
      · exact hs s hs'
    · rw [putLl_other _ _ i hi j hj e1]
      obtain ⟨q1, q2⟩ := h.few.ll j hj
      exact ⟨by omega, q2⟩, by
    rw [putLl_anc _ _ i hi]
    exact ⟨by have := h.few.an.1; omega, h.few.an.2⟩⟩
  exact ⟨by rw [heap_setCell_same _ _ _ _ _ _ hrow, evCells_putSl _ _ _ i hi, evCells_putLl _ _ _ i hi], by rw [heap_setCell_other _ _ _ _ (show w.heap.size + 1 ≠ w.heap.size by omega)]; exact hres, hO.setCell hrow _ _, hF, hk.setCell h0 (Nat.le_refl _) _ _⟩
/-- The seals grow. -/
theorem OddS.growAn {D : Nat} {A : Option Addr} {n c m r : Nat} {w W w2 : World} {e : EvV} {u : EvS} (h : OddS D A n c m w W e u) (h0 : Dice D A n c w) {news : List SealV} {v2 : Value}
    (ho : w2.ownsRow w.heap.size 68 3 v2 (e.anc.length + news.length) (sealCells e.anc ++ sealCells news)) (hk : KitW D A n c w w2) (hg : W.grownBy w2 u.an.ownBlock) (hn : news.length ≤ r) (hs : ∀ s ∈ news, s.pre.length ≤ 9223372036854775807 ∧ s.said.length ≤ 9223372036854775807) :
    OddS D A n c (m + r) w (w2.setCell ⟨w.heap.size, 17, none⟩ v2) { e with anc := e.anc ++ news } { u with an := v2 } := by
  have hne := own_type h.own.an h.row (by decide)
  have hne2 := own_type h.own.an h.res (by decide)
  have hrow : w2.heap[w.heap.size]? = some (.cells (evCells e u) 35 (0, 0)) := (hg.block _ (krow_lt h.row) (fun e => hne e.symm)).trans h.row
  have hres : w2.heap[w.heap.size + 1]? = some (.cells zeroEv 35 (0, 0)) := (hg.block _ (krow_lt h.res) (fun e => hne2 e.symm)).trans h.res
  have hO : EvO w.heap.size w2 { e with anc := e.anc ++ news } { u with an := v2 } := ⟨h.own.tw.grown h.own.an notThrT_seal hg, h.own.nw.grown h.own.an notThrT_seal hg, fun i hi => by
    have := (h.own.own i hi).kept hg (own_apart (h.own.own i hi) h.own.an (by decide))
    exact (six id id id id id id : ∀ i, i < 6 → w2.ownsRow w.heap.size 9 1 (u.sl i) (e.ll i).length (strCells (e.ll i)).toList → w2.ownsRow w.heap.size 9 1 (EvS.sl { u with an := v2 } i) (EvV.ll { e with anc := e.anc ++ news } i).length (strCells (EvV.ll { e with anc := e.anc ++ news } i)).toList) i hi this, by
    rw [← sealCells_append] at ho
    rw [← List.length_append] at ho
    exact ho⟩
  have hF : Few (m + r) { e with anc := e.anc ++ news } := ⟨fun j hj => by
    have := h.few.ll j hj
    have hj2 : EvV.ll { e with anc := e.anc ++ news } j = e.ll j := (six rfl rfl rfl rfl rfl rfl : ∀ i, i < 6 → EvV.ll { e with anc := e.anc ++ news } i = e.ll i) j hj
    rw [hj2]
    exact ⟨by omega, this.2⟩, by
    refine ⟨by rw [List.length_append]; have := h.few.an.1; omega, fun s hs' => ?_⟩
    rw [List.mem_append] at hs'
    rcases hs' with hs' | hs'
    · exact h.few.an.2 s hs'
    · exact hs s hs'⟩
  exact ⟨by rw [heap_setCell_same _ _ _ _ _ _ hrow]; rfl, by rw [heap_setCell_other _ _ _ _ (show w.heap.size + 1 ≠ w.heap.size by omega)]; exact hres, hO.setCell hrow _ _, hF, hk.setCell h0 (Nat.le_refl _) _ _⟩
/-- The threshold is exchanged, the next one is 1. -/
theorem OddS.putThr {D : Nat} {A : Option Addr} {n c m : Nat} {w W : World} {e : EvV} {u : EvS} (h : OddS D A n c m w W e u) (h0 : Dice D A n c w) {t : ThrV} {v : Value} (hv : FirmT w.heap.size W (fun W => Fracss W v t.ws)) :
    OddS D A n c m w ((W.setCell ⟨w.heap.size, 6, none⟩ (.int .i64 t.num)).setCell ⟨w.heap.size, 7, none⟩ v) { e with thr := t } { u with tw := v } := by
  have h1 : OddS D A n c m w (W.setCell ⟨w.heap.size, 6, none⟩ (.int .i64 t.num)) { e with thr := { e.thr with num := t.num } } u := h.put1 h0 6 _ rfl rfl rfl (six rfl rfl rfl rfl rfl rfl) rfl
  have hv1 := hv.setCell h.row notThrT_ev 6 (.int .i64 t.num)
  refine h1.put h0 7 v rfl ⟨hv1, h1.own.nw, fun i hi => ?_, h1.own.an⟩ (h1.few.congr (six rfl rfl rfl rfl rfl rfl) rfl)
  exact (six id id id id id id : ∀ i, i < 6 → (W.setCell ⟨w.heap.size, 6, none⟩ (.int .i64 t.num)).ownsRow w.heap.size 9 1 (u.sl i) (e.ll i).length (strCells (e.ll i)).toList → (W.setCell ⟨w.heap.size, 6, none⟩ (.int .i64 t.num)).ownsRow w.heap.size 9 1 (EvS.sl { u with tw := v } i) (EvV.ll { e with thr := t } i).length (strCells (EvV.ll { e with thr := t } i)).toList) i hi ((h.own.own i hi |> fun q => own_setCell q 6 (.int .i64 t.num) (own_type q h.row (by decide))))
theorem OddS.putNthr {D : Nat} {A : Option Addr} {n c m : Nat} {w W : World} {e : EvV} {u : EvS} (h : OddS D A n c m w W e u) (h0 : Dice D A n c w) {t : ThrV} {v : Value} (hv : FirmT w.heap.size W (fun W => Fracss W v t.ws)) :
    OddS D A n c m w ((W.setCell ⟨w.heap.size, 9, none⟩ (.int .i64 t.num)).setCell ⟨w.heap.size, 10, none⟩ v) { e with nthr := t } { u with nw := v } := by
  have h1 : OddS D A n c m w (W.setCell ⟨w.heap.size, 9, none⟩ (.int .i64 t.num)) { e with nthr := { e.nthr with num := t.num } } u := h.put1 h0 9 _ rfl rfl rfl (six rfl rfl rfl rfl rfl rfl) rfl
  have hv1 := hv.setCell h.row notThrT_ev 9 (.int .i64 t.num)
  refine h1.put h0 10 v rfl ⟨h1.own.tw, hv1, fun i hi => ?_, h1.own.an⟩ (h1.few.congr (six rfl rfl rfl rfl rfl rfl) rfl)
  exact (six id id id id id id : ∀ i, i < 6 → (W.setCell ⟨w.heap.size, 9, none⟩ (.int .i64 t.num)).ownsRow w.heap.size 9 1 (u.sl i) (e.ll i).length (strCells (e.ll i)).toList → (W.setCell ⟨w.heap.size, 9, none⟩ (.int .i64 t.num)).ownsRow w.heap.size 9 1 (EvS.sl { u with nw := v } i) (EvV.ll { e with nthr := t } i).length (strCells (EvV.ll { e with nthr := t } i)).toList) i hi ((h.own.own i hi |> fun q => own_setCell q 9 (.int .i64 t.num) (own_type q h.row (by decide))))

theorem EvO.one {B : Nat} {w : World} {e : EvV} {u : EvS} (h : EvO B w e u) : (evCells e u).all (·.oneCell') = true :=
  evCells_one _ _ (fracss_one h.tw.now) (own_one (h.own 0 (by omega))) (fracss_one h.nw.now) (own_one (h.own 1 (by omega))) (own_one (h.own 2 (by omega))) (own_one (h.own 3 (by omega))) (own_one (h.own 4 (by omega))) (own_one (h.own 5 (by omega))) (own_one h.an)

/-- What is handed back. -/
theorem OddS.ends {D : Nat} {A : Option Addr} {n c m m' : Nat} {w W : World} {e : EvV} {u : EvS} (h : OddS D A n c m w W e u) (h0 : Dice D A n c w) (hm : m ≤ m') (hm2 : m' ≤ 1000000) :
    (∃ e' u', Ending.returned (.agg (evCells e u)) = .returned (.agg (evCells e' u')) ∧ Firm D (W.setRow (w.heap.size + 1) (evCells e u)) (fun W => EvM W e' u') ∧ Few m' e') ∧ KitW D A n c w (W.setRow (w.heap.size + 1) (evCells e u)) :=
  ⟨⟨e, u, rfl, (h.own.setRow h.res _).firm (h.few.mono (Nat.le_trans hm hm2)) h0.lt, h.few.mono hm⟩, h.kit.setRow h0 (by omega) _⟩

theorem OddS.rowAt {D : Nat} {A : Option Addr} {n c m : Nat} {w W w2 : World} {e : EvV} {u : EvS} (h : OddS D A n c m w W e u) {i : Nat} (hi : i < 6) (hg : W.grownBy w2 (u.sl i).ownBlock) : w2.heap[w.heap.size]? = some (.cells (evCells e u) 35 (0, 0)) :=
  (hg.block _ (krow_lt h.row) (fun e => own_type (h.own.own i hi) h.row (by decide) e.symm)).trans h.row
theorem OddS.rowAn {D : Nat} {A : Option Addr} {n c m : Nat} {w W w2 : World} {e : EvV} {u : EvS} (h : OddS D A n c m w W e u) (hg : W.grownBy w2 u.an.ownBlock) : w2.heap[w.heap.size]? = some (.cells (evCells e u) 35 (0, 0)) :=
  (hg.block _ (krow_lt h.row) (fun e => own_type h.own.an h.row (by decide) e.symm)).trans h.row
theorem OddS.mono {D : Nat} {A : Option Addr} {n c m m' : Nat} {w W : World} {e : EvV} {u : EvS} (h : OddS D A n c m w W e u) (hm : m ≤ m') : OddS D A n c m' w W e u := ⟨h.row, h.res, h.own, h.few.mono hm, h.kit⟩
theorem five_cells {w : World} {b : Nat} {T : TypeId} {p0 p1 p2 p3 p4 : Int} (h : w.heap[b]? = some (.cells #[.int .i64 p0, .int .i64 p1, .int .i64 p2, .int .i64 p3, .int .i64 p4] T (0, 0))) (Y : Nat) (hY : Y < 5) : ∃ p : Int, w.cell? ⟨b, Y, none⟩ = some (.int .i64 p) := by
  have h5 : Y = 0 ∨ Y = 1 ∨ Y = 2 ∨ Y = 3 ∨ Y = 4 := by omega
  rcases h5 with rfl | rfl | rfl | rfl | rfl
  · exact ⟨_, cell_of_row _ _ 0 _ _ _ h⟩
  · exact ⟨_, cell_of_row _ _ 1 _ _ _ h⟩
  · exact ⟨_, cell_of_row _ _ 2 _ _ _ h⟩
  · exact ⟨_, cell_of_row _ _ 3 _ _ _ h⟩
  · exact ⟨_, cell_of_row _ _ 4 _ _ _ h⟩
theorem OddS.anSlice {D : Nat} {A : Option Addr} {n c m : Nat} {w W : World} {e : EvV} {u : EvS} (h : OddS D A n c m w W e u) : ∃ B cp, u.an = .slice B e.anc.length cp := by
  rcases h.own.an.2 with ⟨e1, e2⟩ | ⟨g, cap, cur, e1, _⟩
  · exact ⟨none, 0, by rw [e1, e2]⟩
  · exact ⟨_, _, e1⟩

end Go.Proofs.YtkinlobfdkeamaaGreatDoor

