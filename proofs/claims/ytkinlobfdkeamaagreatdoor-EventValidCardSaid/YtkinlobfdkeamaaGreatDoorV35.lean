/- Numbers as texts, the reference's way. A long region cut into pieces, and the rest of a chain of '&&' behind a test that fails. -/
import Derived.Test.YtkinlobfdkeamaaGreatDoorV29
import Derived.Test.YtkinlobfdkeamaaGreatDoorV34
import Derived.Test.YtkinlobfdkeamaaGreatDoorV03
import Derived.Orders
namespace Go.Proofs.YtkinlobfdkeamaaGreatDoor
open Go.RowKit

set_option maxRecDepth 100000 in
theorem r14_Hex_neg (n : Int) (hn : n < 0) (w : World) : Calls Tryz.prog 22 #[.int .i64 n] w fun e w' => e = .returned (.string ⟨#[]⟩) ∧ w = w' := by
  go_enter Tryz.func22, Tryz.ntmps22
  go_wp2
  go_ret
  exact ⟨rfl, rfl⟩

set_option maxRecDepth 100000 in
theorem r14_Hex_nat (n : Nat) (hn : n < 9223372036854775808) (w : World) (hG : Glob w) :
    Calls Tryz.prog 22 #[.int .i64 n] w fun e w' => e = .returned (.string (hexS n)) ∧ Below w.heap.size w w' := by
  go_enter Tryz.func22, Tryz.ntmps22
  go_wp2_with (go_at_call 25; refine (format n hn _ hG).mono ?_; rintro e w' ⟨rfl, hb⟩)
  go_ret
  exact ⟨rfl, hb⟩

/-- The value of a small hexadecimal digit. -/
def lowD (c : UInt8) : Option Nat := if 48 ≤ c.toNat ∧ c.toNat ≤ 57 then some (c.toNat - 48) else if 97 ≤ c.toNat ∧ c.toNat ≤ 102 then some (c.toNat - 87) else none

theorem lowD_iff (c : UInt8) (k : Nat) (hk : k < 16) : lowD c = some k ↔ (hexDig k).toNat = c.toNat := by
  rw [hexDig_nat k hk]
  unfold lowD
  split
  · rw [Option.some.injEq]; split <;> omega
  · split
    · rw [Option.some.injEq]; split <;> omega
    · constructor
      · intro h; exact absurd h (by simp)
      · intro h; split at h <;> omega
theorem lowD_lt {c : UInt8} {k : Nat} (h : lowD c = some k) : k < 16 := by
  unfold lowD at h
  split at h
  · rw [Option.some.injEq] at h; omega
  · split at h
    · rw [Option.some.injEq] at h; omega
    · exact absurd h (by simp)
theorem lowD_hex {c : UInt8} (h : isHex c) : lowD c ≠ none := by
  unfold isHex at h
  unfold lowD
  split
  · simp
  · split
    · simp
    · omega
theorem hexV_low (a : Nat) (c : UInt8) (k : Nat) (h : lowD c = some k) : hexV a [c] = a * 16 + k := by
  simp only [hexV]
  unfold lowD at h
  split at h
  · rw [Option.some.injEq] at h; split <;> omega
  · split at h
    · rw [Option.some.injEq] at h; split <;> omega
    · exact absurd h (by simp)

/-- What the inner loop has found among the first k digits. -/
def dV (c : UInt8) (k : Nat) : Int := match lowD c with
  | some j => if j < k then (j : Int) else -1
  | none => -1

theorem dV_yes (c : UInt8) (k : Nat) (h : lowD c = some k) : dV c (k + 1) = (k : Int) := by
  unfold dV; rw [h]; simp
theorem dV_no (c : UInt8) (k : Nat) (h : lowD c ≠ some k) : dV c (k + 1) = dV c k := by
  unfold dV
  cases hl : lowD c with
  | none => rfl
  | some j =>
    rw [hl] at h
    have : j ≠ k := fun e => h (by rw [e])
    by_cases hj : j < k
    · simp only [if_pos hj, if_pos (show j < k + 1 by omega)]
    · simp only [if_neg hj, if_neg (show ¬ j < k + 1 by omega)]

theorem tab16 (n : Nat) (hn : n < 16) (hs : n < (⟨#[48, 49, 50, 51, 52, 53, 54, 55, 56, 57, 97, 98, 99, 100, 101, 102]⟩ : ByteArray).size) : (⟨#[48, 49, 50, 51, 52, 53, 54, 55, 56, 57, 97, 98, 99, 100, 101, 102]⟩ : ByteArray)[n]'hs = hexDig n := by
  have h : ∀ n : Fin 16, (#[48, 49, 50, 51, 52, 53, 54, 55, 56, 57, 97, 98, 99, 100, 101, 102] : Array UInt8)[n.val]? = some (hexDig n.val) := by decide +kernel
  exact (Array.getElem?_eq_some_iff.1 (h ⟨n, hn⟩)).2

theorem take_snoc8 (l : List UInt8) (k : Nat) (h : k < l.length) : l.take (k + 1) = l.take k ++ [l.getD k 0] := by
  rw [List.take_succ_eq_append_getElem h, List.getD_eq_getElem?_getD, List.getElem?_eq_getElem h]; rfl

/-- No number up to 2^40 has this text. -/
theorem no_low (l : List UInt8) (i : Nat) (hi : i < l.length) (h : lowD (l.getD i 0) = none ∨ 11 ≤ i) : ∀ n : Nat, n ≤ 1099511627776 → (⟨l.toArray⟩ : ByteArray) ≠ hexS n := by
  intro n hn e
  have e' : l = hexL n := by
    have := congrArg (fun b : ByteArray => b.data.toList) e
    simpa [hexS] using this
  subst e'
  rcases h with h | h
  · refine lowD_hex (hexL_isHex n _ ?_) h
    rw [List.getD_eq_getElem?_getD, List.getElem?_eq_getElem hi]
    exact List.getElem_mem _
  · have := hexL_len n 10 (by omega)
    omega

set_option maxHeartbeats 8000000 in
set_option maxRecDepth 100000 in
theorem r14_parseHex (l : List UInt8) (hl : l.length ≤ 1000) (w : World) (hG : Glob w) :
    Calls Tryz.prog 24 #[.string ⟨l.toArray⟩] w fun e w' => (∃ v, e = .returned v ∧ phV ⟨l.toArray⟩ v) ∧ Below w.heap.size w w' := by
  have HG : PLift _ := PLift.up hG
  clear hG
  go_enter Tryz.func24, Tryz.ntmps24
  go_wp2_with fail
  go_loopw [10, 4] (fun v10 v4 wr => ∃ i n : Nat, i ≤ l.length ∧ v10 = .int .i64 (i : Int) ∧ v4 = .int .i64 (n : Int) ∧ i ≤ 11 ∧ n < 16 ^ i ∧ n = hexV 0 (l.take i) ∧ Below w.heap.size w wr) (fun v10 _ _ => ((l.length : Int) - intOf v10).toNat)
  case atStart => exact ⟨0, 0, by omega, rfl, rfl, by omega, by simp, rfl, Below.refl _ _⟩
  case round =>
    obtain ⟨i, n, hi, rfl, rfl, h11, hn, hv, hB⟩ := hrel
    by_cases hlt : i < l.length
    · have j0 : (i : Int) < l.length := by omega
      have j1 : 0 ≤ (i : Int) := by omega
      obtain ⟨c, hc⟩ : ∃ c, c = l.getD i 0 := ⟨_, rfl⟩
      have b0 : ∀ h, (((⟨l.toArray⟩ : ByteArray)[i]'h).toNat : Int) = (c.toNat : Int) := by intro h; rw [hc]; exact byte_getD l _ h
      have HC : PLift _ := PLift.up hc
      have HV : PLift _ := PLift.up hv
      have HN : PLift _ := PLift.up hn
      clear hc hv hn
      go_wp2_with fail
      obtain ⟨wo, rfl⟩ : ∃ wo : World, wo = wr := ⟨_, rfl⟩
      go_loopw [13, 6] (fun v13 v6 wq => ∃ k : Nat, k ≤ 16 ∧ v13 = .int .i64 (k : Int) ∧ v6 = .int .i64 (dV c k) ∧ Below wo.heap.size wo wq) (fun v13 _ _ => ((16 : Int) - intOf v13).toNat)
      case atStart => exact ⟨0, by omega, rfl, by unfold dV; cases lowD c <;> simp, Below.refl _ _⟩
      case round =>
        obtain ⟨k, hk, rfl, rfl, hB2⟩ := hrel
        by_cases hk16 : k < 16
        · have k0 : (k : Int) < 16 := by omega
          have k1 : 0 ≤ (k : Int) := by omega
          have a0 : ∀ h, (((⟨#[48, 49, 50, 51, 52, 53, 54, 55, 56, 57, 97, 98, 99, 100, 101, 102]⟩ : ByteArray)[k]'h).toNat : Int) = ((hexDig k).toNat : Int) := by intro h; rw [tab16 k hk16 h]
          by_cases hq : lowD c = some k
          · have t0 : (((hexDig k).toNat : Int) == (c.toNat : Int)) = true := by rw [(lowD_iff c k hk16).1 hq]; simp
            have HD : PLift _ := PLift.up (dV_yes c k hq)
            clear hq
            generalize ((hexDig k).toNat : Int) = D at a0 t0
            generalize (c.toNat : Int) = C at b0 t0
            go_wp2_with fail
            go_quiet (fail)
            go_wp2_with fail
            exact ⟨⟨k + 1, by omega, by go_num, by rw [HD.down], below_drewN hB2 _⟩, by simp only [intOf]; omega⟩
          · have t0 : (((hexDig k).toNat : Int) == (c.toNat : Int)) = false := by
              rw [beq_eq_false_iff_ne]
              intro hx
              exact hq ((lowD_iff c k hk16).2 (by omega))
            have HD : PLift _ := PLift.up (dV_no c k hq)
            clear hq
            generalize ((hexDig k).toNat : Int) = D at a0 t0
            generalize (c.toNat : Int) = C at b0 t0
            generalize dV c k = dv at HD ⊢
            go_wp2_with fail
            go_quiet (fail)
            go_wp2_with fail
            exact ⟨⟨k + 1, by omega, by go_num, by rw [HD.down], below_drewN hB2 _⟩, by simp only [intOf]; omega⟩
        · have hk' : k = 16 := by omega
          subst hk'
          have hb2 := ext_trans hB hB2
          cases hq : lowD c with
          | none =>
            have hd : dV c 16 = -1 := by unfold dV; rw [hq]
            have HR : PLift _ := PLift.up (no_low l i hlt (Or.inl (by rw [← HC.down]; exact hq)))
            rw [hd]
            clear hq hd
            go_wp2_with fail
            go_ret2
            exact ⟨⟨_, rfl, Or.inr ⟨HR.down, rfl⟩⟩, hb2⟩
          | some d =>
            have hd16 := lowD_lt hq
            have hd : dV c 16 = (d : Int) := by unfold dV; rw [hq]; simp [hd16]
            rw [hd]
            by_cases hi11 : i < 11
            · have i11 : ¬ ((11 : Int) ≤ (i : Int)) := by omega
              have hp : 16 ^ i ≤ 16 ^ 10 := Nat.pow_le_pow_right (by omega) (by omega)
              have hn10 : n < 1099511627776 := Nat.lt_of_lt_of_le HN.down hp
              have hnext : n * 16 + d = hexV 0 (l.take (i + 1)) := by
                rw [take_snoc8 l i hlt, hexV_append, ← HV.down, ← HC.down, hexV_low n c d hq]
              have hnext2 : n * 16 + d < 16 ^ (i + 1) := by
                have := HN.down
                rw [Nat.pow_succ]; omega
              have hmul : (16 : Int) * (n : Int) + (d : Int) = ((n * 16 + d : Nat) : Int) := by omega
              have HX : PLift _ := PLift.up hnext
              have HY : PLift _ := PLift.up hnext2
              have HM : PLift _ := PLift.up hmul
              clear hq hd hnext hnext2 hmul hp
              go_wp2_with fail
              exact ⟨⟨i + 1, n * 16 + d, by omega, by go_num, by rw [← HM.down], by omega, HY.down, HX.down, hb2⟩, by simp only [intOf]; omega⟩
            · have i11 : (11 : Int) ≤ (i : Int) := by omega
              have HR : PLift _ := PLift.up (no_low l i hlt (Or.inr (by omega)))
              clear hq hd
              go_wp2_with fail
              go_ret2
              exact ⟨⟨_, rfl, Or.inr ⟨HR.down, rfl⟩⟩, hb2⟩
    · have hil : i = l.length := by omega
      subst hil
      rw [List.take_length] at hv
      have hp : 16 ^ l.length ≤ 16 ^ 11 := Nat.pow_le_pow_right (by omega) h11
      have hn11 : n < 17592186044416 := Nat.lt_of_lt_of_le hn hp
      have huniq : ∀ m : Nat, (⟨l.toArray⟩ : ByteArray) = hexS m → m = n := by
        intro m e
        have e' : l = hexL m := by
          have := congrArg (fun b : ByteArray => b.data.toList) e
          simpa [hexS] using this
        rw [hv, e', hexV_hexL]
      have HU : PLift _ := PLift.up huniq
      have HH : PLift _ := PLift.up (r14_Hex_nat n (by omega))
      have HG1 : PLift _ := PLift.up (HG.down.later hB)
      clear huniq hp hv hn
      by_cases hx : (⟨l.toArray⟩ : ByteArray) = hexS n
      · have hl2 : hexL n = l := by
          have := congrArg (fun b : ByteArray => b.data.toList) hx
          simpa [hexS] using this.symm
        have HX : PLift _ := PLift.up hx
        clear hx
        have t0 : (l != l) = false := by simp
        go_wp2_with fail
        refine (HH.down _ HG1.down).mono ?_
        unfold hexS
        rw [hl2]
        rintro e w1 ⟨rfl, b1⟩
        clear hl2
        by_cases hm : n ≤ 1099511627776
        · have m0 : ¬ ((1099511627776 : Int) < (n : Int)) := by omega
          go_wp2_with fail
          go_ret2
          exact ⟨⟨_, rfl, Or.inl ⟨n, hm, HX.down, rfl⟩⟩, ext_trans hB b1⟩
        · have m0 : (1099511627776 : Int) < (n : Int) := by omega
          go_wp2_with fail
          go_ret2
          exact ⟨⟨_, rfl, Or.inr ⟨fun m h1 h2 => hm (by rw [← HU.down m h2]; exact h1), rfl⟩⟩, ext_trans hB b1⟩
      · have HX : PLift _ := PLift.up hx
        have hne : hexL n ≠ l := by
          intro e
          exact hx (by unfold hexS; rw [e])
        have t0 : (hexL n == l) = false := by simpa using hne
        clear hx
        go_wp2_with fail
        refine (HH.down _ HG1.down).mono ?_
        unfold hexS
        generalize hexL n = L at hne t0 ⊢
        rintro e w1 ⟨rfl, b1⟩
        go_wp2_with fail
        go_ret2
        exact ⟨⟨_, rfl, Or.inr ⟨fun m h1 h2 => HX.down (by rw [HU.down m h2] at h2; exact h2), rfl⟩⟩, ext_trans hB b1⟩

end Go.Proofs.YtkinlobfdkeamaaGreatDoor

namespace Go.Proofs.YtkinlobfdkeamaaGreatDoor
open Go.RowKit

/-- The region's operations under a name. -/
theorem hide_ops {P : Program} {ops : Array Oper} {Q : Exit → Act → World → Prop} {a : Act} {w : World} {rest : List Oper} (h : ∀ O, O = ops → wpList P O Q rest a w) : wpList P ops Q rest a w := h _ rfl

theorem upon_then {P : Program} {o : Oper} {a : Act} {K N : Act → World → Prop} {Q : Exit → Act → World → Prop} {r : Result Next} (h : o.upon P a N (Exit.then K Q) r) : o.upon P a N Q r := by
  cases r with
  | ok n w' => cases n <;> exact h
  | halt x w' => cases x <;> first | exact h | exact h.elim

/-- The first operations, and then the others. -/
theorem wpList_append' {P : Program} {ops : Array Oper} {Q : Exit → Act → World → Prop} {l2 : List Oper} : ∀ (l1 : List Oper) (a : Act) (w : World), wpList P ops (Exit.then (wpList P ops Q l2) Q) l1 a w → wpList P ops Q (l1 ++ l2) a w
  | [], _, _, h => h
  | o :: l1, a, w, h => by
    unfold wpList at h
    show wpList P ops Q (o :: (l1 ++ l2)) a w
    unfold wpList
    split
    · rename_i hw
      rw [if_pos hw] at h
      rcases h with h | h
      · exact Or.inl (upon_then (Oper.wp_mono (fun a w hk => wpList_append' l1 a w hk) h))
      · exact Or.inr h
    · rename_i hw
      rw [if_neg hw] at h
      exact wpList_append' l1 _ _ h

theorem wpList_take {P : Program} {ops : Array Oper} {Q : Exit → Act → World → Prop} {l : List Oper} {a : Act} {w : World} (n : Nat)
    (h : ∀ K : Act → World → Prop, (∀ a w, wpList P ops Q (l.drop n) a w → K a w) → wpList P ops (Exit.then K Q) (l.take n) a w) : wpList P ops Q l a w := by
  have := wpList_append' (l.take n) a w (h _ (fun _ _ h => h))
  rwa [List.take_append_drop] at this

def knownF (ops : Array Oper) (F : List Nat) (j : Nat) : Bool := match (ops[j]?).bind (·.dst) with | some s => F.contains s | none => false
/-- What is left of a chain behind a slot that holds false: the slots that hold false in the end. -/
def skipRun (n : Nat) (ops : Array Oper) : List Oper → List Nat → Option (List Nat)
  | [], F => some F
  | o :: rest, F =>
    match o.guard, o.op, o.dst with
    | some (j, true), _, some d => if knownF ops F j then skipRun n ops rest (F.filter (· != d)) else none
    | none, .move (.tmp x), some d => if F.contains x && decide (d < n) then skipRun n ops rest (d :: F) else none
    | none, .pick (.tmp c) _ (.const (.bool false)), some d => if F.contains c && decide (d < n) then skipRun n ops rest (d :: F) else none
    | none, .assign (.tmp x), some d => if F.contains x && decide (d < n) then skipRun n ops rest (d :: F) else none
    | _, _, _ => none

theorem skip_put {a : Act} {n d : Nat} {F : List Nat} (hs : a.tmps.size = n) (hF : ∀ s ∈ F, a.tmps[s]? = some (.bool false)) (hd : d < n) : ∀ s ∈ d :: F, (a.put (some d) (.bool false)).tmps[s]? = some (.bool false) := by
  intro s h
  show (a.tmps.setIfInBounds d _)[s]? = _
  rw [Array.getElem?_setIfInBounds]
  split
  · rename_i e; subst e; rw [if_pos (by omega)]
  · rename_i e
    rw [List.mem_cons] at h
    rcases h with h | h
    · exact absurd h.symm e
    · exact hF s h

theorem skip_law {P : Program} {ops : Array Oper} {Q : Exit → Act → World → Prop} {n : Nat} {w : World} {F' : List Nat} : ∀ (rest : List Oper) (F : List Nat) (a : Act), skipRun n ops rest F = some F' → a.tmps.size = n → (∀ s ∈ F, a.tmps[s]? = some (.bool false)) →
    (∀ a', a'.tmps.size = n → a'.defers = a.defers → (∀ s ∈ F', a'.tmps[s]? = some (.bool false)) → Q .normal a' w) → wpList P ops Q rest a w
  | [], F, a, h, hs, hF, hQ => by
    cases h
    exact hQ a hs rfl hF
  | o :: rest, F, a, h, hs, hF, hQ => by
    unfold skipRun at h
    split at h
    · rename_i j d hg ho
      split at h
      · rename_i hc
        refine wpList_step (fun K hK => ?_)
        have hy : yielded ops a.tmps j = some false := by
          unfold yielded
          unfold knownF at hc
          cases hs' : (ops[j]?).bind (·.dst) with
          | none => rw [hs'] at hc; exact absurd hc (by simp)
          | some s =>
            rw [hs'] at hc
            rw [Option.bind_some, hF s (by simpa using hc)]
        rw [if_neg (by simp [Region.wanted, hg, hy])]
        refine hK _ _ (skip_law rest _ _ h (by rw [ho]; simp [Act.put, hs]) ?_ (fun a' h1 h2 h3 => hQ a' h1 (by rw [h2, ho]; rfl) h3))
        intro s hm
        rw [List.mem_filter] at hm
        rw [ho]
        show (a.tmps.setIfInBounds d _)[s]? = _
        rw [Array.getElem?_setIfInBounds, if_neg (fun e => by simp [e] at hm)]
        exact hF s hm.1
      · exact absurd h (by simp)
    · rename_i x d hg hop ho
      split at h
      · rename_i hc
        rw [Bool.and_eq_true, decide_eq_true_eq] at hc
        have hx := hF x (by simpa using hc.1)
        refine wpList_plain hg (fun K hK => ?_)
        have he : a.eval (.tmp x) = .bool false := by simp [Act.eval, Array.getD_eq_getD_getElem?, hx]
        have : o.wp P a w K Q = K (a.put (some d) (.bool false)) w := by
          unfold Oper.wp
          simp [execOp, hop, he, Oper.upon, ho]
        rw [this]
        exact hK _ _ (skip_law rest _ _ h (by simp [Act.put, hs]) (skip_put hs hF hc.2) (fun a' h1 h2 h3 => hQ a' h1 h2 h3))
      · exact absurd h (by simp)
    · rename_i c y d hg hop ho
      split at h
      · rename_i hc
        rw [Bool.and_eq_true, decide_eq_true_eq] at hc
        have hx := hF c (by simpa using hc.1)
        refine wpList_plain hg (fun K hK => ?_)
        have : o.wp P a w K Q = K (a.put (some d) (.bool false)) w := by
          unfold Oper.wp
          simp [execOp, hop, Oper.upon, ho, go_sem, hx]
        rw [this]
        exact hK _ _ (skip_law rest _ _ h (by simp [Act.put, hs]) (skip_put hs hF hc.2) (fun a' h1 h2 h3 => hQ a' h1 h2 h3))
      · exact absurd h (by simp)
    · rename_i x d hg hop ho
      split at h
      · rename_i hc
        rw [Bool.and_eq_true, decide_eq_true_eq] at hc
        have hx := hF x (by simpa using hc.1)
        refine wpList_plain hg (fun K hK => ?_)
        have he : a.eval (.tmp x) = .bool false := by simp [Act.eval, Array.getD_eq_getD_getElem?, hx]
        have : o.wp P a w K Q = K (a.put (some d) (.bool false)) w := by
          unfold Oper.wp
          simp [execOp, hop, he, Oper.upon, ho]
        rw [this]
        exact hK _ _ (skip_law rest _ _ h (by simp [Act.put, hs]) (skip_put hs hF hc.2) (fun a' h1 h2 h3 => hQ a' h1 h2 h3))
      · exact absurd h (by simp)
    · exact absurd h (by simp)

/-- .. where one slot alone is asked for. -/
theorem skip_one {P : Program} {ops : Array Oper} {Q : Exit → Act → World → Prop} {w : World} {rest : List Oper} {a : Act} (n : Nat) (F : List Nat) (p : Nat) (h : (skipRun n ops rest F).map (fun F' => F'.contains p) = some true) (hs : a.tmps.size = n) (hF : ∀ s ∈ F, a.tmps[s]? = some (.bool false))
    (hQ : ∀ a', a'.defers = a.defers → a'.tmps[p]? = some (.bool false) → Q .normal a' w) : wpList P ops Q rest a w := by
  cases hr : skipRun n ops rest F with
  | none => rw [hr] at h; exact absurd h (by simp)
  | some F' =>
    rw [hr] at h
    refine skip_law rest F a hr hs hF (fun a' _ h2 h3 => hQ a' h2 (h3 p ?_))
    simpa using h

theorem ret_false {P : Program} {fn : Func} {R : Ending → World → Prop} {a : Act} {w : World} {p : Nat} (h : fn.results = #[.tmp p]) (hd : a.defers = []) (hp : a.tmps[p]? = some (.bool false)) (hR : R (.returned (.bool false)) w) : Code.wp P Code.ret (bodyPost P fn R) a w := by
  refine wp_ret ⟨hd, .bool false, ?_, hR⟩
  simp [results, h, hp]

end Go.Proofs.YtkinlobfdkeamaaGreatDoor

