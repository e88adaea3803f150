/-
  PROVED: the law EventValid answers true at every list of numbers, every raw event, every number and every text, and leaves them as they were; its listed variables are tied to the program's text. No condition of ours.
-/
import Derived.Test.YtkinlobfdkeamaaGreatDoorV38
import Derived.Test.YtkinlobfdkeamaaGreatDoorV39
namespace Go.Proofs.YtkinlobfdkeamaaGreatDoor.eventValid
open Go.ChangeShapes Go.WideShapes Go.ChangeAt Go.RowKit

theorem laid_met (os : Os) (args : Array Value) : laidMet Tryz.prog Rows.eventValidRow.laid ((laidWorld os).forCall (fun _ _ => 0) ⟨#[], args, []⟩).memory :=
  laidMet_of_run3 8 (by kernel_rfl) (by kernel_rfl) (by kernel_rfl)

def wArgs : Array Value := #[.slice none 0 0, .agg zeroEv, .int .i64 0, .string ⟨#[]⟩]
def wData {H : Type} : List (DataW H) := [.nil, .agg [.lit (.int .i64 0), .lit (.int .i64 0), .lit (.string []), .lit (.string []), .lit (.int .i64 0), .lit (.string []), .agg [.lit (.int .i64 0), .nil], .nil, .agg [.lit (.int .i64 0), .nil], .nil, .lit (.int .i64 0), .nil, .nil, .nil, .nil, .nil, .lit (.string [])], .lit (.int .i64 0), .lit (.string [])]
theorem reads (os : Os) {H : Type} (enc : TypeId × Value → H) : ∃ places, DataW.whole enc Tryz.prog ((laidWorld os).forCall (fun _ _ => 0) ⟨#[], wArgs, []⟩).memory Tryz.f4.params.toList Rows.eventValidSpec.vars false wArgs.toList 8 = some (wData, [], places) :=
  ⟨[], by kernel_rfl⟩

set_option maxRecDepth 100000 in
theorem errVar {W : World} {laid : List (String × DataW Unit)} (h : laidMet Tryz.prog laid W) {name : String} {d : DataW Unit} (hm : (name, d) ∈ laid) {g : Nat} (hg : Tryz.prog.globalNamed name = some g) {t : TypeId} (ht : (Tryz.prog.globals[g]?).map (·.type) = some t) {ms : Array (String × TypeId)} (hu : Tryz.prog.underlying t = some (.interface ms)) :
    ∃ ev, W.cell? ⟨g, 0, none⟩ = some ev ∧ (ev = .nilIface ∨ ∃ te pe, ev = .iface te pe) := by
  obtain ⟨g', t', cs, fuel, p, h1, h2, h3, h4⟩ := Lib.laidMet.reads h hm
  obtain rfl : g' = g := Option.some.inj (h1.symm.trans hg)
  obtain rfl : t' = t := Option.some.inj (h2.symm.trans ht)
  rw [World.var?_cell h1 h3 0]
  cases fuel with
  | zero => exact absurd h4 (by simp [DataW.trod])
  | succ n =>
    unfold DataW.trod at h4
    rw [hu] at h4
    obtain ⟨l, rfl⟩ : ∃ l : List Value, cs = l.toArray := ⟨cs.toList, by simp⟩
    match l, h4 with
    | [.nilIface], _ => exact ⟨_, rfl, Or.inl rfl⟩
    | [.iface te pe], _ => exact ⟨_, rfl, Or.inr ⟨_, _, rfl⟩⟩

theorem errs_of {W : World} (h : laidMet Tryz.prog Rows.eventValidRow.laid W) : Errs W where
  syn := errVar h (.tail _ (.tail _ (.tail _ (.tail _ (.tail _ (.head _)))))) (by kernel_rfl) (t := 51) (by kernel_rfl) Tryz.underlying51
  ran := errVar h (.tail _ (.tail _ (.tail _ (.tail _ (.head _))))) (by kernel_rfl) (t := 51) (by kernel_rfl) Tryz.underlying51

theorem stays {H : Type} {enc : TypeId × Value → H} {t : TypeId} (hr : Tryz.prog.readableRec t = true) (hrow : t < Tryz.prog.types.size) {W W' : World} {v : Value} {d : DataW H} {ps : List MemPlace} (h : DataW.Trod enc Tryz.prog W 0 (fun _ => true) true t v d ps) (hb : Below W.heap.size W W') (hlt : ∀ x ∈ ps, x.block < W.heap.size) (sp : Nat → Bool) (hs : ∀ p ∈ ps, sp p.block = true) :
    DataW.Trod enc Tryz.prog W' 0 sp true t v d ps := WideElems.Trod_stays (by kernel_rfl) hr hrow h (fun x hx => hb.same (hlt x hx)) hs

set_option maxRecDepth 100000 in
theorem contract (H : Type) (enc : TypeId × Value → H) (W : World) (base : Nat) (args : Array Value) (ds gs : List (DataW H)) (before : List MemPlace)
    (hval : ∀ (j : Nat) t v, Tryz.f4.params[j]? = some t → args[j]? = some v → Value.okWide Tryz.prog W .any base t v)
    (hW : DataW.Whole enc Tryz.prog Tryz.f4.params.toList Rows.eventValidSpec.vars false W args.toList ds gs before) (hG : Glob W) (hE : Errs W) :
    Calls Tryz.prog 4 args W fun e W' => ∃ v, e = .returned v ∧ Rows.eventValidSpec.post enc Tryz.prog Tryz.f4 false true false false W args v W' := by
  have hW' := hW
  obtain ⟨p, q, hA0, hV, rfl, hfz, hnd⟩ := hW
  have hA : DataW.TrodAll enc Tryz.prog W 0 (fun _ => true) true Tryz.f4.params.toList args.toList ds p := hA0
  rw [Tryz.params4] at hA hval
  obtain ⟨v0, v1, v2, v3, d0, d1, d2, d3, p0, p1, p2, p3, rfl, rfl, rfl, h0, h1, h2, h3⟩ := trodAll_four hA
  obtain ⟨rfl, rfl⟩ := trodVars_none hV
  clear hA0
  simp only [List.append_nil] at hW'
  have hlt : ∀ x ∈ p0 ++ p1 ++ p2 ++ p3, x.block < W.heap.size := fun x hx => hW'.lt x hx
  have k0 := h0
  have k1 := h1
  obtain ⟨A, nT, cT, rfl⟩ := okWide_slice Tryz.underlying28 (hval 0 28 v0 rfl rfl)
  obtain ⟨e, u, n1, n2, rfl, g1, g2, g3, g4, g5, g6, g7, g8, g9, gM, gO⟩ := openEvent (hval 1 35 v1 rfl rfl) h1
  obtain ⟨k, rfl, rfl, rfl, wk⟩ := open_int Tryz.underlying3 (hval 2 3 v2 rfl rfl) h2
  obtain ⟨s, rfl, rfl, rfl, ws⟩ := Go.ChangeMaps.open_string Tryz.underlying9 (hval 3 9 v3 rfl rfl) h3
  obtain ⟨f0, hf0⟩ := h0
  obtain ⟨A', n', c', e', hc', hI⟩ := openInts hf0
  obtain ⟨rfl, rfl, rfl⟩ : A' = A ∧ n' = nT ∧ c' = cT := by
    injection e' with q1 q2 q3
    exact ⟨q1.symm, q2.symm, q3.symm⟩
  have bk := bounds_i64 wk
  have hlaw := evLaw A' n' c' e u n1 n2 k s.data.toList W hG hE hc' hI g1 g2 g3 g4 g5 g6 g7 g8 g9 gM bk.1 bk.2 (by rw [Array.length_toList]; rw [maxLen_is] at ws; exact ws) gO
  rw [strB] at hlaw
  refine hlaw.mono fun r W' ⟨he, hb⟩ => ?_
  subst he
  exact ⟨_, rfl, rowEnd (pa := p0 ++ (p1 ++ ([] ++ []))) (pv := []) hW' (fun _ _ _ => trodAll_mk1 (shut_bool Tryz.underlying4 _)) (fun sp hsp => trodAll_mk4
    (stays (by kernel_rfl) (of_decide_eq_true (by kernel_rfl)) k0 hb (fun x hx => hlt x (by simp [hx])) sp (fun x hx => hsp x (by simp [hx])))
    (stays (by kernel_rfl) (of_decide_eq_true (by kernel_rfl)) k1 hb (fun x hx => hlt x (by simp [hx])) sp (fun x hx => hsp x (by simp [hx])))
    (shut_int Tryz.underlying3 wk) (Go.ChangeMaps.shut_string Tryz.underlying9 ws)) (fun _ _ => rfl) (by simp) hb (ok_one (by kernel_rfl) rfl (okWide_bool_mk Tryz.underlying4 _))⟩

set_option maxRecDepth 100000 in
theorem lifted (os : Os) (started : os.Started) (H : Type) (enc : TypeId × Value → H) (F : Stop.Interp) :
    ReturnsInHanded {} Tryz.checked os 4 .any ((OpenSpec.ofChange Rows.eventValidSpec).preRow enc Tryz.prog Tryz.f4 Rows.eventValidRow.domain false Rows.eventValidRow.laid) (((OpenSpec.ofChange Rows.eventValidSpec).at F).post enc Tryz.prog Tryz.f4 false true false false) := by
  obtain ⟨places, hx⟩ := reads os enc
  refine returnsInHanded_of_row (C := Tryz.checked) (s := OpenSpec.ofChange Rows.eventValidSpec) own started (by kernel_rfl) Tryz.func4
    (witness_row_atRef (enc := enc) (C := Tryz.checked) false (laidWorld os) wArgs rfl (by kernel_rfl) (by kernel_rfl) (by kernel_rfl)
      (OpenSpec.preRow_of_cond 8 hx (by kernel_rfl) (fun k hk => by cases hk) (by kernel_rfl) (laid_met os _))) ?_
  intro W base args ds gs before hval hW _ _ _ hL _ _
  exact contract H enc W base args ds gs before hval hW (glob_of (laid := Rows.eventValidRow.laid) hL (.tail _ (.head _))) (errs_of hL)

theorem said : Rows.EventValidSaid :=
  OpenClaim.holds_of_cond 4 Tryz.f4 rfl rfl rfl rfl rfl rfl rfl ⟨rfl, rfl, rfl, rfl, rfl⟩ rfl rfl rfl rfl rfl (by kernel_rfl) Tryz.func4 (by kernel_rfl)
    (of_decide_eq_true (by kernel_rfl)) (by unfold Func.isWrapper; first | (rw [if_pos (by decide +kernel)]; kernel_rfl) | (rw [if_neg (by decide +kernel)]; exact ⟨rfl, rfl⟩))
    (fun os started H enc _ F => by rw [OpenClaim.pre_eq_preRow]; exact lifted os started H enc F)

theorem plain (f : FuncId) (fn : Func) (hf : Tryz.pinned.checked.prog.funcNamed "keyevent/keyeventlaw14.EventValid" = some f) (hfn : Tryz.pinned.checked.prog.funcs[f]? = some fn) :
    true = Tryz.pinned.checked.prog.looks [] ∧ ∀ (j : Nat) t, fn.params[j]? = some t → Tryz.pinned.checked.prog.wantsStandIn t = false := by
  obtain rfl : f = 4 := Option.some.inj ((show Tryz.prog.funcNamed "keyevent/keyeventlaw14.EventValid" = some 4 by kernel_rfl).symm.trans hf) |>.symm
  obtain rfl : fn = Tryz.f4 := (Option.some.inj (Tryz.func4.symm.trans hfn)).symm
  refine ⟨by kernel_rfl, fun j t ht => ?_⟩
  rw [Tryz.params4] at ht
  have h4 : t = 28 ∨ t = 35 ∨ t = 3 ∨ t = 9 := by simpa using Array.mem_of_getElem? ht
  rcases h4 with rfl | rfl | rfl | rfl
  · exact (show Tryz.prog.wantsStandIn 28 = false by kernel_rfl)
  · exact (show Tryz.prog.wantsStandIn 35 = false by kernel_rfl)
  · exact (show Tryz.prog.wantsStandIn 3 = false by kernel_rfl)
  · exact (show Tryz.prog.wantsStandIn 9 = false by kernel_rfl)

/-- The card. -/
theorem card : Rows.EventValidCardSaid :=
  Claim7.holds_tied_plain_at .later [] _ _ _ _ said (fun _ h => by cases h) (by kernel_rfl) (fun _ h => by cases h) eventValid_row_tie rfl ⟨rfl, rfl⟩ (by kernel_rfl) rfl plain (by kernel_rfl)

#print axioms card
end Go.Proofs.YtkinlobfdkeamaaGreatDoor.eventValid
