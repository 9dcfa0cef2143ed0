/- The statement's card: 'wayfinder/wayfinderlaw17.AgentRestarts' of the given program answers true at every input: the walk's contract and the plain law joined. -/
import Derived.Test.YtjjmoihpjmojiaaDoorCards
import Derived.Test.YtjjmoihpjmojiaaDoorTie
import Derived.Test.YtjjmoihpjmojiaaDoorE2
import Derived.Test.YtjjmoihpjmojiaaDoorP4
import Derived.WalkKit
import Derived.ProofKit
import Derived.OpenShut
import Derived.Carry
import Derived.Deep.DeepHandedRow
import Derived.Lib.LaidTab
import Derived.ChangeOld
import Derived.JoinedCond
set_option linter.unusedVariables false
set_option linter.unusedSimpArgs false
namespace Go.Proofs.YtjjmoihpjmojiaaDoor.agentRestarts
open Go.ChangeShapes Go.WideShapes Go.ChangeAt Go.RowKit Go.Proofs.YtjjmoihpjmojiaaDoor.D Go.Proofs.YtjjmoihpjmojiaaDoor.X
def wf_Prefix (x : Prefix) : Prop := (fun x : Int => (Lit.int .i64 x).wf = true) x.Addr ∧ (fun x : Int => (Lit.int .i64 x).wf = true) x.Len
theorem opn26 {H : Type} {enc : TypeId × Value → H} {W : World} : Opn H enc Tryd.prog W 26 wf_Prefix c_Prefix := by
  intro cs h
  obtain ⟨hl, hf⟩ := trd_struct Tryd.underlying26 h
  obtain ⟨x0, w0, h0⟩ := (opn_int Tryd.underlying3) _ (hf 0 _ rfl)
  obtain ⟨x1, w1, h1⟩ := (opn_int Tryd.underlying3) _ (hf 1 _ rfl)
  exact ⟨⟨x0, x1⟩, ⟨w0, w1⟩, (AllF.field (o := 0) (o' := 1) h0 (by kernel_rfl) (AllF.field (o := 1) (o' := 2) h1 (by kernel_rfl) (AllF.last (o := 2) (hl.trans (by kernel_rfl)))))⟩
def wf_Action (x : Action) : Prop := (fun x : Int => (Lit.int .i64 x).wf = true) x.Kind ∧ (fun x : Int => (Lit.int .i64 x).wf = true) x.Port
theorem opn28 {H : Type} {enc : TypeId × Value → H} {W : World} : Opn H enc Tryd.prog W 28 wf_Action c_Action := by
  intro cs h
  obtain ⟨hl, hf⟩ := trd_struct Tryd.underlying28 h
  obtain ⟨x0, w0, h0⟩ := (opn_int Tryd.underlying3) _ (hf 0 _ rfl)
  obtain ⟨x1, w1, h1⟩ := (opn_int Tryd.underlying3) _ (hf 1 _ rfl)
  exact ⟨⟨x0, x1⟩, ⟨w0, w1⟩, (AllF.field (o := 0) (o' := 1) h0 (by kernel_rfl) (AllF.field (o := 1) (o' := 2) h1 (by kernel_rfl) (AllF.last (o := 2) (hl.trans (by kernel_rfl)))))⟩
def wf_Rule (x : Rule) : Prop := wf_Prefix x.P ∧ (fun x : Int => (Lit.int .i64 x).wf = true) x.In ∧ (fun x : Int => (Lit.int .i64 x).wf = true) x.Prio ∧ wf_Action x.Act
theorem opn30 {H : Type} {enc : TypeId × Value → H} {W : World} : Opn H enc Tryd.prog W 30 wf_Rule c_Rule := by
  intro cs h
  obtain ⟨hl, hf⟩ := trd_struct Tryd.underlying30 h
  obtain ⟨x0, w0, h0⟩ := opn26 _ (hf 0 _ rfl)
  obtain ⟨x1, w1, h1⟩ := (opn_int Tryd.underlying3) _ (hf 1 _ rfl)
  obtain ⟨x2, w2, h2⟩ := (opn_int Tryd.underlying3) _ (hf 2 _ rfl)
  obtain ⟨x3, w3, h3⟩ := opn28 _ (hf 3 _ rfl)
  exact ⟨⟨x0, x1, x2, x3⟩, ⟨w0, w1, w2, w3⟩, (AllF.field (o := 0) (o' := 2) h0 (by kernel_rfl) (AllF.field (o := 2) (o' := 3) h1 (by kernel_rfl) (AllF.field (o := 3) (o' := 4) h2 (by kernel_rfl) (AllF.field (o := 4) (o' := 6) h3 (by kernel_rfl) (AllF.last (o := 6) (hl.trans (by kernel_rfl)))))))⟩
def wf_Ver (x : Ver) : Prop := (fun x : Int => (Lit.int .i64 x).wf = true) x.Tag ∧ (fun l : List Rule => (∀ x ∈ l, wf_Rule x) ∧ l.length ≤ maxLen) x.L
theorem opn58 {H : Type} {enc : TypeId × Value → H} {W : World} : Opn H enc Tryd.prog W 58 wf_Ver c_Ver := by
  intro cs h
  obtain ⟨hl, hf⟩ := trd_struct Tryd.underlying58 h
  obtain ⟨x0, w0, h0⟩ := (opn_int Tryd.underlying3) _ (hf 0 _ rfl)
  obtain ⟨x1, w1, h1⟩ := (opn_slice Tryd.underlying56 (sz := 6) (by kernel_rfl) (by decide) opn30) _ (hf 1 _ rfl)
  exact ⟨⟨x0, x1⟩, ⟨w0, w1⟩, (AllF.field (o := 0) (o' := 1) h0 (by kernel_rfl) (AllF.field (o := 1) (o' := 2) h1 (by kernel_rfl) (AllF.last (o := 2) (hl.trans (by kernel_rfl)))))⟩
def wf_Switch (x : Switch) : Prop := (fun x : Int => (Lit.int .i64 x).wf = true) x.Epoch ∧ (fun x : Int => (Lit.int .i64 x).wf = true) x.Seen ∧ (fun _ : Bool => True) x.Open ∧ (fun x : Int => (Lit.int .i64 x).wf = true) x.Stamp ∧ (fun x : Int => (Lit.int .i64 x).wf = true) x.Bad ∧ (fun l : List Ver => (∀ x ∈ l, wf_Ver x) ∧ l.length ≤ maxLen) x.L ∧ (fun x : Int => (Lit.int .i64 x).wf = true) x.Junk
theorem opn24 {H : Type} {enc : TypeId × Value → H} {W : World} : Opn H enc Tryd.prog W 24 wf_Switch c_Switch := by
  intro cs h
  obtain ⟨hl, hf⟩ := trd_struct Tryd.underlying24 h
  obtain ⟨x0, w0, h0⟩ := (opn_int Tryd.underlying3) _ (hf 0 _ rfl)
  obtain ⟨x1, w1, h1⟩ := (opn_int Tryd.underlying3) _ (hf 1 _ rfl)
  obtain ⟨x2, w2, h2⟩ := (opn_bool Tryd.underlying4) _ (hf 2 _ rfl)
  obtain ⟨x3, w3, h3⟩ := (opn_int Tryd.underlying3) _ (hf 3 _ rfl)
  obtain ⟨x4, w4, h4⟩ := (opn_int Tryd.underlying3) _ (hf 4 _ rfl)
  obtain ⟨x5, w5, h5⟩ := (opn_slice Tryd.underlying22 (sz := 2) (by kernel_rfl) (by decide) opn58) _ (hf 5 _ rfl)
  obtain ⟨x6, w6, h6⟩ := (opn_int Tryd.underlying3) _ (hf 6 _ rfl)
  exact ⟨⟨x0, x1, x2, x3, x4, x5, x6⟩, ⟨w0, w1, w2, w3, w4, w5, w6⟩, (AllF.field (o := 0) (o' := 1) h0 (by kernel_rfl) (AllF.field (o := 1) (o' := 2) h1 (by kernel_rfl) (AllF.field (o := 2) (o' := 3) h2 (by kernel_rfl) (AllF.field (o := 3) (o' := 4) h3 (by kernel_rfl) (AllF.field (o := 4) (o' := 5) h4 (by kernel_rfl) (AllF.field (o := 5) (o' := 6) h5 (by kernel_rfl) (AllF.field (o := 6) (o' := 7) h6 (by kernel_rfl) (AllF.last (o := 7) (hl.trans (by kernel_rfl))))))))))⟩
def wf_Msg (x : Msg) : Prop := (fun x : Int => (Lit.int .i64 x).wf = true) x.Kind ∧ (fun x : Int => (Lit.int .i64 x).wf = true) x.Epoch ∧ (fun x : Int => (Lit.int .i64 x).wf = true) x.Seq ∧ (fun x : Int => (Lit.int .i64 x).wf = true) x.Tag ∧ wf_Rule x.R
theorem opn32 {H : Type} {enc : TypeId × Value → H} {W : World} : Opn H enc Tryd.prog W 32 wf_Msg c_Msg := by
  intro cs h
  obtain ⟨hl, hf⟩ := trd_struct Tryd.underlying32 h
  obtain ⟨x0, w0, h0⟩ := (opn_int Tryd.underlying3) _ (hf 0 _ rfl)
  obtain ⟨x1, w1, h1⟩ := (opn_int Tryd.underlying3) _ (hf 1 _ rfl)
  obtain ⟨x2, w2, h2⟩ := (opn_int Tryd.underlying3) _ (hf 2 _ rfl)
  obtain ⟨x3, w3, h3⟩ := (opn_int Tryd.underlying3) _ (hf 3 _ rfl)
  obtain ⟨x4, w4, h4⟩ := opn30 _ (hf 4 _ rfl)
  exact ⟨⟨x0, x1, x2, x3, x4⟩, ⟨w0, w1, w2, w3, w4⟩, (AllF.field (o := 0) (o' := 1) h0 (by kernel_rfl) (AllF.field (o := 1) (o' := 2) h1 (by kernel_rfl) (AllF.field (o := 2) (o' := 3) h2 (by kernel_rfl) (AllF.field (o := 3) (o' := 4) h3 (by kernel_rfl) (AllF.field (o := 4) (o' := 10) h4 (by kernel_rfl) (AllF.last (o := 10) (hl.trans (by kernel_rfl))))))))⟩
theorem own : ownKnob Tryd.prog.godebug = none := by kernel_rfl
theorem laidOut : laidOutB Tryd.prog = true := by kernel_rfl
/-- What the listed variable holds. -/
theorem glob {W : World} (h : laidMetH Tryd.prog Rows.agentRestartsRow.laid W) : ∀ p ∈ Gam, Blk W p.1 ∧ ∃ u : Nat → Nat → Value, ∀ (i : Nat) (c : List DV), p.2.2[i]? = some c → c.length = p.2.1 ∧ ∀ (j : Nat) (d : DV), c[j]? = some d → W.cell? ⟨p.1, i * p.2.1 + j, none⟩ = some (u i j) ∧ FR (Blk W) W (u i j) d := by
  intro p hp
  obtain rfl : p = (0, 5, kindsD) := by simpa [Gam] using hp
  exact gl_laid (vss := [[.int .i64 0, .int .i64 0, .int .i64 0, .int .i64 0, .bool false], [.int .i64 0, .int .i64 1048576, .int .i64 0, .int .i64 4095, .bool false], [.int .i64 1, .int .i64 1048576, .int .i64 1, .int .i64 4095, .bool true], [.int .i64 1, .int .i64 1048576, .int .i64 1, .int .i64 4095, .bool false], [.int .i64 1, .int .i64 1048576, .int .i64 1, .int .i64 4095, .bool false], [.int .i64 1, .int .i64 1048576, .int .i64 0, .int .i64 0, .bool false]]) rfl (by kernel_rfl) (by kernel_rfl) h (fun enc => flt_array Tryd.underlying149 (by kernel_rfl) (flt_struct Tryd.underlying148 (by kernel_rfl) (by
    intro f hf
    simp only [List.mem_cons, List.not_mem_nil, or_false] at hf
    rcases hf with rfl | rfl | rfl
    · exact flt_struct Tryd.underlying146 (by kernel_rfl) (by
        intro f hf
        simp only [List.mem_cons, List.not_mem_nil, or_false] at hf
        rcases hf with rfl | rfl
        · exact flt_int Tryd.underlying3
        · exact flt_int Tryd.underlying3)
    · exact flt_struct Tryd.underlying146 (by kernel_rfl) (by
        intro f hf
        simp only [List.mem_cons, List.not_mem_nil, or_false] at hf
        rcases hf with rfl | rfl
        · exact flt_int Tryd.underlying3
        · exact flt_int Tryd.underlying3)
    · exact flt_bool Tryd.underlying4))) (by kernel_rfl) (by kernel_rfl) (by kernel_rfl) (by decide)
set_option maxRecDepth 100000 in
/-- What the walk gives, for every argument and every world that holds the list. -/
theorem contract (H : Type) (enc : TypeId × Value → H) (W : World) (base : Nat) (args : Array Value) (ds gs : List (DataW H)) (before : List MemPlace)
    (hval0 : ∀ (j : Nat) t v, Tryd.f3.params[j]? = some t → args[j]? = some v → Value.okWide Tryd.prog W .any base t v)
    (hW : DataW.Whole enc Tryd.prog Tryd.f3.params.toList Rows.agentRestartsSpec.vars false W args.toList ds gs before) (hL : laidMetH Tryd.prog Rows.agentRestartsRow.laid W) :
    Calls Tryd.prog 3 args W fun e W' => ∃ v, e = .returned v ∧ Rows.agentRestartsSpec.post enc Tryd.prog Tryd.f3 false true false false W args v W' := by
  have hval : ∀ (j : Nat) t v, Tryd.f3.params[j]? = some t → args[j]? = some v → Value.okWide Tryd.prog W .any base t v := hval0
  have hW' := hW
  obtain ⟨p, q, hA0, hV, rfl, hfz, hnd⟩ := hW
  have hA : DataW.TrodAll enc Tryd.prog W 0 (fun _ => true) true Tryd.f3.params.toList args.toList ds p := hA0
  rw [Tryd.params3] at hA hval
  obtain ⟨v0, vs0, d0, ds0, p0, q0, hargs, rfl, rfl, h0, r0⟩ := trodAll_cons hA
  obtain ⟨v1, vs1, d1, ds1, p1, q1, rfl, rfl, rfl, h1, r1⟩ := trodAll_cons r0
  obtain ⟨rfl, rfl, rfl⟩ := trodAll_nil r1
  obtain rfl : args = #[v0, v1] := by cases args; simp_all
  obtain ⟨rfl, rfl⟩ := trodVars_none hV
  have lt0 : ∀ x ∈ p0, x.block < W.heap.size := by obtain ⟨m, hm⟩ := h0; exact DataW.trod_lt m _ _ _ hm
  obtain ⟨cs0, rfl, _, _⟩ : ∃ cs, v0 = .agg cs ∧ cs.size = Tryd.prog.cellsOf 24 ∧ Row.okWide Tryd.prog W .any base 24 cs := by
    have hv := hval 0 24 v0 rfl rfl
    unfold Value.okWide at hv
    rw [Tryd.underlying24] at hv
    exact hv
  obtain ⟨a0, w0, o0⟩ := opn24 (H := H) (enc := enc) (W := W) cs0.toList (by obtain ⟨m, hm⟩ := h0; exact ⟨m, _, hm⟩)
  have lt1 : ∀ x ∈ p1, x.block < W.heap.size := by obtain ⟨m, hm⟩ := h1; exact DataW.trod_lt m _ _ _ hm
  obtain ⟨cs1, rfl, _, _⟩ : ∃ cs, v1 = .agg cs ∧ cs.size = Tryd.prog.cellsOf 32 ∧ Row.okWide Tryd.prog W .any base 32 cs := by
    have hv := hval 1 32 v1 rfl rfl
    unfold Value.okWide at hv
    rw [Tryd.underlying32] at hv
    exact hv
  obtain ⟨a1, w1, o1⟩ := opn32 (H := H) (enc := enc) (W := W) cs1.toList (by obtain ⟨m, hm⟩ := h1; exact ⟨m, _, hm⟩)
  have hcon := wayfinderlaw17_AgentRestarts.ok a0 a1 _ (agentRestarts_pure a0 a1 w0.2.2.2.2.2.1.2)
  refine (hcon W [.agg cs0, .agg cs1] nm0 (fun _ => False) (ok0 (glob hL)) ⟨DR.of_agg o0 fz0, DR.of_agg o1 fz0, trivial⟩).mono fun e W' he => ?_
  obtain ⟨rfl, bel⟩ := ends_below rfl he
  exact ⟨_, rfl, _, _, _, [], _, [], hW', trodAll_mk1 (shut_bool Tryd.underlying4 _), (trodAll_cons_mk (Below.trod laidOut (by kernel_rfl) (of_decide_eq_true (by kernel_rfl)) h0 bel lt0) (trodAll_cons_mk (Below.trod laidOut (by kernel_rfl) (of_decide_eq_true (by kernel_rfl)) h1 bel lt1) trodAll_mk0)), rfl, bel.frame _, fun h => by cases h⟩
/-- A world for the witness: the one that the program's own first steps leave. -/
noncomputable def laidWorld (os : Os) : World := World.doorLaid Tryd.prog 400 os
theorem laid_met (os : Os) : laidMet Tryd.prog Rows.agentRestartsRow.laid ((laidWorld os).forCall (fun _ _ => 0) ⟨#[], #[.agg #[.int .i64 0, .int .i64 0, .bool false, .int .i64 0, .int .i64 0, .slice none 0 0, .int .i64 0], .agg #[.int .i64 0, .int .i64 0, .int .i64 0, .int .i64 0, .int .i64 0, .int .i64 0, .int .i64 0, .int .i64 0, .int .i64 0, .int .i64 0]], []⟩).memory :=
  laidMet_of_run' 8 (by kernel_rfl) (by kernel_rfl)
theorem reads (os : Os) {H : Type} (enc : TypeId × Value → H) : ∃ places, DataW.whole enc Tryd.prog ((laidWorld os).forCall (fun _ _ => 0) ⟨#[], #[.agg #[.int .i64 0, .int .i64 0, .bool false, .int .i64 0, .int .i64 0, .slice none 0 0, .int .i64 0], .agg #[.int .i64 0, .int .i64 0, .int .i64 0, .int .i64 0, .int .i64 0, .int .i64 0, .int .i64 0, .int .i64 0, .int .i64 0, .int .i64 0]], []⟩).memory Tryd.f3.params.toList Rows.agentRestartsSpec.vars false (#[.agg #[.int .i64 0, .int .i64 0, .bool false, .int .i64 0, .int .i64 0, .slice none 0 0, .int .i64 0], .agg #[.int .i64 0, .int .i64 0, .int .i64 0, .int .i64 0, .int .i64 0, .int .i64 0, .int .i64 0, .int .i64 0, .int .i64 0, .int .i64 0]] : Array Value).toList 8 = some ([.agg [.lit (.int .i64 0), .lit (.int .i64 0), .lit (.bool false), .lit (.int .i64 0), .lit (.int .i64 0), .nil, .lit (.int .i64 0)], .agg [.lit (.int .i64 0), .lit (.int .i64 0), .lit (.int .i64 0), .lit (.int .i64 0), .agg [.agg [.lit (.int .i64 0), .lit (.int .i64 0)], .lit (.int .i64 0), .lit (.int .i64 0), .agg [.lit (.int .i64 0), .lit (.int .i64 0)]]]], [], places) :=
  ⟨[], by kernel_rfl⟩
set_option maxRecDepth 100000 in
theorem lifted (os : Os) (started : os.Started) (H : Type) (enc : TypeId × Value → H) (F : Stop.Interp) :
    ReturnsInHanded {} Tryd.checked os 3 .any ((OpenSpec.ofChange Rows.agentRestartsSpec).preRow enc Tryd.prog Tryd.f3 Rows.agentRestartsRow.domain false Rows.agentRestartsRow.laid) (((OpenSpec.ofChange Rows.agentRestartsSpec).at F).post enc Tryd.prog Tryd.f3 false true false false) := by
  obtain ⟨x, hx⟩ := reads os enc
  refine returnsInHanded_of_row (C := Tryd.checked) (s := (OpenSpec.ofChange Rows.agentRestartsSpec)) own started (by kernel_rfl) Tryd.func3
    (witness_row_at (enc := enc) (C := Tryd.checked) false (laidWorld os) #[.agg #[.int .i64 0, .int .i64 0, .bool false, .int .i64 0, .int .i64 0, .slice none 0 0, .int .i64 0], .agg #[.int .i64 0, .int .i64 0, .int .i64 0, .int .i64 0, .int .i64 0, .int .i64 0, .int .i64 0, .int .i64 0, .int .i64 0, .int .i64 0]] rfl (by kernel_rfl) (by kernel_rfl) (by kernel_rfl)
      (OpenSpec.preRow_of_cond 8 hx (by kernel_rfl) (fun k hk => by cases hk) (by kernel_rfl) (laid_met os))) ?_
  intro W base args ds gs before hval hW hcond _ _ hL _ _
  exact contract H enc W base args ds gs before hval hW hL
theorem said : Rows.AgentRestartsSaid :=
  OpenClaim.holds_of_cond 3 Tryd.f3 rfl rfl rfl rfl rfl rfl rfl ⟨rfl, rfl, rfl, rfl, rfl⟩ rfl rfl rfl rfl rfl (by kernel_rfl) Tryd.func3 (by kernel_rfl)
    (of_decide_eq_true (by kernel_rfl)) (by unfold Func.isWrapper; first | (rw [if_pos (by decide +kernel)]; kernel_rfl) | (rw [if_neg (by decide +kernel)]; exact ⟨rfl, rfl⟩))
    (fun os started H enc _ F => by rw [OpenClaim.pre_eq_preRow]; exact lifted os started H enc F)
/-- No parameter wants a stand-in; the program's own looks are off. -/
theorem plain (f : FuncId) (fn : Func) (hf : Tryd.pinned.checked.prog.funcNamed "wayfinder/wayfinderlaw17.AgentRestarts" = some f) (hfn : Tryd.pinned.checked.prog.funcs[f]? = some fn) :
    false = Tryd.pinned.checked.prog.looks [] ∧ ∀ (j : Nat) t, fn.params[j]? = some t → Tryd.pinned.checked.prog.wantsStandIn t = false := by
  obtain rfl : f = 3 := Option.some.inj ((show Tryd.prog.funcNamed "wayfinder/wayfinderlaw17.AgentRestarts" = some 3 by kernel_rfl).symm.trans hf) |>.symm
  obtain rfl : fn = Tryd.f3 := (Option.some.inj (Tryd.func3.symm.trans hfn)).symm
  refine ⟨by kernel_rfl, fun j t ht => ?_⟩
  rw [Tryd.params3] at ht
  have hm := Array.mem_of_getElem? ht
  simp only [List.mem_toArray, List.mem_cons, List.not_mem_nil, or_false] at hm
  rcases hm with rfl | rfl
  · exact (show Tryd.prog.wantsStandIn 24 = false by kernel_rfl)
  · exact (show Tryd.prog.wantsStandIn 32 = false by kernel_rfl)
theorem card : Rows.AgentRestartsCardSaid :=
  Claim7.holds_tied_plain_at .later [] _ _ _ _ said (fun _ h => by cases h) (by kernel_rfl) (fun _ h => by cases h) agentRestarts_row_tie rfl ⟨rfl, rfl⟩ (by kernel_rfl) rfl plain (by kernel_rfl)
end Go.Proofs.YtjjmoihpjmojiaaDoor.agentRestarts
namespace Go.Proofs.YtjjmoihpjmojiaaDoor
/-- The card, under a short name. -/
theorem agentRestarts_card : Rows.AgentRestartsCardSaid := agentRestarts.card
#print axioms agentRestarts_card
end Go.Proofs.YtjjmoihpjmojiaaDoor
