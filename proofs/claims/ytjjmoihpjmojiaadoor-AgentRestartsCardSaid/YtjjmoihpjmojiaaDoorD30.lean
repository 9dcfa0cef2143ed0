/- One object made out of others in a drawn region; rounds walked one by one; maps with whole numbers as keys. -/
import Derived.Test.YtjjmoihpjmojiaaDoorD29
import Derived.Laws.NewFold
set_option linter.unusedVariables false
set_option linter.unusedSimpArgs false
namespace Go.Proofs.YtjjmoihpjmojiaaDoor.D
open Go.RowKit

def setB (w : World) (b : Nat) (o : Obj) : World := { w with heap := w.heap.setIfInBounds b o }
def lookI (ik : IntKind) (key : Int) : List (Value × DV) → Option (Option DV)
  | [] => some none
  | (.int k a, d) :: r => bif keq ik k then (if key == a then some (some d) else lookI ik key r) else none
  | _ => none
theorem find_none {kd : IntKind} {ik : IntKind} {key : Int} : ∀ {en : List MapEntry} {es : List (Value × DV)} (i : Nat), en.map (·.key) = es.map (·.1) → lookI ik key es = some none → Instr.findNow (.int kd) (.int ik key) en i = some none
  | [], [], _, _, _ => rfl
  | [], _ :: _, _, h, _ => by simp at h
  | _ :: _, [], _, h, _ => by simp at h
  | e :: en, (v, d) :: es, i, h, hl => by
    simp only [List.map_cons, List.cons.injEq] at h
    unfold lookI at hl
    split at hl
    · rename_i heq; cases heq
    · rename_i k a d' r heq
      simp only [List.cons.injEq, Prod.mk.injEq] at heq
      obtain ⟨⟨rfl, rfl⟩, rfl⟩ := heq
      cases hk : keq ik k with
      | false => rw [hk] at hl; cases hl
      | true =>
        rw [hk] at hl
        have := keq_eq hk
        subst this
        simp only [cond_true] at hl
        cases hb : key == a with
        | true => rw [hb] at hl; cases hl
        | false =>
          rw [hb] at hl
          simp only [Bool.false_eq_true, if_false] at hl
          unfold Instr.findNow
          rw [h.1]
          simp only [Instr.sameNow, if_true, hb]
          exact find_none (i + 1) h.2 hl
    · cases hl
theorem find_some {kd : IntKind} {ik : IntKind} {key : Int} {d : DV} : ∀ {en : List MapEntry} {es : List (Value × DV)} (i : Nat), en.map (·.key) = es.map (·.1) → lookI ik key es = some (some d) → ∃ (j : Nat) (e : MapEntry) (p : Value × DV), Instr.findNow (.int kd) (.int ik key) en i = some (some (i + j, e.val)) ∧ en[j]? = some e ∧ es[j]? = some p ∧ p.2 = d
  | _, [], _, _, hl => by cases hl
  | [], _ :: _, _, h, _ => by simp at h
  | e :: en, (v, d0) :: es, i, h, hl => by
    simp only [List.map_cons, List.cons.injEq] at h
    unfold lookI at hl
    split at hl
    · rename_i heq; cases heq
    · rename_i k a d' r heq
      simp only [List.cons.injEq, Prod.mk.injEq] at heq
      obtain ⟨⟨rfl, rfl⟩, rfl⟩ := heq
      cases hk : keq ik k with
      | false => rw [hk] at hl; cases hl
      | true =>
        rw [hk] at hl
        have := keq_eq hk
        subst this
        simp only [cond_true] at hl
        cases hb : key == a with
        | true =>
          rw [hb] at hl
          simp only [if_true, Option.some.injEq] at hl
          subst hl
          refine ⟨0, e, _, ?_, rfl, rfl, rfl⟩
          unfold Instr.findNow
          rw [h.1]
          simp only [Instr.sameNow, if_true, hb, Nat.add_zero]
        | false =>
          rw [hb] at hl
          simp only [Bool.false_eq_true, if_false] at hl
          obtain ⟨j, e', p, h1, h2, h3, h4⟩ := find_some (i + 1) h.2 hl
          refine ⟨j + 1, e', p, ?_, by simpa using h2, by simpa using h3, h4⟩
          unfold Instr.findNow
          rw [h.1]
          simp only [Instr.sameNow, if_true, hb]
          rw [h1]
          congr 3
          omega
    · cases hl
section
variable {P : Program} {τ : List (Nat × TR)} {n : Nat} {σ σ' : Sl} {H H' H0 H1 HL HR Hn Hn' : Hp} {C : Cx} {ν ν' : Nm} {ι : Nat → Value} {F F' : Nat → Prop} {w w' W : World} {a : Act} {l rest ops : List Oper} {Q : Exit → Act → World → Prop} {o : Oper} {d s j : Nat} {u b : Bool} {A : Nat → Prop} {x r : DV} {g gd : Gd} {f : OpF} {c : Code}
/-- One object made, some used up. -/
theorem p_one {q : Nat} {en : En} (con : List Nat) (hb : provB Hn ((q, en) :: unpick con Hn) [(q, en)] con x = true) (hc : (con.all fun c => inN c (rids Hn)) = true)
    (he : ∀ (w : World) (a : Act) (ν : Nm) (X : Nat → Prop), Ok ν Hn ⟨w, lentL ν Hn, X⟩ w → Fr ν.v (Fz ν Hn ⟨w, lentL ν Hn, X⟩ w) w n σ a → Gd.on a g → Eff P o a w ν Hn ⟨w, lentL ν Hn, X⟩ (but q) ((q, en) :: unpick con Hn) x) : Prov P l n C σ Hn o g ⟨some (d, gd, x), con, [(q, en)]⟩ := by
  refine p_of (f := ⟨some (d, gd, x), con, [(q, en)]⟩) (Hn' := (q, en) :: unpick con Hn) hb (fun s hs => by injection hs with hs; rw [← hs]) (fun e => ?_) (fun c hc' => inN_mem.1 (List.all_eq_true.1 hc c hc')) (fun w a ν X hO hF hg => (he w a ν X hO hF hg).sub (fun s hs => by simpa [rids, but] using hs))
  simp only [List.mem_cons, List.not_mem_nil, or_false]
  constructor
  · rintro (h | h)
    · exact .inl h
    · exact .inr (mem_unpick h)
  · rintro (h | ⟨h1, h2⟩)
    · exact .inl h
    · refine .inr ?_
      unfold unpick
      rw [List.mem_filter]
      exact ⟨h1, by rw [not_any h2]; rfl⟩
/-! ### Rounds one by one -/
def LP (P : Program) (c : Code) (Q : Exit → Act → World → Prop) (a : Act) (w : World) : Prop :=
  ∀ (b : Frame) (k : List Item) (cs : List Frame), ∃ e a' w', Q e a' w' ∧ Arrives P (lone (b.at a (.code c :: .inLoop c :: k)) cs w) b k cs e a' w'
theorem k_unroll0 (h : LP P c Q a w) : (Code.loop c).wp P Q a w := fun b k cs => by
  obtain ⟨e, a', w', hq, harr⟩ := h b k cs
  exact ⟨e, a', w', hq, .of_steps (.one step_loop) harr⟩
theorem k_unroll (h : c.wp P (Exit.then (fun a w => LP P c Q a w) Q) a w) : LP P c Q a w := fun b k cs => by
  obtain ⟨e, a₁, w₁, hq, harr⟩ := h b (.inLoop c :: k) cs
  cases e with
  | normal =>
    obtain ⟨e₂, a₂, w₂, hq₂, harr₂⟩ := hq b k cs
    exact ⟨e₂, a₂, w₂, hq₂, .of_steps (Steps.trans harr (.one step_inLoop)) harr₂⟩
  | exit id => exact ⟨_, a₁, w₁, hq, .pass (x := .inLoop c) rfl (fun _ _ => .inl (by simp)) harr⟩
  | goto l => exact ⟨_, a₁, w₁, hq, .pass (x := .inLoop c) rfl (fun _ _ => .inl (by simp)) harr⟩
  | ret => exact ⟨_, a₁, w₁, hq, .pass (x := .inLoop c) rfl (fun _ _ => .inl (by simp)) harr⟩
  | panic ch => exact ⟨_, a₁, w₁, hq, .pass (x := .inLoop c) rfl (fun _ _ => .inl (by simp)) harr⟩
  | outgrown => exact ⟨_, a₁, w₁, hq, .pass (x := .inLoop c) rfl (fun _ _ => .inl (by simp)) harr⟩
/-! ### Maps -/
def isMkMap : Op → Bool
  | .makeMap _ none => true
  | _ => false
theorem e_mkmap {r' : Nat} (hO : Ok ν H C w) (hp : isMkMap o.op = true) (hr : fresh C H r' = true) : Eff P o a w ν H C (but r') ((r', .mp []) :: H) (.own r') := by
  unfold isMkMap at hp
  split at hp
  · rename_i t ho
    have hrun : (execOp a.eval o).run P w = .ok (.value (.map (some w.heap.size))) (w.alloc (.map #[] 0)) := by
      unfold execOp
      simp only [ho]
      refine run_val ?_
      unfold Instr.makeMap
      simp only [Option.map_none, Sem.run_bind, run_newObj_alloc, Result.andThen_ok, Sem.run_pure]
    have hnew := hO.new (w' := w.alloc (.map #[] 0)) r' (.map (some w.heap.size)) (fun k => k = w.heap.size) (.mp []) hr (Below.alloc (Below.refl _ _) (Nat.le_refl _) _) (fun k hk => ⟨by omega, by simp; omega⟩) (fun F hF hF' =>
      ⟨w.heap.size, #[], 0, upd_v, heap_alloc_new w _, by rw [upd_S], rfl, fun j e p hj => by simp at hj⟩)
    refine .of_run hrun ⟨_, fun s hs => upd_v_ne hs, hnew.1, hnew.2, ?_⟩
    have := DR.own (ι := (upd ν r' (.map (some w.heap.size)) (fun k => k = w.heap.size)).v) (F := Fz (upd ν r' (.map (some w.heap.size)) (fun k => k = w.heap.size)) ((r', .mp []) :: H) C (w.alloc (.map #[] 0))) (w := w.alloc (.map #[] 0)) r' (by rw [upd_v]; rfl)
    rwa [upd_v] at this
  · cases hp
def MapT (P : Program) (t kt et : Nat) (kd : IntKind) : Prop := P.underlying t = some (.map kt et) ∧ P.underlying kt = some (.int kd)
theorem run_checkKey {kt : Nat} {kd ik : IntKind} {key : Int} {em : Bool} (hk : P.underlying kt = some (.int kd)) (w : World) : (Instr.checkKey em 10000 kt (.int ik key)).run P w = .ok () w := by
  show (Instr.checkKey em (9999 + 1) kt (.int ik key)).run P w = _
  unfold Instr.checkKey
  simp only [Sem.run_bind, run_underlying hk, Result.andThen_ok, Sem.run_pure]
theorem run_findKey {kt : Nat} {kd ik : IntKind} {key : Int} {en : List MapEntry} {r0 : Option (Nat × Value)} (hk : P.underlying kt = some (.int kd)) (h : Instr.findNow (.int kd) (.int ik key) en 0 = some r0) (w : World) : (Instr.findKey kt (.int ik key) en).run P w = .ok r0 w := by
  unfold Instr.findKey
  simp only [Sem.run_bind, run_underlying hk, Result.andThen_ok, h, Sem.run_pure]
def isIns (σ : Sl) (g : Gd) (t : Nat) : Op → Option (Nat × IntKind × Int × DV)
  | .insert t' m k v => bif Nat.beq t t' then (match ev σ g m, ev σ g k, ev σ g v with
    | some (.own s), some (.v (.int ik key)), some x => some (s, ik, key, x)
    | _, _, _ => none) else none
  | _ => none
theorem s_ins {t kt et s : Nat} {kd ik : IntKind} {key : Int} {x : DV} {es es' : List (Value × DV)} (hT : MapT P t kt et kd) (h : St n σ H C w a ν) (hw : Region.wanted o (yielded l.toArray a.tmps) = true) (hd : o.dst = none) (hp : isIns σ none t o.op = some (s, ik, key, x)) (hs : hl H s = some (.mp es)) (hl : lookI ik key es = some none) (hes : es ++ [(.int ik key, x)] = es')
    (hK : ∀ a' w' ν', St n σ (setH s (.mp es') H) C w' a' ν' → wpList P l.toArray Q rest a' w') : wpList P l.toArray Q (o :: rest) a w := by
  subst hes
  refine s_eff (x := .any) h hw hd ?_ hK
  have hF := h.f
  have hO := h.o
  unfold isIns at hp
  split at hp
  · rename_i t' m k v ho
    cases hb : Nat.beq t t' with
    | false => rw [hb] at hp; cases hp
    | true =>
      rw [hb] at hp
      simp only [cond_true] at hp
      have := Nat.eq_of_beq_eq_true hb
      subst this
      split at hp
      · rename_i s0 ik0 key0 x0 hm hk hv
        simp only [Option.some.injEq, Prod.mk.injEq] at hp
        obtain ⟨rfl, rfl, rfl, rfl⟩ := hp
        obtain ⟨gg, en, clock, h1, h2, h3, h4, h5⟩ := hO.ent _ (hl_mem hs)
        simp only at h1 h3
        have hmv : a.eval m = .map (some gg) := (own_inv (hF.eval hm trivial)).trans h1
        have hkv := hF.evalv hk trivial
        have hvv := hF.eval hv trivial
        have hlt : gg < w.heap.size := (Array.getElem?_eq_some_iff.1 h2).1
        have hrun : (execOp a.eval o).run P w = .ok .skip (setB w gg (.map (en.push { key := .int ik0 key0, val := a.eval v, born := clock }) (clock + 1))) := by
          unfold execOp
          simp only [ho]
          have h6 : (Instr.mapUpdate t (a.eval m) (a.eval k) (a.eval v)).run P w = .ok () (setB w gg (.map (en.push { key := .int ik0 key0, val := a.eval v, born := clock }) (clock + 1))) := by
            rw [hmv, hkv]
            unfold Instr.mapUpdate
            have hg : (getObj gg).run P w = .ok (.map en clock) w := by simp [getObj, Sem.run, h2]
            have hst : ∀ o', (setObj gg o').run P w = .ok () (setB w gg o') := fun o' => by
              simp [setObj, Sem.run, h2, setB]
            simp only [Sem.run_bind, run_underlying hT.1, Result.andThen_ok, hg, run_checkKey hT.2, run_findKey hT.2 (find_none 0 h4 hl), hst]
          simp [h6]
        have hother : ∀ k', k' ≠ gg → (setB w gg (.map (en.push { key := .int ik0 key0, val := a.eval v, born := clock }) (clock + 1))).heap[k']? = w.heap[k']? := fun k' hk' => by
          simp only [setB]
          exact Array.getElem?_setIfInBounds_ne (Ne.symm hk')
        have hput := hO.put (w' := setB w gg (.map (en.push { key := .int ik0 key0, val := a.eval v, born := clock }) (clock + 1))) (en' := .mp (es ++ [(.int ik0 key0, x0)])) hs rfl rfl rfl (by simp [setB]) (fun k' hk' => hother k' (fun he => hk' (he ▸ h3))) (fun F hFi => by
          have hF2 : ∀ k', Fz ν H C w k' → F k' ∧ (setB w gg (.map (en.push { key := .int ik0 key0, val := a.eval v, born := clock }) (clock + 1))).heap[k']? = w.heap[k']? := fun k' hk' => ⟨(hFi k').2 hk', hother k' (fun he => hk'.2.2 _ (hl_mem hs) (he ▸ h3))⟩
          refine ⟨gg, en.push { key := .int ik0 key0, val := a.eval v, born := clock }, clock + 1, h1, by simp only [setB]; rw [Array.getElem?_setIfInBounds_self_of_lt hlt], h3, by rw [Array.toList_push, List.map_append, List.map_append, h4]; rfl, fun j e p hj hp => ?_⟩
          have hlen : en.toList.length = es.length := by have := congrArg List.length h4; simpa using this
          rw [Array.toList_push] at hj
          by_cases hjl : j < en.toList.length
          · rw [List.getElem?_append_left hjl] at hj
            rw [List.getElem?_append_left (by omega)] at hp
            exact (h5 j e p hj hp).keep hF2
          · rw [List.getElem?_append_right (by omega)] at hj
            rw [List.getElem?_append_right (by omega)] at hp
            rw [← hlen] at hp
            cases hq : j - en.toList.length with
            | zero =>
              rw [hq] at hj hp
              simp only [List.getElem?_cons_zero, Option.some.injEq] at hj hp
              subst hj hp
              exact hvv.keep hF2
            | succ q => rw [hq] at hj; simp at hj)
        exact .of_skip hrun ⟨ν, fun _ _ => rfl, hput.1, hput.2, .any _⟩
      · cases hp
  · cases hp
def isLkp (σ : Sl) (g : Gd) (t : Nat) : Op → Option (Nat × IntKind × Int)
  | .lookup t' m k true => bif Nat.beq t t' then (match ev σ g m, ev σ g k with
    | some (.own s), some (.v (.int ik key)) => some (s, ik, key)
    | _, _ => none) else none
  | _ => none
theorem e_lkp1 {t kt et s : Nat} {kd ik : IntKind} {key : Int} {x : DV} {es : List (Value × DV)} (hT : MapT P t kt et kd) (hF : Fr ν.v (Fz ν H C w) w n σ a) (hO : Ok ν H C w) (hg : Gd.on a g) (hp : isLkp σ g t o.op = some (s, ik, key)) (hs : hl H s = some (.mp es)) (hl : lookI ik key es = some (some x)) : Eff P o a w ν H C every H (.tup [x, .v (.bool true)]) := by
  unfold isLkp at hp
  split at hp
  · rename_i t' m k ho
    cases hb : Nat.beq t t' with
    | false => rw [hb] at hp; cases hp
    | true =>
      rw [hb] at hp
      simp only [cond_true] at hp
      have := Nat.eq_of_beq_eq_true hb
      subst this
      split at hp
      · rename_i s0 ik0 key0 hm hk
        simp only [Option.some.injEq, Prod.mk.injEq] at hp
        obtain ⟨rfl, rfl, rfl⟩ := hp
        obtain ⟨gg, en, clock, h1, h2, h3, h4, h5⟩ := hO.ent _ (hl_mem hs)
        simp only at h1
        have hmv : a.eval m = .map (some gg) := (own_inv (hF.eval hm hg)).trans h1
        have hkv := hF.evalv hk hg
        obtain ⟨j, e, p, h6, h7, h8, h9⟩ := find_some (kd := kd) 0 h4 hl
        refine .of_run (v := .tuple #[e.val, .bool true]) (w' := w) ?_ ⟨ν, fun _ _ => rfl, hO, fun k hk => ⟨hk, rfl⟩, ?_⟩
        · unfold execOp
          simp only [ho]
          refine run_val ?_
          rw [hmv, hkv]
          unfold Instr.lookup
          have hgo : (getObj gg).run P w = .ok (.map en clock) w := by simp [getObj, Sem.run, h2]
          simp only [Sem.run_bind, run_underlying hT.1, Result.andThen_ok, hgo, Sem.run_pure, run_checkKey hT.2, run_findKey hT.2 h6, if_true]
        · have h10 := h5 j e p h7 h8
          rw [h9] at h10
          exact .tup [x, .v (.bool true)] [e.val, .bool true] rfl (fun i u d hu hd => by
            match i with
            | 0 => simp only [List.getElem?_cons_zero, Option.some.injEq] at hu hd; subst hu hd; exact h10
            | 1 => simp only [List.getElem?_cons_succ, List.getElem?_cons_zero, Option.some.injEq] at hu hd; subst hu hd; exact .fr (.v _ rfl)
            | i + 2 => simp at hu)
      · cases hp
  · cases hp
theorem e_lkp0 {t kt et s : Nat} {kd ik : IntKind} {key : Int} {z : Value} {es : List (Value × DV)} (hT : MapT P t kt et kd) (hz : (P.info? et).bind (·.zero) = some z) (hz1 : z.oneCell' = true) (hF : Fr ν.v (Fz ν H C w) w n σ a) (hO : Ok ν H C w) (hg : Gd.on a g) (hp : isLkp σ g t o.op = some (s, ik, key)) (hs : hl H s = some (.mp es)) (hl : lookI ik key es = some none) : Eff P o a w ν H C every H (.tup [.v z, .v (.bool false)]) := by
  unfold isLkp at hp
  split at hp
  · rename_i t' m k ho
    cases hb : Nat.beq t t' with
    | false => rw [hb] at hp; cases hp
    | true =>
      rw [hb] at hp
      simp only [cond_true] at hp
      have := Nat.eq_of_beq_eq_true hb
      subst this
      split at hp
      · rename_i s0 ik0 key0 hm hk
        simp only [Option.some.injEq, Prod.mk.injEq] at hp
        obtain ⟨rfl, rfl, rfl⟩ := hp
        obtain ⟨gg, en, clock, h1, h2, h3, h4, h5⟩ := hO.ent _ (hl_mem hs)
        simp only at h1
        have hmv : a.eval m = .map (some gg) := (own_inv (hF.eval hm hg)).trans h1
        have hkv := hF.evalv hk hg
        obtain ⟨i, hi, hzi⟩ := Option.bind_eq_some_iff.1 hz
        refine .of_run (v := .tuple #[z, .bool false]) (w' := w) ?_ ⟨ν, fun _ _ => rfl, hO, fun k hk => ⟨hk, rfl⟩, ?_⟩
        · unfold execOp
          simp only [ho]
          refine run_val ?_
          rw [hmv, hkv]
          unfold Instr.lookup
          have hgo : (getObj gg).run P w = .ok (.map en clock) w := by simp [getObj, Sem.run, h2]
          have hzr : (zeroValue et).run P w = .ok z w := by simp [zeroValue, typeInfo, hi, hzi]
          simp only [Sem.run_bind, run_underlying hT.1, Result.andThen_ok, hgo, Sem.run_pure, run_checkKey hT.2, run_findKey hT.2 (find_none 0 h4 hl), hzr, if_true]
        · exact .tup [.v z, .v (.bool false)] [z, .bool false] rfl (fun i u d hu hd => by
            match i with
            | 0 => simp only [List.getElem?_cons_zero, Option.some.injEq] at hu hd; subst hu hd; exact .fr (.v _ hz1)
            | 1 => simp only [List.getElem?_cons_succ, List.getElem?_cons_zero, Option.some.injEq] at hu hd; subst hu hd; exact .fr (.v _ rfl)
            | i + 2 => simp at hu)
      · cases hp
  · cases hp
theorem e_lit2 {e' sz len' : Nat} {q' : TR} {ds' : List DV} {cs : List (List DV)} {z : List Value} {es : List (List DV)} (r' : Nat) (con : List Nat) (hτ : Tab P τ) (hF : Fr ν.v (Fz ν H C w) w n σ a) (hO : Ok ν H C w) (hg : Gd.on a g) (hp : isLit τ σ g o.op = some (e', q', ds', len')) (hz : q'.z = some z) (hsz : q'.sz = sz) (hzl : z.length = sz) (h0 : 0 < sz) (hcs : cellsAll ds' = some cs) (hk : litOk H sz len' ds' cs = true) (hr : fresh C H r' = true) (hes : absm H cs = es) (hcon : owns (flat cs) = con) :
    Eff P o a w ν H C (but r') ((r', .row e' sz es) :: unpick con H) (.own r') := by
  subst hes hcon
  exact e_lit r' hτ hF hO hg hp hz hsz hzl h0 hcs hk hr
theorem nt_ {b : Bool} (h : b = false) : (!b) = true := by rw [h]; rfl
/-- Some of the slots, each under its guard. -/
def subG (σ : Sl) : List Nat → Option Sl
  | [] => some []
  | t :: r => match lk σ t, subG σ r with
    | some (g, v), some s => match frc v with
      | some v => some ((t, g, v) :: s)
      | none => none
    | _, _ => none
theorem subG_lk {σ : Sl} : ∀ {ls : List Nat} {σ' : Sl}, subG σ ls = some σ' → ∀ (t : Nat) (x : Gd × DV), lk σ' t = some x → lk σ t = some x
  | [], σ', h, t, x, hx => by
    simp only [subG, Option.some.injEq] at h
    subst h
    cases hx
  | s :: r, σ', h, t, x, hx => by
    unfold subG at h
    split at h
    · rename_i g v s' h1 h2
      rw [frc_eq] at h
      simp only [Option.some.injEq] at h
      subst h
      unfold lk at hx
      cases hb : Nat.beq s t with
      | true =>
        simp only [hb, cond_true, Option.some.injEq] at hx
        rw [← Nat.eq_of_beq_eq_true hb, h1, ← hx]
      | false =>
        simp only [hb, cond_false] at hx
        exact subG_lk h2 t x hx
    · cases h
theorem St.pickG {σ σ' : Sl} {H H' : Hp} (h : St n σ H C w a ν) (ls lo : List Nat) (hs : subG σ ls = some σ') (ho : subH H lo = some H') (hn : nodupB lo = true) : St n σ' H' C w a ν := by
  obtain ⟨h1, h2⟩ := subH_mem ho
  have h3 := h.o.step (H' := H') (w' := w) (ν' := ν) (A := fun _ => True) (fun _ _ => rfl) (fun _ _ => trivial) rfl rfl rfl (Nat.le_refl _) (fun _ _ _ => rfl) (by rw [h1]; exact nodupB_ok hn) (fun e he e' he' => h.o.ap e (h2 e he) e' (h2 e' he')) (fun e he k hk => ⟨h.o.bnd e (h2 e he) k hk, .inr ⟨e, h2 e he, hk⟩⟩)
    (fun F hF _ e he => (h.o.ent e (h2 e he)).mono hF (fun _ => True) (fun _ _ => rfl) (fun _ hs => absurd trivial hs) trivial rfl (fun _ _ => rfl))
  have h4 : Fr ν.v (Fz ν H C w) w n σ' a := ⟨h.f.df, h.f.sz, fun t g d hl hg => h.f.at_ t g d (subG_lk hs t _ hl) hg⟩
  exact ⟨h4.keep h3.2 (fun _ _ => rfl), h3.1⟩
end
end Go.Proofs.YtjjmoihpjmojiaaDoor.D
