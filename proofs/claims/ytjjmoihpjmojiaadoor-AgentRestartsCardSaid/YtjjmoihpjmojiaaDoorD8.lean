/- Contracts: a call, its entry, its return. -/
import Derived.Test.YtjjmoihpjmojiaaDoorD7
set_option linter.unusedVariables false
set_option linter.unusedSimpArgs false
namespace Go.Proofs.YtjjmoihpjmojiaaDoor.D
open Go.RowKit

/-- What is lent. -/
def lentL (ν : Nm) (H : Hp) : List (Nat × Value × (Nat → Prop)) := H.map (fun e => (e.1, ν.v e.1, ν.S e.1))
/-- How a call ends. -/
def Ends (C : Cx) (r : DV) (H1 : Hp) (e : Ending) (w' : World) : Prop := ∃ (v : Value) (ν' : Nm), e = .returned v ∧ Ok ν' H1 C w' ∧ DR ν'.v (Fz ν' H1 C w') w' v r
/-- A contract: over such arguments, and such objects lent, the call returns r, with these objects. -/
def Con (P : Program) (f : FuncId) (ds : List DV) (H0 : Hp) (r : DV) (H1 : Hp) : Prop :=
  ∀ (w : World) (us : List Value) (ν : Nm) (X : Nat → Prop), Ok ν H0 ⟨w, lentL ν H0, X⟩ w → All ν.v (Fz ν H0 ⟨w, lentL ν H0, X⟩ w) w us ds → Calls P f us.toArray w (Ends ⟨w, lentL ν H0, X⟩ r H1)
/-- A call's frame at first. -/
def args : Nat → List DV → Sl
  | _, [] => []
  | i, v :: r => (i, none, v) :: args (i + 1) r
theorem lk_args : ∀ (l : List DV) (i t : Nat) (g : Gd) (v : DV), lk (args i l) t = some (g, v) → i ≤ t ∧ l[t - i]? = some v
  | [], _, _, _, _, h => by cases h
  | x :: r, i, t, g, v, h => by
    simp only [args, lk] at h
    cases hb : Nat.beq i t with
    | true =>
      rw [hb] at h
      simp only [cond_true, Option.some.injEq, Prod.mk.injEq] at h
      have : i = t := Nat.eq_of_beq_eq_true hb
      subst this
      exact ⟨Nat.le_refl _, by simp [h.2]⟩
    | false =>
      rw [hb] at h
      simp only [cond_false] at h
      have hne : i ≠ t := Nat.ne_of_beq_eq_false hb
      obtain ⟨h1, h2⟩ := lk_args r (i + 1) t g v h
      refine ⟨by omega, ?_⟩
      rw [show t - i = (t - (i + 1)) + 1 from by omega]
      simpa using h2
theorem Fr.init {ι : Nat → Value} {F : Nat → Prop} {w : World} {us : List Value} {ds : List DV} (h : All ι F w us ds) (n : Nat) (hn : Nat.ble ds.length n = true) : Fr ι F w n (args 0 ds) { tmps := us.toArray ++ Array.replicate (n - us.toArray.size) undef, defers := [] } := by
  have hn' : ds.length ≤ n := Nat.le_of_ble_eq_true hn
  have hl := h.length
  refine ⟨rfl, by simp; omega, fun t g v hv _ => ?_⟩
  obtain ⟨_, h2⟩ := lk_args ds 0 t g v hv
  rw [Nat.sub_zero] at h2
  have hlt := (List.getElem?_eq_some_iff.1 h2).1
  have hu : us[t]? = some (us[t]'(by omega)) := List.getElem?_eq_getElem (by omega)
  refine ⟨_, ?_, h.at_ t _ v hu h2⟩
  simp only
  rw [Array.getElem?_append_left (by simp; omega)]
  simp [hu]
section
variable {P : Program} {τ : List (Nat × TR)} {n : Nat} {σ σ' : Sl} {H H' H0 H1 Hn : Hp} {C : Cx} {ν : Nm} {ι : Nat → Value} {w w' W : World} {a : Act} {l rest ops : List Oper} {Q : Exit → Act → World → Prop} {o : Oper} {d : Nat} {A : Nat → Prop} {x r : DV} {g : Gd} {f : FuncId} {ds : List DV} {fn : Func} {c : Code}
theorem con_of (fn : Func) (n : Nat) (hf : P.funcs[f]? = some fn) (hb : fn.body = some c) (hn : fn.ntmps = n) (hle : Nat.ble ds.length n = true)
    (h : ∀ (w : World) (a : Act) (ν : Nm) (X : Nat → Prop), St n (args 0 ds) H0 ⟨w, lentL ν H0, X⟩ w a ν → c.wp P (bodyPost P fn (Ends ⟨w, lentL ν H0, X⟩ r H1)) a w) : Con P f ds H0 r H1 := by
  intro w us ν X hO hA
  refine calls_of_wp hf hb ?_
  rw [hn]
  exact h w _ ν X ⟨Fr.init hA n hle, hO⟩
/-! ### The return -/
def resD (τ : List (Nat × TR)) (H : Hp) (σ : Sl) : List ResultVar → Option (List DV)
  | [] => some []
  | .tmp t :: r => match lk σ t, resD τ H σ r with
    | some (none, d), some l => some (d :: l)
    | _, _ => none
  | .cell t ty :: r => match lk σ t, tl τ ty, resD τ H σ r with
    | some (none, .ptr s off), some q, some l => match hl H s with
      | some (.blk _ cs) => match ldv q ((cs.drop off).take q.sz) with
        | some d => some (d :: l)
        | none => none
      | _ => none
    | _, _, _ => none
def one : List DV → DV
  | [d] => d
  | l => .tup l
theorem load_blk {s t off : Nat} {cs : List DV} {q : TR} {d : DV} {ty : Nat} {u : Value} (hτ : Tab P τ) (hO : ∀ e ∈ H, EnR ν C.X w e.1 e.2 → True) (hE : EnR ν (Fz ν H C w) w s (.blk t cs)) (ht : tl τ ty = some q) (hu : DR ν.v (Fz ν H C w) w u (.ptr s off)) (hd : ldv q ((cs.drop off).take q.sz) = some d) : ∃ v, (Instr.loadAt ty u).run P w = .ok v w ∧ DR ν.v (Fz ν H C w) w v d := by
  obtain ⟨gg, h2, h3⟩ := hu.ptr_inv
  obtain ⟨g', vs, s', h6, h7, h8, _, _, _, h9⟩ := hE
  have hgg : g' = gg := by
    rw [h6] at h2
    simpa [hdOf] using h2
  subst hgg
  rw [h3]
  exact ldv_ok (ι := ν.v) (hτ.get ht) (ad := ⟨g', off, none⟩) (cs := cs.drop off) (u := fun j => vs.getD (off + j) undef) (d := d) (fun j d hj => by
    rw [List.getElem?_drop] at hj
    have hlt := (List.getElem?_eq_some_iff.1 hj).1
    have hv : vs[off + j]? = some (vs[off + j]'(by omega)) := List.getElem?_eq_getElem (by omega)
    have hv' : vs.getD (off + j) undef = vs[off + j]'(by omega) := by simp [List.getD_eq_getElem?_getD, hv]
    have hadd : (⟨g', off, none⟩ : Addr).add j = ⟨g', off + j, none⟩ := by
      unfold Addr.add
      by_cases h0 : j = 0
      · subst h0; simp
      · simp [h0]
    rw [hv', hadd, cell_of_row w g' (off + j) _ _ _ h7]
    refine ⟨by simp [hv], (h9 _ _ d hv hj).1, fun hp => ?_⟩
    rcases (h9 _ _ d hv hj).2 with h10 | h10
    · exact h10
    · exact .fr (h10.fr_of hp)) hd
def rv (tmps : Array Value) : ResultVar → Sem Value
  | .tmp t => pure (tmps.getD t undef)
  | .cell t ty => do loadVar ty (← asAddr (tmps.getD t undef))
theorem resD_ok (hτ : Tab P τ) (h : St n σ H C w a ν) : ∀ (rs : List ResultVar) {l : List DV}, resD τ H σ rs = some l → ∃ vs : List Value, (rs.mapM (rv a.tmps)).run P w = .ok vs w ∧ All ν.v (Fz ν H C w) w vs l
  | [], l, hr => by
    simp only [resD, Option.some.injEq] at hr
    subst hr
    exact ⟨[], by simp, trivial⟩
  | .tmp t :: rs, l, hr => by
    simp only [resD] at hr
    split at hr
    · rename_i d' l' h1 h2
      simp only [Option.some.injEq] at hr
      subst hr
      obtain ⟨vs, h3, h4⟩ := resD_ok hτ h rs h2
      obtain ⟨v, h5, h6⟩ := h.f.at_ t none d' h1 trivial
      refine ⟨v :: vs, ?_, h6, h4⟩
      have h7 : a.tmps.getD t undef = v := by simp [h5]
      simp only [List.mapM_cons, Sem.run_bind, rv, h7, Sem.run_pure, Result.andThen_ok, h3]
    · cases hr
  | .cell t ty :: rs, l, hr => by
    simp only [resD] at hr
    split at hr
    · rename_i s off q l' h1 ht h2
      split at hr
      · rename_i t' cs he
        split at hr
        · rename_i d' hd
          simp only [Option.some.injEq] at hr
          subst hr
          obtain ⟨vs, h3, h4⟩ := resD_ok hτ h rs h2
          obtain ⟨u, h5, h6⟩ := h.f.at_ t none _ h1 trivial
          obtain ⟨gg, h8, h9⟩ := h6.ptr_inv
          obtain ⟨v, h10, h11⟩ := load_blk hτ (fun _ _ _ => trivial) (h.o.ent _ (hl_mem he)) ht h6 hd
          refine ⟨v :: vs, ?_, h11, h4⟩
          have h7 : a.tmps.getD t undef = .pointer (some ⟨gg, off, none⟩) := by simp [h5, h9]
          rw [h9] at h10
          simp only [Instr.loadAt, Instr.sureAddr, Sem.run_bind, Sem.run_pure, Result.andThen_ok] at h10
          simp only [List.mapM_cons, Sem.run_bind, rv, h7, asAddr, Sem.run_pure, Result.andThen_ok, h10, h3]
        · cases hr
      · cases hr
    · cases hr
theorem results_ok (hτ : Tab P τ) (h : St n σ H C w a ν) {l : List DV} (hr : resD τ H σ fn.results.toList = some l) : ∃ v, (results fn a.tmps).run P w = .ok v w ∧ DR ν.v (Fz ν H C w) w v (one l) := by
  obtain ⟨vs, h1, h2⟩ := resD_ok hτ h fn.results.toList hr
  have h5 : fn.results = fn.results.toList.toArray := by simp
  have h6 : (results fn a.tmps).run P w = .ok (if h : vs.toArray.size = 1 then vs.toArray[0] else .tuple vs.toArray) w := by
    show (do
      let vs ← fn.results.mapM (rv a.tmps)
      pure (if h : vs.size = 1 then vs[0] else .tuple vs) : Sem Value).run P w = _
    rw [h5, List.mapM_toArray]
    simp [h1]
  refine ⟨_, h6, ?_⟩
  have hl := h2.length
  match vs, l, h2, hl with
  | [v], [d], h2, _ => simpa [one] using h2.1
  | [], [], h2, _ => simpa [one] using DR.tup (ι := ν.v) (F := Fz ν H C w) (w := w) [] [] rfl (fun j u d h _ => by simp at h)
  | u1 :: u2 :: us, d1 :: d2 :: ds, h2, hl =>
    have := DR.tup (ι := ν.v) (F := Fz ν H C w) (w := w) (d1 :: d2 :: ds) (u1 :: u2 :: us) hl h2.at_
    simpa [one] using this
end
end Go.Proofs.YtjjmoihpjmojiaaDoor.D
