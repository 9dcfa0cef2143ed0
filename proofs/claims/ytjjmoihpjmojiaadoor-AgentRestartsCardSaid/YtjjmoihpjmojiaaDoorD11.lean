/- The call as an operation. -/
import Derived.Test.YtjjmoihpjmojiaaDoorD10
set_option linter.unusedVariables false
set_option linter.unusedSimpArgs false
namespace Go.Proofs.YtjjmoihpjmojiaaDoor.D
open Go.RowKit

/-- A function of the program with a body. -/
def Fn (P : Program) (f : FuncId) : Prop := ∃ fn : Func, P.funcs[f]? = some fn ∧ (fn.name == "runtime.NumGoroutine") = false ∧ fn.body.isSome = true
def cal (σ : Sl) (g : Gd) : Operand → Option (FuncId × List DV × List DV)
  | .func f => some (f, [], [])
  | x => match ev σ g x with
    | some (.fn (.func f) a b) => some (f, a, b)
    | some (.v (.func (.func f) ⟨[]⟩ ⟨[]⟩)) => some (f, [], [])
    | _ => none
def isCall (σ : Sl) (g : Gd) : Op → Option (FuncId × List DV)
  | .call c => match c.callee with
    | .value x => match cal σ g x, evs σ g c.args.toList with
      | some (f, a, b), some l => some (f, a ++ l ++ b)
      | _, _ => none
    | _ => none
  | _ => none
def dropl : List Nat → Sl → Sl
  | [], σ => σ
  | r :: rs, σ => dropl rs (dropr r σ)
def unpick (rs : List Nat) (H : Hp) : Hp := H.filter fun e => !rs.any fun r => Nat.beq r e.1
theorem pick_perm (rs : List Nat) (H : Hp) : H.Perm (pick rs H ++ unpick rs H) := (List.filter_append_perm _ H).symm
section
variable {P : Program} {τ : List (Nat × TR)} {n : Nat} {σ σ' : Sl} {H H' H0 H1 HL HR Hn : Hp} {C : Cx} {ν ν' : Nm} {ι : Nat → Value} {F F' : Nat → Prop} {w w' W : World} {a : Act} {l rest ops : List Oper} {Q : Exit → Act → World → Prop} {o : Oper} {d : Nat} {A : Nat → Prop} {x r : DV} {g : Gd} {f : FuncId} {ds ds0 : List DV} {fn : Func} {c : Code}
theorem cal_ok (hF : Fr ι F w n σ a) (hg : Gd.on a g) {y : Operand} {p q : List DV} (h : cal σ g y = some (f, p, q)) : ∃ us vs : List Value, a.eval y = .func (.func f) us.toArray vs.toArray ∧ All ι F w us p ∧ All ι F w vs q := by
  unfold cal at h
  split at h
  · simp only [Option.some.injEq, Prod.mk.injEq] at h
    obtain ⟨rfl, rfl, rfl⟩ := h
    exact ⟨[], [], by simp [Act.eval], trivial, trivial⟩
  · split at h
    · rename_i f' p' q' hy
      simp only [Option.some.injEq, Prod.mk.injEq] at h
      obtain ⟨rfl, rfl, rfl⟩ := h
      have h1 := hF.eval hy hg
      generalize a.eval y = v at h1
      cases h1 with
      | fr h => cases h
      | fn _ _ _ us vs hu hv h1 h2 => exact ⟨us, vs, rfl, All.of hu h1, All.of hv h2⟩
    · rename_i f' hy
      simp only [Option.some.injEq, Prod.mk.injEq] at h
      obtain ⟨rfl, rfl, rfl⟩ := h
      exact ⟨[], [], hF.evalv hy hg, trivial, trivial⟩
    · cases h
theorem e_call (hP : Fn P f) (hc : Con P f ds HL r H1) (new : List Nat) (m : List Bool) (hF : Fr ν.v (Fz ν H C w) w n σ a) (hO : Ok ν H C w) (hg : Gd.on a g) (hp : isCall σ g o.op = some (f, ds0)) (hds : com m ds0 = ds) (hsp : H.Perm (HL ++ HR)) (hk : callOk C HL HR H1 new r = true) :
    Eff P o a w ν H C (fun s => s ∉ new) (H1 ++ HR) r := by
  intro K Q hK
  unfold isCall at hp
  split at hp
  · rename_i c ho
    split at hp
    · rename_i y hy
      split at hp
      · rename_i f' p q l' h1 h2
        simp only [Option.some.injEq, Prod.mk.injEq] at hp
        obtain ⟨rfl, rfl⟩ := hp
        subst hds
        obtain ⟨us, vs, h3, h4, h5⟩ := cal_ok hF hg h1
        obtain ⟨as_, h6, h7⟩ := evs_arr hF hg h2
        obtain ⟨fn, h8, h9, h10⟩ := hP
        have hnb : fn.body.isNone = false := by cases hb : fn.body with
          | none => rw [hb] at h10; cases h10
          | some _ => rfl
        have hrun : (execOp a.eval o).run P w = .ok (.enter f' ((us ++ as_ ++ vs).toArray)) w := by
          unfold execOp
          simp only [ho, resolve, hy, h3, h6, Deferred.ofValue, Sem.run_bind, Sem.run_pure, Result.andThen_ok, invoke, callFunc, run_program, h8, h9, hnb]
          simp
        unfold Oper.wp
        rw [hrun, Oper.upon_enter]
        refine (call_ok hO hsp hc new hk (us := us ++ as_ ++ vs) (((h4.app h7).app h5).com_ m)).mono ?_
        rintro e w' ⟨v, ν', rfl, ha⟩
        exact hK v w' ⟨ν', ha⟩
      · cases hp
    · cases hp
  · cases hp
theorem lk_dropl : ∀ (rs : List Nat) {σ : Sl} {t : Nat} {g : Gd} {d : DV}, lk (dropl rs σ) t = some (g, d) → ∃ d', lk σ t = some (g, d') ∧ ((d = d' ∧ ∀ r ∈ rs, nr r d = true) ∨ d = .any)
  | [], _, _, _, d, h => ⟨d, h, .inl ⟨rfl, fun r hr => by cases hr⟩⟩
  | r :: rs, σ, t, g, d, h => by
    obtain ⟨d1, h1, h2⟩ := lk_dropl rs (σ := dropr r σ) h
    obtain ⟨d2, h3, h4⟩ := lk_dropr h1
    refine ⟨d2, h3, ?_⟩
    rcases h2 with ⟨rfl, h2⟩ | rfl
    · rcases h4 with ⟨rfl, h4⟩ | rfl
      · exact .inl ⟨rfl, fun s hs => by
          rcases List.mem_cons.1 hs with rfl | hs
          · exact h4
          · exact h2 s hs⟩
      · exact .inr rfl
    · exact .inr rfl
theorem free_dropl {m k : Nat} : ∀ (rs : List Nat) {σ : Sl}, free m k σ = true → free m k (dropl rs σ) = true
  | [], _, h => h
  | _ :: rs, _, h => free_dropl rs (free_dropr h)
theorem Fr.dropl_ {ι' : Nat → Value} {rs : List Nat} (h : Fr ι F w n σ a) (hF : ∀ k, F k → F' k ∧ w'.heap[k]? = w.heap[k]?) (hs : ∀ s, s ∉ rs → ι' s = ι s) : Fr ι' F' w' n (dropl rs σ) a :=
  h.mono hF (fun s => s ∉ rs) hs (fun t g d hl => by
    obtain ⟨d', h1, h2⟩ := lk_dropl rs hl
    refine ⟨d', h1, ?_⟩
    rcases h2 with ⟨h3, h4⟩ | h3
    · exact .inl ⟨h3, fun s hs => h4 s (Classical.not_not.1 hs)⟩
    · exact .inr h3)
/-- The next operation is a call. -/
theorem s_call (hP : Fn P f) (hc : Con P f ds HL r H1) (rs new : List Nat) (m : List Bool) (h : St n σ H C w a ν) (hw : Region.wanted o (yielded l.toArray a.tmps) = true) (hd : o.dst = some d) (hf : free n d σ = true)
    (hp : isCall σ none o.op = some (f, ds0)) (hds : com m ds0 = ds) (hL : pick rs H = HL) (hk : callOk C HL (unpick rs H) H1 new r = true)
    (hK : ∀ a' w' ν', St n ((d, none, r) :: dropl new σ) (H1 ++ unpick rs H) C w' a' ν' → wpList P l.toArray Q rest a' w') : wpList P l.toArray Q (o :: rest) a w := by
  subst hL
  unfold wpList
  rw [if_pos hw]
  refine .inl (e_call (g := none) hP hc new m h.f h.o trivial hp hds (pick_perm rs H) hk _ _ (fun v w' hv => ?_))
  obtain ⟨ν', hv⟩ := hv
  rw [hd]
  exact hK _ w' ν' ⟨(h.f.dropl_ hv.F hv.same).put (free_dropl new hf) none r v (fun _ _ h => by cases h) (fun _ => hv.v), hv.o⟩
theorem s_call0 (hP : Fn P f) (hc : Con P f ds HL r H1) (rs new : List Nat) (m : List Bool) (h : St n σ H C w a ν) (hw : Region.wanted o (yielded l.toArray a.tmps) = true) (hd : o.dst = none)
    (hp : isCall σ none o.op = some (f, ds0)) (hds : com m ds0 = ds) (hL : pick rs H = HL) (hk : callOk C HL (unpick rs H) H1 new r = true)
    (hK : ∀ a' w' ν', St n (dropl new σ) (H1 ++ unpick rs H) C w' a' ν' → wpList P l.toArray Q rest a' w') : wpList P l.toArray Q (o :: rest) a w := by
  subst hL
  unfold wpList
  rw [if_pos hw]
  refine .inl (e_call (g := none) hP hc new m h.f h.o trivial hp hds (pick_perm rs H) hk _ _ (fun v w' hv => ?_))
  obtain ⟨ν', hv⟩ := hv
  rw [hd]
  exact hK _ w' ν' ⟨h.f.dropl_ hv.F hv.same, hv.o⟩
/-- A pure call: nothing lent, nothing new. -/
theorem s_call1 (hP : Fn P f) (hc : Con P f ds [] r []) (m : List Bool) (h : St n σ H C w a ν) (hw : Region.wanted o (yielded l.toArray a.tmps) = true) (hd : o.dst = some d) (hf : free n d σ = true)
    (hp : isCall σ none o.op = some (f, ds0)) (hds : com m ds0 = ds) (hr : named [] r = true)
    (hK : ∀ a' w' ν', St n ((d, none, r) :: σ) H C w' a' ν' → wpList P l.toArray Q rest a' w') : wpList P l.toArray Q (o :: rest) a w := by
  unfold wpList
  rw [if_pos hw]
  refine .inl (e_call (g := none) (HL := []) (HR := H) hP hc [] m h.f h.o trivial hp hds (List.Perm.refl _) (by unfold callOk; simp [rids, hr]) _ _ (fun v w' hv => ?_))
  obtain ⟨ν', hv⟩ := hv
  rw [hd]
  exact hK _ w' ν' ⟨(h.f.dropl_ (rs := []) hv.F hv.same).put hf none r v (fun _ _ h => by cases h) (fun _ => hv.v), hv.o⟩
end
end Go.Proofs.YtjjmoihpjmojiaaDoor.D
