/- append as an operation. -/
import Derived.Test.YtjjmoihpjmojiaaDoorD14
set_option linter.unusedVariables false
set_option linter.unusedSimpArgs false
namespace Go.Proofs.YtjjmoihpjmojiaaDoor.D
open Go.RowKit

def isApp (τ : List (Nat × TR)) (σ : Sl) (g : Gd) : Op → Option (DV × DV × Nat × Nat × TR)
  | .call c => match c.callee, c.args.toList, c.argTypes.toList with
    | .builtin .append, [s, x], [t, t'] => bif Nat.beq t t' then (match ev σ g s, ev σ g x, tl τ t with
      | some ds, some dx, some ⟨.slice e, _, _⟩ => match tl τ e with
        | some q => some (ds, dx, t, e, q)
        | none => none
      | _, _, _ => none) else none
    | _, _, _ => none
  | _ => none
section
variable {P : Program} {τ : List (Nat × TR)} {n : Nat} {σ σ' : Sl} {H H' H0 H1 HL HR Hn : Hp} {C : Cx} {ν ν' : Nm} {ι : Nat → Value} {F F' : Nat → Prop} {w w' W : World} {a : Act} {l rest ops : List Oper} {Q : Exit → Act → World → Prop} {o : Oper} {d : Nat} {A : Nat → Prop} {x r : DV} {g : Gd} {f : FuncId} {ds dx : DV} {fn : Func} {c : Code} {t e sz bytes : Nat} {q : TR} {z : List Value} {es es2 : List (List DV)} {S S2 : Nat → Prop}
theorem mem_unpick {con : List Nat} {p : Nat × En} (h : p ∈ unpick con H) : p ∈ H ∧ p.1 ∉ con := by
  unfold unpick at h
  rw [List.mem_filter] at h
  refine ⟨h.1, fun hm => ?_⟩
  have := h.2
  rw [is_any hm] at this
  cases this
theorem run_app (hp : isApp τ σ g o.op = some (ds, dx, t, e, q)) : ∃ s y : Operand, ev σ g s = some ds ∧ ev σ g y = some dx ∧ (∃ sz' z', tl τ t = some ⟨.slice e, sz', z'⟩) ∧ tl τ e = some q ∧ ∀ (a : Act) (w w' : World) (v : Value), (Builtin.append_ #[t, t] o.type #[a.eval s, a.eval y]).run P w = .ok v w' → (execOp a.eval o).run P w = .ok (.value v) w' := by
  unfold isApp at hp
  split at hp
  · rename_i c ho
    split at hp
    · rename_i s y t1 t2 hc ha ht
      cases hb : Nat.beq t1 t2 with
      | false => rw [hb] at hp; cases hp
      | true =>
        rw [hb] at hp
        simp only [cond_true] at hp
        split at hp
        · rename_i ds' dx' e' sz' z' h1 h2 h3
          split at hp
          · rename_i q' h4
            simp only [Option.some.injEq, Prod.mk.injEq] at hp
            obtain ⟨rfl, rfl, rfl, rfl, rfl⟩ := hp
            have : t1 = t2 := Nat.eq_of_beq_eq_true hb
            subst this
            refine ⟨s, y, h1, h2, ⟨_, _, h3⟩, h4, fun a w w' v hr => ?_⟩
            obtain ⟨cal, as_, ts⟩ := c
            simp only at hc ha ht
            subst hc
            have ha := args2 ha
            have ht := args2 ht
            subst ha ht
            unfold execOp
            simp only [ho]
            simp [resolve, invoke, builtin, hr]
          · cases hp
        · cases hp
    · cases hp
  · cases hp
theorem e_app (con : List Nat) (r' : Nat) (hτ : Tab P τ) (hF : Fr ν.v (Fz ν H C w) w n σ a) (hO : Ok ν H C w) (hg : Gd.on a g) (hp : isApp τ σ g o.op = some (ds, dx, t, e, q)) (hz : q.z = some z) (hsz : q.sz = sz) (hzl : z.length = sz) (h0 : 0 < sz) (hby : (P.info? e).map (·.bytes) = some bytes)
    (hr : fresh C H r' = true)
    (hv : ∀ v, DR ν.v (Fz ν H C w) w v ds → OT (Fz ν H C w) w v (.osl e sz es) S) (hx : ∀ v, DR ν.v (Fz ν H C w) w v dx → SrcR (Fz ν H C w) w v sz es2 S2)
    (hS : ∀ k, S k → ∃ p ∈ H, p.1 ∈ con ∧ ν.S p.1 k) (hS2 : ∀ k, S2 k → ∃ p ∈ H, p.1 ∈ con ∧ ν.S p.1 k) (hdis : ∀ k, S k → ¬ S2 k)
    (hlen : (es.length + es2.length) * bytes ≤ 140737488355328) (h63 : es.length + es2.length ≤ maxLen) :
    Eff P o a w ν H C (but r') ((r', .row e sz (es ++ es2)) :: unpick con H) (.own r') := by
  obtain ⟨s, y, h1, h2, ⟨sz', z', h3⟩, h4, hrun⟩ := run_app (P := P) hp
  have hb1 : ∀ k, S k → k < w.heap.size := fun k hk => by obtain ⟨p, hp, _, h⟩ := hS k hk; exact hO.bnd p hp k h
  have hb2 : ∀ k, S2 k → k < w.heap.size := fun k hk => by obtain ⟨p, hp, _, h⟩ := hS2 k hk; exact hO.bnd p hp k h
  obtain ⟨v', w', hr1, ho1, ho2, ho3, hsize, hblk, hone, hot⟩ := app_main (ty := o.type) ((hτ.get h3).2.2) (hτ.get h4) hz hsz hzl h0 hby (hv _ (hF.eval h1 hg)) (hx _ (hF.eval h2 hg)) hdis
    (fun k hk => ⟨hk.1, fun h => by obtain ⟨p, hp, _, h⟩ := hS k h; exact hk.2.2 p hp h, fun h => by obtain ⟨p, hp, _, h⟩ := hS2 k h; exact hk.2.2 p hp h⟩) hb1 hb2 hlen h63
  have hfr := fresh_H hr
  have hst := hO.step (ν' := upd ν r' v' (fun k => S k ∨ S2 k ∨ (w.heap.size ≤ k ∧ k < w'.heap.size))) (w' := w') (H' := (r', .row e sz (es ++ es2)) :: unpick con H) (A := but r') (fun s hs => upd_v_ne hs) (fresh_L hr) ho1 ho2 ho3 hsize
    (fun k hk hn => hblk k hk (fun h => by obtain ⟨p, hp, _, h⟩ := hS k h; exact hn p hp h))
    (by
      rw [List.map_cons, List.nodup_cons]
      refine ⟨fun hm => ?_, hO.nd.sublist (List.filter_sublist.map _)⟩
      obtain ⟨p, hp, hq⟩ := List.mem_map.1 hm
      exact (hfr p (mem_unpick hp).1).1 hq)
    (by
      have cross : ∀ p ∈ unpick con H, ∀ k, (S k ∨ S2 k ∨ (w.heap.size ≤ k ∧ k < w'.heap.size)) → ν.S p.1 k → False := by
        intro p hp k hk hs
        obtain ⟨hp1, hp2⟩ := mem_unpick hp
        rcases hk with h | h | h
        · obtain ⟨p', hp', hc, h'⟩ := hS k h
          exact hO.ap p hp1 p' hp' (fun he => hp2 (he ▸ hc)) k hs h'
        · obtain ⟨p', hp', hc, h'⟩ := hS2 k h
          exact hO.ap p hp1 p' hp' (fun he => hp2 (he ▸ hc)) k hs h'
        · have := hO.bnd p hp1 k hs; omega
      intro p1 h1 p2 h2 hne k hk1 hk2
      rcases List.mem_cons.1 h1 with rfl | h1 <;> rcases List.mem_cons.1 h2 with rfl | h2
      · exact hne rfl
      · rw [upd_S] at hk1
        rw [upd_S_ne (hfr p2 (mem_unpick h2).1).1] at hk2
        exact cross p2 h2 k hk1 hk2
      · rw [upd_S] at hk2
        rw [upd_S_ne (hfr p1 (mem_unpick h1).1).1] at hk1
        exact cross p1 h1 k hk2 hk1
      · rw [upd_S_ne (hfr p1 (mem_unpick h1).1).1] at hk1
        rw [upd_S_ne (hfr p2 (mem_unpick h2).1).1] at hk2
        exact hO.ap p1 (mem_unpick h1).1 p2 (mem_unpick h2).1 hne k hk1 hk2)
    (by
      intro p hp k hk
      rcases List.mem_cons.1 hp with rfl | hp
      · rw [upd_S] at hk
        rcases hk with h | h | h
        · obtain ⟨p', hp', _, h'⟩ := hS k h
          exact ⟨Nat.lt_of_lt_of_le (hb1 k h) hsize, .inr ⟨p', hp', h'⟩⟩
        · obtain ⟨p', hp', _, h'⟩ := hS2 k h
          exact ⟨Nat.lt_of_lt_of_le (hb2 k h) hsize, .inr ⟨p', hp', h'⟩⟩
        · exact ⟨h.2, .inl h.1⟩
      · rw [upd_S_ne (hfr p (mem_unpick hp).1).1] at hk
        exact ⟨Nat.lt_of_lt_of_le (hO.bnd p (mem_unpick hp).1 k hk) hsize, .inr ⟨p, (mem_unpick hp).1, hk⟩⟩)
    (by
      intro F hF' hFi p hp
      rcases List.mem_cons.1 hp with rfl | hp
      · show OT F w' ((upd ν r' v' _).v r') _ ((upd ν r' v' _).S r')
        rw [upd_v, upd_S]
        exact hot.mono (fun k hk => ⟨(hF' k hk).1, rfl⟩) (fun _ _ => rfl)
      · obtain ⟨hp1, hp2⟩ := mem_unpick hp
        refine (hO.ent p hp1).mono hF' (but r') (fun s hs => upd_v_ne hs) (fun s hs => ?_) (hfr p hp1).1 (upd_S_ne (hfr p hp1).1) (fun k hk => hblk k (hO.bnd p hp1 k hk) (fun h => ?_))
        · have hs' : s = r' := Classical.not_not.1 hs
          rw [hs']; exact (hfr p hp1).2
        · obtain ⟨p', hp', hc, h'⟩ := hS k h
          exact hO.ap p hp1 p' hp' (fun he => hp2 (he ▸ hc)) k hk h')
  exact .of_run (hrun a w w' v' hr1) ⟨_, fun s hs => upd_v_ne hs, hst.1, hst.2, by
    have := DR.own (ι := (upd ν r' v' (fun k => S k ∨ S2 k ∨ (w.heap.size ≤ k ∧ k < w'.heap.size))).v) (F := Fz (upd ν r' v' (fun k => S k ∨ S2 k ∨ (w.heap.size ≤ k ∧ k < w'.heap.size))) ((r', .row e sz (es ++ es2)) :: unpick con H) C w') (w := w') r' (by rw [upd_v]; exact hone)
    rwa [upd_v] at this⟩
theorem row_nil (F : Nat → Prop) (w : World) (e sz : Nat) : OT F w nilS (.osl e sz []) (fun _ => False) :=
  .osl e sz [] nilS [] (fun _ _ => nilS) (fun _ _ _ => False) _ (World.ownsRow_nil w 0 e sz) (fun k hk => by cases hk) (fun i c h => by simp at h) (fun i c j d h => by simp at h) (fun _ _ _ h => h.elim) (fun _ _ _ _ _ h => h.elim) (fun i c j d h => by simp at h)
/-- The target: a row of one's own, or nil. -/
def Tgt (H : Hp) (ds : DV) (e sz : Nat) (es : List (List DV)) : List Nat → Prop
  | [q] => ds = .own q ∧ hl H q = some (.row e sz es)
  | [] => ds = .v nilS ∧ es = []
  | _ => False
/-- What is appended: rows that are read alone; nil; a row of one's own that is used up; one that is kept. -/
inductive Sr (H : Hp) (e sz : Nat) : DV → List (List DV) → List Nat → Prop
  | sl (es : List (List DV)) (h : ∀ (i : Nat) (c : List DV), es[i]? = some c → c.length = sz) : Sr H e sz (.sl es) es []
  | nil : Sr H e sz (.v nilS) [] []
  | use (q : Nat) (es : List (List DV)) (h : hl H q = some (.row e sz es)) : Sr H e sz (.own q) es [q]
  | keep (q : Nat) (es : List (List DV)) (h : hl H q = some (.row e sz es)) (hp : ∀ c ∈ es, pls c = true) : Sr H e sz (.own q) es []
theorem s_app (con con2 : List Nat) (r' : Nat) (hτ : Tab P τ) (h : St n σ H C w a ν) (hw : Region.wanted o (yielded l.toArray a.tmps) = true) (hd : o.dst = some d) (hf : free n d σ = true) (hp : isApp τ σ none o.op = some (ds, dx, t, e, q)) (hz : q.z = some z) (hsz : q.sz = sz) (hzl : z.length = sz) (h0 : 0 < sz) (hby : (P.info? e).map (·.bytes) = some bytes)
    (hr : fresh C H r' = true) (hv : Tgt H ds e sz es con) (hx : Sr H e sz dx es2 con2) (hdis : (con.all fun p => con2.all fun q => !Nat.beq p q) = true)
    (hlen : (es.length + es2.length) * bytes ≤ 140737488355328) (h63 : es.length + es2.length ≤ maxLen)
    (hK : ∀ a' w' ν', St n ((d, none, .own r') :: dropr r' σ) ((r', .row e sz (es ++ es2)) :: unpick (con ++ con2) H) C w' a' ν' → wpList P l.toArray Q rest a' w') : wpList P l.toArray Q (o :: rest) a w := by
  have own_inv : ∀ {v : Value} {q : Nat}, DR ν.v (Fz ν H C w) w v (.own q) → v = ν.v q := fun h => by
    cases h with
    | fr h => cases h
    | own => rfl
  obtain ⟨S, hS, hv'⟩ : ∃ S : Nat → Prop, (∀ k, S k → ∃ p ∈ H, p.1 ∈ con ∧ ν.S p.1 k) ∧ ∀ v, DR ν.v (Fz ν H C w) w v ds → OT (Fz ν H C w) w v (.osl e sz es) S := by
    match con, hv with
    | [], ⟨h1, h2⟩ =>
      subst h1 h2
      exact ⟨fun _ => False, fun k hk => hk.elim, fun v hv => by rw [hv.fr_v.1]; exact row_nil _ _ _ _⟩
    | [q], ⟨h1, h2⟩ =>
      subst h1
      exact ⟨ν.S q, fun k hk => ⟨_, hl_mem h2, List.mem_singleton.2 rfl, hk⟩, fun v hv => by rw [own_inv hv]; exact h.o.ent _ (hl_mem h2)⟩
  obtain ⟨S2, hS2, hx'⟩ : ∃ S2 : Nat → Prop, (∀ k, S2 k → ∃ p ∈ H, p.1 ∈ con2 ∧ ν.S p.1 k) ∧ ∀ v, DR ν.v (Fz ν H C w) w v dx → SrcR (Fz ν H C w) w v sz es2 S2 := by
    cases hx with
    | sl _ h1 => exact ⟨fun _ => False, fun k hk => hk.elim, fun v hv => src_sl hv.sl_inv h1⟩
    | nil => exact ⟨fun _ => False, fun k hk => hk.elim, fun v hv => .inl ⟨hv.fr_v.1, rfl⟩⟩
    | use q _ h1 => exact ⟨ν.S q, fun k hk => ⟨_, hl_mem h1, List.mem_singleton.2 rfl, hk⟩, fun v hv => by rw [own_inv hv]; exact src_row (h.o.ent _ (hl_mem h1))⟩
    | keep q _ h1 h2 => exact ⟨fun _ => False, fun k hk => hk.elim, fun v hv => by rw [own_inv hv]; exact src_keep (h.o.ent _ (hl_mem h1)) h2⟩
  refine s_new h hw hd hf (e_app (g := none) (con ++ con2) r' hτ h.f h.o trivial hp hz hsz hzl h0 hby hr hv' hx' (fun k hk => ?_) (fun k hk => ?_) (fun k h1 h2 => ?_) hlen h63) hK
  · obtain ⟨p, h1, h2, h3⟩ := hS k hk
    exact ⟨p, h1, List.mem_append_left _ h2, h3⟩
  · obtain ⟨p, h1, h2, h3⟩ := hS2 k hk
    exact ⟨p, h1, List.mem_append_right _ h2, h3⟩
  · obtain ⟨p, h3, h4, h5⟩ := hS k h1
    obtain ⟨p', h6, h7, h8⟩ := hS2 k h2
    have hne : p.1 ≠ p'.1 := by
      have := List.all_eq_true.1 (List.all_eq_true.1 hdis _ h4) _ h7
      simp only [Bool.not_eq_true'] at this
      exact Nat.ne_of_beq_eq_false this
    exact h.o.ap p h3 p' h6 hne k h5 h8
end
end Go.Proofs.YtjjmoihpjmojiaaDoor.D
