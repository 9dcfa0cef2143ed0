/- Steps: literals, append, stores into a block; elements of a row of one's own. -/
import Derived.Test.YtjjmoihpjmojiaaDoorD17
set_option linter.unusedVariables false
set_option linter.unusedSimpArgs false
namespace Go.Proofs.YtjjmoihpjmojiaaDoor.D
open Go.RowKit

def setH (r : Nat) (e : En) : Hp → Hp
  | [] => []
  | p :: H => bif Nat.beq p.1 r then (p.1, e) :: setH r e H else p :: setH r e H
theorem setH_rids (r : Nat) (e : En) : ∀ H : Hp, (setH r e H).map (·.1) = H.map (·.1)
  | [] => rfl
  | p :: H => by
    unfold setH
    cases hb : Nat.beq p.1 r with
    | true => simp [setH_rids r e H]
    | false => simp [setH_rids r e H]
theorem mem_setH {r : Nat} {e : En} : ∀ {H : Hp} {p : Nat × En}, p ∈ setH r e H → (p.1 = r ∧ p.2 = e ∧ ∃ e', (r, e') ∈ H) ∨ (p ∈ H ∧ p.1 ≠ r)
  | [], p, h => by cases h
  | x :: H, p, h => by
    unfold setH at h
    cases hb : Nat.beq x.1 r with
    | true =>
      rw [hb] at h
      simp only [cond_true] at h
      have hx : x.1 = r := Nat.eq_of_beq_eq_true hb
      rcases List.mem_cons.1 h with rfl | h
      · exact .inl ⟨hx, rfl, x.2, by rw [← hx]; exact List.mem_cons_self⟩
      · rcases mem_setH h with ⟨h1, h2, e', h3⟩ | ⟨h1, h2⟩
        · exact .inl ⟨h1, h2, e', List.mem_cons_of_mem _ h3⟩
        · exact .inr ⟨List.mem_cons_of_mem _ h1, h2⟩
    | false =>
      rw [hb] at h
      simp only [cond_false] at h
      rcases List.mem_cons.1 h with rfl | h
      · exact .inr ⟨List.mem_cons_self, Nat.ne_of_beq_eq_false hb⟩
      · rcases mem_setH h with ⟨h1, h2, e', h3⟩ | ⟨h1, h2⟩
        · exact .inl ⟨h1, h2, e', List.mem_cons_of_mem _ h3⟩
        · exact .inr ⟨List.mem_cons_of_mem _ h1, h2⟩
section
variable {P : Program} {τ : List (Nat × TR)} {n : Nat} {σ σ' : Sl} {H H' H0 H1 HL HR Hn : Hp} {C : Cx} {ν ν' : Nm} {ι : Nat → Value} {F F' : Nat → Prop} {w w' W : World} {a : Act} {l rest ops : List Oper} {Q : Exit → Act → World → Prop} {o : Oper} {d : Nat} {A : Nat → Prop} {x r : DV} {g : Gd} {f : FuncId} {fn : Func} {c : Code} {t e sz bytes len : Nat} {q : TR} {z : List Value} {es es2 es3 : List (List DV)} {S S2 : Nat → Prop} {ds : List DV} {cs : List (List DV)} {dt dx : DV}
theorem s_lit (r' : Nat) (con : List Nat) (hτ : Tab P τ) (h : St n σ H C w a ν) (hw : Region.wanted o (yielded l.toArray a.tmps) = true) (hd : o.dst = some d) (hf : free n d σ = true) (hp : isLit τ σ none o.op = some (e, q, ds, len)) (hz : q.z = some z) (hsz : q.sz = sz) (hzl : z.length = sz) (h0 : 0 < sz) (hcs : cellsAll ds = some cs) (hk : litOk H sz len ds cs = true) (hr : fresh C H r' = true) (hes : absm H cs = es) (hcon : owns (flat cs) = con)
    (hK : ∀ a' w' ν', St n ((d, none, .own r') :: dropr r' σ) ((r', .row e sz es) :: unpick con H) C w' a' ν' → wpList P l.toArray Q rest a' w') : wpList P l.toArray Q (o :: rest) a w := by
  subst hes hcon
  exact s_new h hw hd hf (e_lit (g := none) r' hτ h.f h.o trivial hp hz hsz hzl h0 hcs hk hr) hK
theorem s_app3 (con con2 : List Nat) (r' : Nat) (hτ : Tab P τ) (h : St n σ H C w a ν) (hw : Region.wanted o (yielded l.toArray a.tmps) = true) (hd : o.dst = some d) (hf : free n d σ = true) (hp : isApp τ σ none o.op = some (dt, dx, t, e, q)) (hz : q.z = some z) (hsz : q.sz = sz) (hzl : z.length = sz) (h0 : 0 < sz) (hby : (P.info? e).map (·.bytes) = some bytes)
    (hr : fresh C H r' = true) (hv : Tgt H dt e sz es con) (hx : Sr H e sz dx es2 con2) (hdis : (con.all fun p => con2.all fun q => !Nat.beq p q) = true)
    (hes : es ++ es2 = es3) (hlen : es3.length * bytes ≤ 140737488355328) (h63 : es3.length ≤ maxLen)
    (hK : ∀ a' w' ν', St n ((d, none, .own r') :: dropr r' σ) ((r', .row e sz es3) :: unpick (con ++ con2) H) C w' a' ν' → wpList P l.toArray Q rest a' w') : wpList P l.toArray Q (o :: rest) a w := by
  subst hes
  rw [List.length_append] at hlen h63
  exact s_app con con2 r' hτ h hw hd hf hp hz hsz hzl h0 hby hr hv hx hdis hlen h63 hK
/-- Cells of one block are written. -/
theorem Ok.put (hO : Ok ν H C w) {s : Nat} {en en' : En} (hs : hl H s = some en) (ho : w'.os = w.os) (ht : w'.tape = w.tape) (hu : w'.output = w.output) (hsz : w'.heap.size = w.heap.size) (hb : ∀ k, ¬ ν.S s k → w'.heap[k]? = w.heap[k]?)
    (he : ∀ F : Nat → Prop, (∀ k, F k ↔ Fz ν H C w k) → EnR ν F w' s en') :
    Ok ν (setH s en' H) C w' ∧ (∀ k, Fz ν H C w k → Fz ν (setH s en' H) C w' k ∧ w'.heap[k]? = w.heap[k]?) := by
  have hmem := hl_mem hs
  have back : ∀ p ∈ setH s en' H, ∃ p' ∈ H, p'.1 = p.1 := by
    intro p hp
    rcases mem_setH hp with ⟨h1, _, e', h2⟩ | ⟨h1, _⟩
    · exact ⟨_, h2, h1.symm⟩
    · exact ⟨p, h1, rfl⟩
  have fwd : ∀ p ∈ H, ∃ p' ∈ setH s en' H, p'.1 = p.1 := by
    intro p hp
    have : p.1 ∈ (setH s en' H).map (·.1) := by rw [setH_rids]; exact List.mem_map.2 ⟨p, hp, rfl⟩
    obtain ⟨p', h1, h2⟩ := List.mem_map.1 this
    exact ⟨p', h1, h2⟩
  have hFz : ∀ k, Fz ν (setH s en' H) C w' k ↔ Fz ν H C w k := by
    intro k
    constructor
    · rintro ⟨h1, h2, h3⟩
      refine ⟨by omega, h2, fun p hp hk => ?_⟩
      obtain ⟨p', h4, h5⟩ := fwd p hp
      exact h3 p' h4 (by rw [h5]; exact hk)
    · rintro ⟨h1, h2, h3⟩
      refine ⟨by omega, h2, fun p hp hk => ?_⟩
      obtain ⟨p', h4, h5⟩ := back p hp
      exact h3 p' h4 (by rw [h5]; exact hk)
  exact hO.step (A := fun _ => True) (fun _ _ => rfl) (fun _ _ => trivial) ho ht hu (by omega) (fun k hk hn => hb k (hn _ hmem))
    (by rw [setH_rids]; exact hO.nd)
    (fun p1 h1 p2 h2 hne => by
      obtain ⟨q1, h3, h4⟩ := back p1 h1
      obtain ⟨q2, h5, h6⟩ := back p2 h2
      rw [← h4, ← h6] at hne ⊢
      exact hO.ap q1 h3 q2 h5 hne)
    (fun p hp k hk => by
      obtain ⟨p', h1, h2⟩ := back p hp
      rw [← h2] at hk
      have := hO.bnd p' h1 k hk
      exact ⟨by omega, .inr ⟨p', h1, hk⟩⟩)
    (fun F hF hFi p hp => by
      rcases mem_setH hp with ⟨h1, h2, _⟩ | ⟨h1, h2⟩
      · rw [h1, h2]
        exact he F (fun k => (hFi k).trans (hFz k))
      · exact (hO.ent p h1).mono hF (fun _ => True) (fun _ _ => rfl) (fun _ hs => absurd trivial hs) trivial rfl (fun k hk => hb k (hO.ap p h1 _ hmem h2 k hk)))
def isSt (τ : List (Nat × TR)) (σ : Sl) (g : Gd) : Op → Option (DV × List DV)
  | .store t p x => match ev σ g p, ev σ g x, tl τ t with
    | some dp, some dx, some q => match cellsD dx with
      | some cs => bif Nat.beq cs.length q.sz then some (dp, cs) else none
      | none => none
    | _, _, _ => none
  | _ => none
theorem run_st (hτ : Tab P τ) (hF : Fr ι F w n σ a) (hg : Gd.on a g) {dp : DV} {cs : List DV} (hp : isSt τ σ g o.op = some (dp, cs)) : ∃ (p : Value) (vs : List Value), DR ι F w p dp ∧ All ι F w vs cs ∧ (∀ u ∈ vs, u.oneCell' = true) ∧
    ∀ (ad : Addr) (w' : World), p = .pointer (some ad) → (storeCells ad vs).run P w = .ok () w' → (execOp a.eval o).run P w = .ok .skip w' := by
  unfold isSt at hp
  split at hp
  · rename_i t p x ho
    split at hp
    · rename_i dp' dx q h1 h2 h3
      split at hp
      · rename_i cs' hc
        cases hb : Nat.beq cs'.length q.sz with
        | false => rw [hb] at hp; cases hp
        | true =>
          rw [hb] at hp
          simp only [cond_true, Option.some.injEq, Prod.mk.injEq] at hp
          obtain ⟨rfl, rfl⟩ := hp
          obtain ⟨h4, h5⟩ := cellsD_ok (hF.eval h2 hg) hc
          refine ⟨a.eval p, (a.eval x).cells.toList, hF.eval h1 hg, h4, h5, fun ad w' hpv hst => ?_⟩
          have hsz : (a.eval x).cells.size = q.sz := by rw [← Array.length_toList, h4.length]; exact Nat.eq_of_beq_eq_true hb
          unfold execOp
          simp only [ho, hpv, Instr.storeAt, Instr.sureAddr, storeVar, Sem.run_bind, Sem.run_pure, Result.andThen_ok, run_sizeOf (hτ.get h3).1, hsz, hst, ne_eq, not_true_eq_false, if_false]
      · cases hp
    · cases hp
  · cases hp
theorem setL_length : ∀ (cs : List DV) (off : Nat) (us : List DV), (setL off cs us).length = us.length
  | [], _, _ => rfl
  | c :: r, off, us => by rw [setL, setL_length r, List.length_set]
theorem set_at : ∀ {vs : List Value} {cs : List DV} {off : Nat} {us : List Value} {ds : List DV} {j : Nat} {u : Value} {d : DV}, vs.length = cs.length → us.length = ds.length → (setV off vs us)[j]? = some u → (setL off cs ds)[j]? = some d → (∃ i : Nat, vs[i]? = some u ∧ cs[i]? = some d) ∨ (us[j]? = some u ∧ ds[j]? = some d)
  | [], [], _, _, _, _, _, _, _, _, h1, h2 => .inr ⟨h1, h2⟩
  | v :: vs, c :: cs, off, us, ds, j, u, d, hl, hl2, h1, h2 => by
    rcases set_at (vs := vs) (cs := cs) (off := off + 1) (us := us.set off v) (ds := ds.set off c) (by simpa using hl) (by simpa using hl2) h1 h2 with ⟨i, h3, h4⟩ | ⟨h3, h4⟩
    · exact .inl ⟨i + 1, by simpa using h3, by simpa using h4⟩
    · by_cases hj : off = j
      · subst hj
        left
        have hlt : off < us.length := by have := (List.getElem?_eq_some_iff.1 h3).1; simpa using this
        rw [List.getElem?_set_self hlt] at h3
        rw [List.getElem?_set_self (by omega)] at h4
        exact ⟨0, by simpa using h3, by simpa using h4⟩
      · right
        rw [List.getElem?_set_ne hj] at h3 h4
        exact ⟨h3, h4⟩
  | [], _ :: _, _, _, _, _, _, _, hl, _, _, _ => by simp at hl
  | _ :: _, [], _, _, _, _, _, _, hl, _, _, _ => by simp at hl
theorem store_row {g0 off ty : Nat} {vs us : List Value} (hg : w.heap[g0]? = some (.cells us.toArray ty (0, 0))) (hle : off + vs.length ≤ us.length) (h1 : ∀ u ∈ vs, u.oneCell' = true) : (storeCells ⟨g0, off, none⟩ vs).run P w = .ok () (w.setRow g0 (setV off vs us).toArray) := by
  have := run_storeCells_at P g0 off ty vs 0 us.toArray w hg (by simpa using hle) h1
  rw [setV_eq vs off us hle]
  simpa using this
/-- A store into a block. -/
theorem e_store {s off ty : Nat} {cells : List DV} {cs : List DV} (hτ : Tab P τ) (hF : Fr ν.v (Fz ν H C w) w n σ a) (hO : Ok ν H C w) (hg : Gd.on a g) (hp : isSt τ σ g o.op = some (.ptr s off, cs)) (hs : hl H s = some (.blk ty cells)) (hle : Nat.ble (off + cs.length) cells.length = true) :
    Eff P o a w ν H C every (setH s (.blk ty (setL off cs cells)) H) .any := by
  obtain ⟨p, vs, h1, h2, h3, hrun⟩ := run_st (P := P) hτ hF hg hp
  obtain ⟨gg, h4, rfl⟩ := h1.ptr_inv
  have hE : EnR ν (Fz ν H C w) w s (.blk ty cells) := hO.ent _ (hl_mem hs)
  obtain ⟨g', us, s', h6, h7, h8, h9, h10, h11, h12⟩ := hE
  have hgg : g' = gg := by rw [h6] at h4; simpa [hdOf] using h4
  subst hgg
  have hle' := Nat.le_of_ble_eq_true hle
  have hvl := h2.length
  have hst := store_row (P := P) h7 (off := off) (vs := vs) (by omega) h3
  have hput := hO.put (w' := w.setRow g' (setV off vs us).toArray) (en' := .blk ty (setL off cs cells)) hs rfl rfl rfl (by simp) (fun k hk => setRow_other w g' k _ (fun he => hk (he ▸ h9))) (fun F hFi => by
    refine ⟨g', setV off vs us, s', h6, setRow_heap w g' _ _ ty _ h7, by rw [setV_length vs off us, setL_length, h8], h9, h10, h11, fun j u d hj hd => ?_⟩
    have hF2 : ∀ k, Fz ν H C w k → F k ∧ (w.setRow g' (setV off vs us).toArray).heap[k]? = w.heap[k]? := fun k hk => ⟨(hFi k).2 hk, setRow_other w g' k _ (fun he => hk.2.2 _ (hl_mem hs) (he ▸ h9))⟩
    rcases set_at hvl h8 hj hd with ⟨i, h13, h14⟩ | ⟨h13, h14⟩
    · exact ⟨h3 u (List.mem_of_getElem? h13), .inl ((h2.at_ i u d h13 h14).keep hF2)⟩
    · obtain ⟨h15, h16⟩ := h12 j u d h13 h14
      refine ⟨h15, h16.imp (fun h => h.keep hF2) (fun h => h.mono hF2 (fun k hk => setRow_other w g' k _ (h10 j k hk).2))⟩)
  exact .of_skip (hrun ⟨g', off, none⟩ _ rfl hst) ⟨ν, fun _ _ => rfl, hput.1, hput.2, .any _⟩
theorem s_store {s off ty : Nat} {cells cells' : List DV} {cs : List DV} (hτ : Tab P τ) (h : St n σ H C w a ν) (hw : Region.wanted o (yielded l.toArray a.tmps) = true) (hd : o.dst = none) (hp : isSt τ σ none o.op = some (.ptr s off, cs)) (hs : hl H s = some (.blk ty cells)) (hle : Nat.ble (off + cs.length) cells.length = true) (hfo : force (setL off cs cells) = some cells')
    (hK : ∀ a' w' ν', St n σ (setH s (.blk ty cells') H) C w' a' ν' → wpList P l.toArray Q rest a' w') : wpList P l.toArray Q (o :: rest) a w := by
  rw [force_eq, Option.some.injEq] at hfo
  subst hfo
  exact s_eff h hw hd (e_store (g := none) hτ h.f h.o trivial hp hs hle) hK
end
end Go.Proofs.YtjjmoihpjmojiaaDoor.D
