/- What a pure operation reckons is what the machine does. -/
import Derived.Test.YtjjmoihpjmojiaaDoorD3
set_option linter.unusedVariables false
set_option linter.unusedSimpArgs false
namespace Go.Proofs.YtjjmoihpjmojiaaDoor.D
open Go.RowKit

section
variable {ν : Nm} {ι : Nat → Value} {F : Nat → Prop} {w : World} {n : Nat} {σ : Sl} {a : Act} {P : Program} {τ : List (Nat × TR)} {H : Hp} {C : Cx}
theorem Fr.eval2 (h : Fr ι F w n σ a) {g k : Gd} {x : Operand} {d : DV} (hx : ev2 σ g k x = some d) (hg : Gd.on a g) (hk : Gd.on a k) : DR ι F w (a.eval x) d := by
  cases x with
  | tmp t =>
    simp only [ev2] at hx
    split at hx
    · rename_i g' v' hl
      cases hq : (gq g' g || gq g' k) with
      | true =>
        rw [hq] at hx
        simp only [cond_true, Option.some.injEq] at hx
        subst hx
        rw [Bool.or_eq_true] at hq
        obtain ⟨v, h1, h2⟩ := h.at_ t _ _ hl (hq.elim (fun hq => gq_on hq hg) (fun hq => gq_on hq hk))
        simpa [Act.eval, h1] using h2
      | false => rw [hq] at hx; cases hx
    · cases hx
  | const u => exact dvc_ok hx
  | func f => cases hx
  | global _ => cases hx
theorem pick_ok (hF : Fr ι F w n σ a) {g : Gd} (hg : Gd.on a g) {c x y : Operand} {d : DV} (h : pick_ σ g c x y = some d) : ∃ b, a.eval c = .bool b ∧ DR ι F w (if b = true then a.eval x else a.eval y) d := by
  unfold pick_ at h
  split at h
  · rename_i s
    split at h
    · rename_i g' b hs
      cases hq : gq g' g with
      | false => rw [hq] at h; cases h
      | true =>
      rw [hq] at h
      simp only [cond_true] at h
      obtain ⟨vb, hb0, hb1⟩ := hF.at_ s _ _ hs (gq_on hq hg)
      have hb2 := hb1.fr_v.1
      subst hb2
      refine ⟨b, by simp [Act.eval, hb0], ?_⟩
      have hon : ∀ u, b = u → Gd.on a (some (s, u)) := by
        intro u hu
        subst hu
        exact hb0
      split at h
      · split at h
        · rename_i z hy
          simp only [Option.some.injEq] at h
          subst h
          cases b with
          | true => exact .fr (.v _ rfl)
          | false => simp only [Bool.false_or]; simpa using hF.eval2 hy hg (hon false rfl)
        · cases h
      · split at h
        · rename_i z hx
          simp only [Option.some.injEq] at h
          subst h
          cases b with
          | false => exact .fr (.v _ rfl)
          | true => simp only [Bool.true_and]; simpa using hF.eval2 hx hg (hon true rfl)
        · cases h
      · split at h
        · rename_i u v' hx hy
          simp only [Option.some.injEq] at h
          subst h
          rw [sel_eq]
          cases b with
          | true => simpa using hF.eval2 hx hg (hon true rfl)
          | false => simpa using hF.eval2 hy hg (hon false rfl)
        · cases h
    · cases h
  · cases h
theorem DR.ptr_inv {v : Value} {r off : Nat} (h : DR ι F w v (.ptr r off)) : ∃ g, hdOf (ι r) = some g ∧ v = .pointer (some ⟨g, off, none⟩) := by
  cases h with
  | fr h => cases h
  | ptr _ g _ h => exact ⟨g, h, rfl⟩
theorem DR.fat_inv {v : Value} {c : List DV} {off : Nat} (h : DR ι F w v (.fat c off)) : ∃ (ad : Addr) (u : Nat → Value), v = .pointer (some (ad.add off)) ∧ F ad.block ∧ (∀ (j : Nat) (d : DV), c[j]? = some d → w.cell? (ad.add j) = some (u j)) ∧ (∀ (j : Nat) (d : DV), c[j]? = some d → FR F w (u j) d) := by
  cases h with
  | fr h => cases h
  | fat ad c off u hF hc hr => exact ⟨ad, u, rfl, hF, hc, hr⟩
theorem DR.agg_inv {v : Value} {ds : List DV} (h : DR ι F w v (.agg ds)) : ∃ us : List Value, v = .agg us.toArray ∧ us.length = ds.length ∧ (∀ u ∈ us, u.oneCell' = true) ∧ ∀ (j : Nat) (u : Value) (d : DV), us[j]? = some u → ds[j]? = some d → DR ι F w u d := by
  cases h with
  | fr h => cases h
  | agg _ us hu h1 h => exact ⟨us, rfl, hu, h1, h⟩
theorem DR.tup_inv {v : Value} {ds : List DV} (h : DR ι F w v (.tup ds)) : ∃ us : List Value, v = .tuple us.toArray ∧ us.length = ds.length ∧ ∀ (j : Nat) (u : Value) (d : DV), us[j]? = some u → ds[j]? = some d → DR ι F w u d := by
  cases h with
  | fr h => cases h
  | tup _ us hu h => exact ⟨us, rfl, hu, h⟩
theorem DR.sl_inv {v : Value} {es : List (List DV)} (h : DR ι F w v (.sl es)) : FR F w v (.sl es) := by
  cases h with
  | fr h => exact h
theorem FR.sl_inv {v : Value} {es : List (List DV)} (h : FR F w v (.sl es)) : ∃ ao cap, v = .slice ao es.length cap := by
  cases h with
  | nil => exact ⟨none, 0, rfl⟩
  | e0 ad => exact ⟨some ad, 0, rfl⟩
  | sl ad cap => exact ⟨some ad, cap, rfl⟩
theorem owns_len {b e sz k : Nat} {v : Value} {xs : List Value} (ho : w.ownsRow b e sz v k xs) : ∃ ao cap, v = .slice ao k cap := by
  rcases ho.2 with ⟨hn, h0⟩ | ⟨g, cap, cur, hv, _⟩
  · exact ⟨none, 0, by rw [hn, h0]⟩
  · exact ⟨_, cap, hv⟩
theorem OT.len {e sz : Nat} {es : List (List DV)} {v : Value} {S : Nat → Prop} (h : OT F w v (.osl e sz es) S) : ∃ ao cap, v = .slice ao es.length cap := by
  cases h with
  | fr h => cases h
  | e0 e sz ad => exact ⟨some ad, 0, rfl⟩
  | osl _ _ _ _ _ _ _ _ ho => exact owns_len ho
theorem lenD_ok (hO : ∀ e ∈ H, EnR ν F w e.1 e.2) {v : Value} {d : DV} {k : Nat} (h : DR ν.v F w v d) (hl : lenD H d = some k) : ∃ ao cap, v = .slice ao k cap := by
  unfold lenD at hl
  split at hl
  · simp only [Option.some.injEq] at hl
    subst hl
    exact h.sl_inv.sl_inv
  · simp only [Option.some.injEq] at hl
    subst hl
    exact ⟨_, _, h.fr_v.1⟩
  · rename_i r
    split at hl
    · rename_i e sz es he
      simp only [Option.some.injEq] at hl
      subst hl
      cases h with
      | fr h => cases h
      | own => exact OT.len (hO _ (hl_mem he))
    · rename_i e sz es i j q he
      simp only [Option.some.injEq] at hl
      subst hl
      cases h with
      | fr h => cases h
      | own =>
        obtain ⟨xs, u, s, ho, _⟩ := hO _ (hl_mem he)
        exact owns_len ho
    · rename_i t m cs he
      simp only [Option.some.injEq] at hl
      subst hl
      cases h with
      | fr h => cases h
      | own =>
        obtain ⟨gg, vs, hv, _⟩ := hO _ (hl_mem he)
        exact ⟨_, _, hv⟩
    · cases hl
  · cases hl
theorem TR.aggB_ {t : Nat} {r : TR} (h : TR.ok P t r) : aggB P t = r.k.agg ∧ (P.underlying t).isSome = true := by
  have h1 := h.2.2
  unfold aggB TK.agg
  cases hk : r.k <;> rw [hk] at h1 <;> simp only at h1
  case struct => obtain ⟨fs, h2, _⟩ := h1; simp [h2]
  case other =>
    obtain ⟨d, h2, h3⟩ := h1
    rw [h2]
    cases d <;> simp_all
  all_goals simp [h1]
/-- A load of cells that are told. -/
theorem run_ldv {t : Nat} {r : TR} (h : TR.ok P t r) (w : World) {ad : Addr} {us : List Value} (hl : us.length = r.sz) (hc : ∀ j u, us[j]? = some u → w.cell? (ad.add j) = some u) (h1 : r.k.agg = false → r.sz = 1) :
    (loadVar t ad).run P w = .ok (bif r.k.agg then .agg us.toArray else us.headD undef) w := by
  obtain ⟨h2, h3⟩ := TR.aggB_ h
  unfold loadVar
  rw [Sem.run_bind, run_isAgg h3, h2, Result.andThen_ok]
  cases hk : r.k.agg with
  | true =>
    simp only [if_true, Sem.run_bind, run_sizeOf h.1, Result.andThen_ok, ← hl, run_loadCells_list w ad us hc, cond_true, Sem.run_pure]
  | false =>
    have h4 := h1 hk
    cases us with
    | nil => simp [← hl] at h4
    | cons u r =>
      have := hc 0 u rfl
      have h0 : ad.add 0 = ad := by simp [Addr.add]
      rw [h0] at this
      simp only [Bool.false_eq_true, if_false, run_load, this, cond_false, List.headD_cons]
theorem run_loadAt {t : Nat} {r : TR} (h : TR.ok P t r) (w : World) {ad : Addr} {us : List Value} (hl : us.length = r.sz) (hc : ∀ j u, us[j]? = some u → w.cell? (ad.add j) = some u) (h1 : r.k.agg = false → r.sz = 1) :
    (Instr.loadAt t (.pointer (some ad))).run P w = .ok (bif r.k.agg then .agg us.toArray else us.headD undef) w := by
  simp only [Instr.loadAt, Instr.sureAddr, Sem.run_bind, Sem.run_pure, Result.andThen_ok, run_ldv h w hl hc h1]
/-- The same by deep values. -/
theorem ldv_ok {t : Nat} {r : TR} (h : TR.ok P t r) {ad : Addr} {cs : List DV} {u : Nat → Value} {d : DV} (hc : ∀ (j : Nat) (d : DV), cs[j]? = some d → w.cell? (ad.add j) = some (u j) ∧ (u j).oneCell' = true ∧ (pl d = true → DR ι F w (u j) d)) (hd : ldv r (cs.take r.sz) = some d) :
    ∃ v, (Instr.loadAt t (.pointer (some ad))).run P w = .ok v w ∧ DR ι F w v d := by
  have hh : ∀ l : List DV, l = cs.take r.sz → l.length = r.sz → (r.k.agg = false → r.sz = 1) → ∃ us : List Value, us.length = l.length ∧ (∀ (j : Nat) (v : Value), us[j]? = some v → v = u j) ∧ (Instr.loadAt t (.pointer (some ad))).run P w = .ok (bif r.k.agg then .agg us.toArray else us.headD undef) w ∧ ∀ (j : Nat) (d : DV), l[j]? = some d → (u j).oneCell' = true ∧ (pl d = true → DR ι F w (u j) d) := by
    intro l hl hlen h1
    have hin : ∀ (j : Nat) (d : DV), l[j]? = some d → cs[j]? = some d := by
      intro j d hj
      rw [hl, List.getElem?_take] at hj
      split at hj
      · exact hj
      · cases hj
    refine ⟨(List.range l.length).map u, by simp, fun j v hj => ?_, run_loadAt h w (by simpa using hlen) (fun j v hj => ?_) h1, fun j d hj => (hc j d (hin j d hj)).2⟩
    · have hlt := (List.getElem?_eq_some_iff.1 hj).1
      simp only [List.length_map, List.length_range] at hlt
      rw [List.getElem?_map, List.getElem?_range hlt] at hj
      simpa using hj.symm
    · have hlt := (List.getElem?_eq_some_iff.1 hj).1
      simp only [List.length_map, List.length_range] at hlt
      rw [List.getElem?_map, List.getElem?_range hlt] at hj
      simp only [Option.map_some, Option.some.injEq] at hj
      subst hj
      exact (hc j _ (hin j l[j] (List.getElem?_eq_getElem hlt))).1
  unfold ldv at hd
  cases hk : r.k.agg with
  | true =>
    rw [hk] at hd
    simp only [cond_true] at hd
    cases hn2 : (Nat.beq (cs.take r.sz).length r.sz && pls (cs.take r.sz)) with
    | false => rw [hn2] at hd; cases hd
    | true =>
      rw [hn2] at hd
      simp only [cond_true, force_eq, Option.some.injEq] at hd
      rw [Bool.and_eq_true] at hn2
      obtain ⟨hn, hp⟩ := hn2
      obtain ⟨us, h1, h2, h3, h4⟩ := hh _ rfl (Nat.eq_of_beq_eq_true hn) (fun hf => by rw [hk] at hf; cases hf)
      rw [hk] at h3
      refine ⟨_, h3, ?_⟩
      subst hd
      simp only [cond_true]
      refine .agg _ us h1 (fun v hv => ?_) (fun j v d hv hd => ?_)
      · obtain ⟨j, hj⟩ := List.getElem?_of_mem hv
        rw [h2 j v hj]
        have hlt := (List.getElem?_eq_some_iff.1 hj).1
        rw [h1] at hlt
        exact (h4 j _ (List.getElem?_eq_getElem hlt)).1
      · rw [h2 j v hv]
        exact (h4 j d hd).2 (pls_at hp j d hd)
  | false =>
    rw [hk] at hd
    simp only [cond_false] at hd
    split at hd
    · rename_i d' hl
      cases hp : pl d' with
      | false => rw [hp] at hd; cases hd
      | true =>
      rw [hp] at hd
      simp only [cond_true, Option.some.injEq] at hd
      subst hd
      have hlen : (cs.take r.sz).length = 1 := by rw [hl]; rfl
      have hsz : r.sz = 1 ∨ 1 < r.sz ∧ cs.length = 1 := by
        rw [List.length_take] at hlen
        omega
      rcases hsz with hsz | ⟨hsz, hcs⟩
      · obtain ⟨us, h1, h2, h3, h4⟩ := hh _ rfl (by rw [hlen, hsz]) (fun _ => hsz)
        rw [hk] at h3
        refine ⟨_, h3, ?_⟩
        rw [hlen] at h1
        cases us with
        | nil => cases h1
        | cons x r =>
          simp only [cond_false, List.headD_cons]
          rw [h2 0 x rfl]
          exact (h4 0 d' (by rw [hl]; rfl)).2 hp
      · -- a type that is no struct, of more than one cell: there is none such, but the load reads one cell alone
        obtain ⟨h5, h6⟩ := TR.aggB_ h
        have h7 := hc 0 d' (by
          have h8 : cs.take r.sz = cs := List.take_of_length_le (by omega)
          rw [h8] at hl
          rw [hl]; rfl)
        refine ⟨u 0, ?_, h7.2.2 hp⟩
        have h0 : ad.add 0 = ad := by simp [Addr.add]
        rw [h0] at h7
        simp only [Instr.loadAt, Instr.sureAddr, Sem.run_bind, Sem.run_pure, Result.andThen_ok, loadVar, run_isAgg h6, h5, hk, Bool.false_eq_true, if_false, run_load, h7.1]
    · cases hd
end
end Go.Proofs.YtjjmoihpjmojiaaDoor.D
