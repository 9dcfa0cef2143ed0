/- Elements of a row of one's own: their places, loads, stores; parts of slices that are read alone. -/
import Derived.Test.YtjjmoihpjmojiaaDoorD19
set_option linter.unusedVariables false
set_option linter.unusedSimpArgs false
namespace Go.Proofs.YtjjmoihpjmojiaaDoor.D
open Go.RowKit

theorem setV_at : ∀ (vs : List Value) (off : Nat) (us : List Value) (p : Nat), (setV off vs us)[p]? = if off ≤ p ∧ p < off + vs.length ∧ p < us.length then vs[p - off]? else us[p]?
  | [], off, us, p => by
    rw [setV, if_neg]
    simp only [List.length_nil]
    omega
  | v :: r, off, us, p => by
    rw [setV, setV_at r (off + 1) (us.set off v) p, List.length_set]
    simp only [List.length_cons]
    by_cases hp : p = off
    · subst hp
      rw [if_neg (by omega)]
      by_cases hl : p < us.length
      · rw [if_pos (by omega), List.getElem?_set_self hl]; simp
      · rw [if_neg (by omega), List.getElem?_eq_none (by simpa using hl), List.getElem?_eq_none (by omega)]
    · rw [List.getElem?_set_ne (Ne.symm hp)]
      by_cases hc : off + 1 ≤ p ∧ p < off + 1 + r.length ∧ p < us.length
      · rw [if_pos hc, if_pos (by omega), show p - off = (p - (off + 1)) + 1 from by omega]
        simp
      · rw [if_neg hc, if_neg (by omega)]
theorem setL_at : ∀ (vs : List DV) (off : Nat) (us : List DV) (p : Nat), (setL off vs us)[p]? = if off ≤ p ∧ p < off + vs.length ∧ p < us.length then vs[p - off]? else us[p]?
  | [], off, us, p => by
    rw [setL, if_neg]
    simp only [List.length_nil]
    omega
  | v :: r, off, us, p => by
    rw [setL, setL_at r (off + 1) (us.set off v) p, List.length_set]
    simp only [List.length_cons]
    by_cases hp : p = off
    · subst hp
      rw [if_neg (by omega)]
      by_cases hl : p < us.length
      · rw [if_pos (by omega), List.getElem?_set_self hl]; simp
      · rw [if_neg (by omega), List.getElem?_eq_none (by simpa using hl), List.getElem?_eq_none (by omega)]
    · rw [List.getElem?_set_ne (Ne.symm hp)]
      by_cases hc : off + 1 ≤ p ∧ p < off + 1 + r.length ∧ p < us.length
      · rw [if_pos hc, if_pos (by omega), show p - off = (p - (off + 1)) + 1 from by omega]
        simp
      · rw [if_neg hc, if_neg (by omega)]
theorem take_setV : ∀ (vs : List Value) (off : Nat) (us : List Value) (m : Nat), (setV off vs us).take m = setV off vs (us.take m)
  | [], _, _, _ => rfl
  | v :: r, off, us, m => by rw [setV, take_setV r, setV, List.take_set]
section
variable {P : Program} {τ : List (Nat × TR)} {n : Nat} {σ σ' : Sl} {H H' H0 H1 HL HR Hn : Hp} {C : Cx} {ν ν' : Nm} {ι : Nat → Value} {F F' : Nat → Prop} {w w' W : World} {a : Act} {l rest ops : List Oper} {Q : Exit → Act → World → Prop} {o : Oper} {d : Nat} {A : Nat → Prop} {x r : DV} {g : Gd} {f : FuncId} {fn : Func} {c : Code} {t e sz bytes len : Nat} {q : TR} {z : List Value} {es es2 es3 : List (List DV)} {S S2 : Nat → Prop} {ds : List DV} {cs : List (List DV)} {dt dx : DV}
/-- A row's block. -/
theorem row_blk {i s : Nat} {c : List DV} {v : Value} {S : Nat → Prop} (h : OT F w v (.osl e sz es) S) (hi : es[i]? = some c) : ∃ (gg cap : Nat) (cur : Array Value) (xs : List Value) (u : Nat → Nat → Value) (s : Nat → Nat → Nat → Prop), v = .slice (some ⟨gg, 0, none⟩) es.length cap ∧ w.heap[gg]? = some (.cells cur e (0, 0)) ∧ es.length ≤ cap ∧ cap ≤ maxLen ∧ cur.size = cap * sz ∧ cur.toList.take (es.length * sz) = xs ∧ xs.length = es.length * sz ∧ S gg ∧
    (∀ (i : Nat) (c : List DV), es[i]? = some c → c.length = sz) ∧
    (∀ (i : Nat) (c : List DV) (j : Nat) (d : DV), es[i]? = some c → c[j]? = some d → xs[i * sz + j]? = some (u i j) ∧ (u i j).oneCell' = true) ∧
    (∀ i j k, s i j k → S k ∧ blkOf v ≠ some k) ∧ (∀ i j i' j' k, s i j k → s i' j' k → i = i' ∧ j = j') ∧
    (∀ (i : Nat) (c : List DV) (j : Nat) (d : DV), es[i]? = some c → c[j]? = some d → OT F w (u i j) d (s i j)) := by
  cases h with
  | fr h => cases h
  | e0 => simp at hi
  | osl _ _ _ _ xs u s _ ho hb hl hx hs hd hc =>
    have hlt := (List.getElem?_eq_some_iff.1 hi).1
    rcases ho.2 with ⟨_, h0⟩ | ⟨gg, cap, cur, hv, _, hg, h1, h2, h3, h4⟩
    · omega
    · exact ⟨gg, cap, cur, xs, u, s, hv, hg, h1, h2, h3, h4, ho.1, hb gg (by rw [hv]; rfl), hl, hx, hs, hd, hc⟩
/-- An element's place in a row of one's own. -/
theorem e_idxR {s : Nat} {i : Int} {cd : List DV} (hτ : Tab P τ) (hF : Fr ν.v (Fz ν H C w) w n σ a) (hO : Ok ν H C w) (hg : Gd.on a g) (hp : isIdx τ σ g o.op = some (.own s, i, sz)) (hs : hl H s = some (.row e sz es)) (h0 : 0 ≤ i) (hi : es[i.toNat]? = some cd) : Eff P o a w ν H C every H (.ptr s (i.toNat * sz)) := by
  unfold isIdx at hp
  split at hp
  · rename_i t x y ho
    split at hp
    · rename_i e0 sz0 z s0 k i' ht hx hy
      split at hp
      · rename_i r hr
        simp only [Option.some.injEq, Prod.mk.injEq] at hp
        obtain ⟨rfl, rfl, rfl⟩ := hp
        have hy' := hF.evalv hy hg
        have hlt := (List.getElem?_eq_some_iff.1 hi).1
        have hil : i' < (es.length : Int) := by omega
        have hv : a.eval x = ν.v s := by
          have := hF.eval hx hg
          generalize a.eval x = v at this
          cases this with
          | fr h => cases h
          | own => rfl
        obtain ⟨gg, cap, cur, xs, u, s', h1, _⟩ := row_blk (s := 0) (show OT (Fz ν H C w) w (ν.v s) (.osl e r.sz es) (ν.S s) from hO.ent _ (hl_mem hs)) hi
        have hrun : (execOp a.eval o).run P w = .ok (.value (.pointer (some ((⟨gg, 0, none⟩ : Addr).add (i'.toNat * r.sz))))) w := by
          unfold execOp
          simp only [ho]
          refine run_val ?_
          rw [hv, h1, hy']
          exact run_idx ((hτ.get ht).2.2) (hτ.get hr) h0 hil w
        have hadd : (⟨gg, 0, none⟩ : Addr).add (i'.toNat * r.sz) = ⟨gg, i'.toNat * r.sz, none⟩ := by
          unfold Addr.add
          split
          · simp_all
          · simp
        rw [hadd] at hrun
        exact .of_run hrun ⟨ν, fun _ _ => rfl, hO, fun k hk => ⟨hk, rfl⟩, .ptr s gg _ (by rw [h1]; rfl)⟩
      · cases hp
    · cases hp
  · cases hp
theorem s_idxR {s : Nat} {i : Int} {cd : List DV} (hτ : Tab P τ) (h : St n σ H C w a ν) (hw : Region.wanted o (yielded l.toArray a.tmps) = true) (hd : o.dst = some d) (hf : free n d σ = true) (hp : isIdx τ σ none o.op = some (.own s, i, sz)) (hs : hl H s = some (.row e sz es)) (h0 : 0 ≤ i) (hi : es[i.toNat]? = some cd)
    (hK : ∀ a' w' ν', St n ((d, none, .ptr s (i.toNat * sz)) :: σ) H C w' a' ν' → wpList P l.toArray Q rest a' w') : wpList P l.toArray Q (o :: rest) a w :=
  s_val h hw hd hf (e_idxR (g := none) hτ h.f h.o trivial hp hs h0 hi) hK
def isLd (τ : List (Nat × TR)) (σ : Sl) (g : Gd) : Op → Option (DV × TR)
  | .load t x => match ev σ g x, tl τ t with
    | some d, some r => some (d, r)
    | _, _ => none
  | _ => none
/-- A load from an element. -/
theorem e_ldR {s off i k : Nat} {q : TR} {cd : List DV} (hτ : Tab P τ) (hF : Fr ν.v (Fz ν H C w) w n σ a) (hO : Ok ν H C w) (hg : Gd.on a g) (hp : isLd τ σ g o.op = some (.ptr s off, q)) (hs : hl H s = some (.row e sz es)) (hi : es[i]? = some cd) (hoff : off = i * sz + k) (hv : ldv q ((cd.drop k).take q.sz) = some x) : Eff P o a w ν H C every H x := by
  unfold isLd at hp
  split at hp
  · rename_i t y ho
    split at hp
    · rename_i d' r h1 h2
      simp only [Option.some.injEq, Prod.mk.injEq] at hp
      obtain ⟨rfl, rfl⟩ := hp
      obtain ⟨gg, cap, cur, xs, u, s', h3, h4, h5, h6, h7, h8, h9, h10, h11, h12, h13, h14, h15⟩ := row_blk (s := 0) (show OT (Fz ν H C w) w (ν.v s) (.osl e sz es) (ν.S s) from hO.ent _ (hl_mem hs)) hi
      obtain ⟨g', h16, h17⟩ := (hF.eval h1 hg).ptr_inv
      have hgg : g' = gg := by rw [h3] at h16; simpa [hdOf] using h16.symm
      subst hgg
      obtain ⟨v, h18, h19⟩ := ldv_ok (ι := ν.v) (F := Fz ν H C w) (w := w) (hτ.get h2) (ad := ⟨g', off, none⟩) (cs := cd.drop k) (u := fun j => u i (k + j)) (d := x) (fun j d hj => by
        rw [List.getElem?_drop] at hj
        obtain ⟨h20, h21⟩ := h12 i cd (k + j) d hi hj
        have hadd : (⟨g', off, none⟩ : Addr).add j = ⟨g', off + j, none⟩ := by
          unfold Addr.add
          by_cases h0 : j = 0
          · subst h0; simp
          · simp [h0]
        rw [hadd, cell_of_row w g' (off + j) _ _ _ h4]
        rw [← h8, List.getElem?_take] at h20
        split at h20
        · refine ⟨?_, h21, fun hpl => .fr ((h15 i cd (k + j) d hi hj).fr_of hpl)⟩
          rw [hoff, Nat.add_assoc]
          simpa using h20
        · cases h20) hv
      have hrun : (execOp a.eval o).run P w = .ok (.value v) w := by
        unfold execOp
        simp only [ho]
        exact run_val (by rw [h17]; exact h18)
      exact .of_run hrun ⟨ν, fun _ _ => rfl, hO, fun k hk => ⟨hk, rfl⟩, h19⟩
    · cases hp
  · cases hp
theorem s_ldR {s off i k : Nat} {q : TR} {cd : List DV} (hτ : Tab P τ) (h : St n σ H C w a ν) (hw : Region.wanted o (yielded l.toArray a.tmps) = true) (hd : o.dst = some d) (hf : free n d σ = true) (hp : isLd τ σ none o.op = some (.ptr s off, q)) (hs : hl H s = some (.row e sz es)) (hi : es[i]? = some cd) (hoff : off = i * sz + k) (hv : ldv q ((cd.drop k).take q.sz) = some x)
    (hK : ∀ a' w' ν', St n ((d, none, x) :: σ) H C w' a' ν' → wpList P l.toArray Q rest a' w') : wpList P l.toArray Q (o :: rest) a w :=
  s_val h hw hd hf (e_ldR (g := none) hτ h.f h.o trivial hp hs hi hoff hv) hK
def frb : List DV → Bool
  | [] => true
  | .v _ :: l => frb l
  | .sl _ :: l => frb l
  | _ => false
theorem frb_at : ∀ {l : List DV}, frb l = true → ∀ (j : Nat) (d : DV), l[j]? = some d → (∃ x, d = .v x) ∨ ∃ es, d = .sl es
  | [], _, j, d, h => by simp at h
  | x :: l, hn, j, d, h => by
    unfold frb at hn
    split at hn
    · rename_i heq; cases heq
    · rename_i y l' heq
      simp only [List.cons.injEq] at heq
      obtain ⟨rfl, rfl⟩ := heq
      cases j with
      | zero => simp only [List.getElem?_cons_zero, Option.some.injEq] at h; exact .inl ⟨y, h.symm⟩
      | succ j => exact frb_at hn j d (by simpa using h)
    · rename_i y l' heq
      simp only [List.cons.injEq] at heq
      obtain ⟨rfl, rfl⟩ := heq
      cases j with
      | zero => simp only [List.getElem?_cons_zero, Option.some.injEq] at h; exact .inr ⟨y, h.symm⟩
      | succ j => exact frb_at hn j d (by simpa using h)
    · cases hn
/-- A store into an element. -/
theorem e_stR {s off i k : Nat} {cs cd : List DV} (hτ : Tab P τ) (hF : Fr ν.v (Fz ν H C w) w n σ a) (hO : Ok ν H C w) (hg : Gd.on a g) (hp : isSt τ σ g o.op = some (.ptr s off, cs)) (hs : hl H s = some (.row e sz es)) (hi : es[i]? = some cd) (hoff : off = i * sz + k) (hle : Nat.ble (k + cs.length) sz = true) (hfr : frb cs = true) :
    Eff P o a w ν H C every (setH s (.row e sz (es.set i (setL k cs cd))) H) .any := by
  obtain ⟨p, vs, h1, h2, h3, hrun⟩ := run_st (P := P) hτ hF hg hp
  obtain ⟨gg, cap, cur, xs, u, s', hv, hgb, h5, h6, h7, h8, h9, h10, h11, h12, h13, h14, h15⟩ := row_blk (s := 0) (show OT (Fz ν H C w) w (ν.v s) (.osl e sz es) (ν.S s) from hO.ent _ (hl_mem hs)) hi
  obtain ⟨g', h16, rfl⟩ := h1.ptr_inv
  have hgg : g' = gg := by rw [hv] at h16; simpa [hdOf] using h16.symm
  subst hgg
  have hle' := Nat.le_of_ble_eq_true hle
  have hvl := h2.length
  have hil := (List.getElem?_eq_some_iff.1 hi).1
  have hcdl := h11 i cd hi
  have hin : off + vs.length ≤ es.length * sz := by
    have : (i + 1) * sz ≤ es.length * sz := Nat.mul_le_mul_right _ hil
    rw [Nat.add_mul, Nat.one_mul] at this
    omega
  have hcur : es.length * sz ≤ cur.toList.length := by
    have h20 : cur.toList.length = cap * sz := by simpa using h7
    have h21 : es.length * sz ≤ cap * sz := Nat.mul_le_mul_right _ h5
    omega
  have hgb' : w.heap[g']? = some (.cells cur.toList.toArray e (0, 0)) := by simpa using hgb
  have hst := store_row (P := P) hgb' (off := off) (vs := vs) (by omega) h3
  have hbk : ∀ k', k' ≠ g' → (w.setRow g' (setV off vs cur.toList).toArray).heap[k']? = w.heap[k']? := fun k' hk' => setRow_other w g' k' _ (fun he => hk' he)
  have hput := hO.put (w' := w.setRow g' (setV off vs cur.toList).toArray) (en' := .row e sz (es.set i (setL k cs cd))) hs rfl rfl rfl (by simp) (fun k' hk => hbk k' (fun he => hk (he ▸ h10))) (fun F hFi => by
    have hF2 : ∀ k', Fz ν H C w k' → F k' ∧ (w.setRow g' (setV off vs cur.toList).toArray).heap[k']? = w.heap[k']? := fun k' hk => ⟨(hFi k').2 hk, hbk k' (fun he => hk.2.2 _ (hl_mem hs) (he ▸ h10))⟩
    have hxs : (setV off vs cur.toList).take (es.length * sz) = setV off vs xs := by rw [take_setV, h8]
    refine .osl e sz _ _ (setV off vs xs) (fun i' j' => if i' = i ∧ k ≤ j' ∧ j' < k + vs.length then vs.getD (j' - k) undef else u i' j') s' (ν.S s) ?_ (fun k' hk => by rw [hv] at hk; simp only [blkOf, Option.some.injEq] at hk; rw [← hk]; exact h10) (fun i' c' hi' => ?_) (fun i' c' j' d' hi' hj' => ?_) (fun i' j' k' h => h13 i' j' k' h) h14 (fun i' c' j' d' hi' hj' => ?_)
    · rw [List.length_set, hv]
      exact ⟨by rw [setV_length vs off xs, h9], .inr ⟨g', cap, _, rfl, Nat.zero_le _, setRow_heap w g' _ _ e _ hgb, h5, h6, by simp only [List.size_toArray]; rw [setV_length vs off cur.toList, Array.length_toList, h7], by simpa using hxs⟩⟩
    · by_cases hii : i = i'
      · subst hii
        rw [List.getElem?_set_self hil] at hi'
        simp only [Option.some.injEq] at hi'; subst hi'
        rw [setL_length, hcdl]
      · rw [List.getElem?_set_ne hii] at hi'
        exact h11 i' c' hi'
    · rw [setV_at]
      by_cases hii : i = i'
      · subst hii
        rw [List.getElem?_set_self hil] at hi'
        · simp only [Option.some.injEq] at hi'; subst hi'
          rw [setL_at] at hj'
          split at hj'
          · rename_i hc
            have hvk : vs[j' - k]? = some (vs[j' - k]'(by omega)) := List.getElem?_eq_getElem (by omega)
            rw [if_pos (by rw [h9]; omega), if_pos (by omega)]
            have e1 : i * sz + j' - off = j' - k := by omega
            have e2 : vs.getD (j' - k) undef = vs[j' - k]'(by omega) := by simp [List.getD_eq_getElem?_getD, hvk]
            rw [e1, hvk, e2]
            exact ⟨rfl, h3 _ (List.mem_of_getElem? hvk)⟩
          · rename_i hc
            have hjl := (List.getElem?_eq_some_iff.1 hj').1
            have hnc : ¬ (k ≤ j' ∧ j' < k + vs.length) := fun hq => hc ⟨hq.1, by omega, hjl⟩
            rw [if_neg (by omega), if_neg (fun hq => hnc hq.2)]
            exact h12 i cd j' d' hi hj'
      · rw [List.getElem?_set_ne hii] at hi'
        have hjl := (List.getElem?_eq_some_iff.1 hj').1
        have hcl := h11 i' c' hi'
        rw [if_neg, if_neg (fun hq => hii hq.1.symm)]
        · exact h12 i' c' j' d' hi' hj'
        · rintro ⟨hq1, hq2, _⟩
          rcases Nat.lt_or_ge i' i with hlt | hge
          · have : (i' + 1) * sz ≤ i * sz := Nat.mul_le_mul_right _ hlt
            rw [Nat.add_mul, Nat.one_mul] at this
            omega
          · have hlt : i < i' := by omega
            have : (i + 1) * sz ≤ i' * sz := Nat.mul_le_mul_right _ hlt
            rw [Nat.add_mul, Nat.one_mul] at this
            omega
    · have old : ∀ (c : List DV), es[i']? = some c → c[j']? = some d' → OT F (w.setRow g' (setV off vs cur.toList).toArray) (u i' j') d' (s' i' j') := fun c ha hb => (h15 i' c j' d' ha hb).mono hF2 (fun k' hk => hbk k' (fun he => (h13 i' j' k' hk).2 (by rw [hv, he]; rfl)))
      by_cases hii : i = i'
      · subst hii
        rw [List.getElem?_set_self hil] at hi'
        · simp only [Option.some.injEq] at hi'; subst hi'
          rw [setL_at] at hj'
          split at hj'
          · rename_i hc
            have hvk : vs[j' - k]? = some (vs[j' - k]'(by omega)) := List.getElem?_eq_getElem (by omega)
            have e2 : vs.getD (j' - k) undef = vs[j' - k]'(by omega) := by simp [List.getD_eq_getElem?_getD, hvk]
            rw [if_pos (by omega), e2]
            have h20 := h2.at_ (j' - k) _ d' hvk hj'
            have h21 : FR (Fz ν H C w) w (vs[j' - k]'(by omega)) d' := by
              rcases frb_at hfr (j' - k) d' hj' with ⟨y, rfl⟩ | ⟨y, rfl⟩
              · generalize vs[j' - k]'(by omega) = vv at h20
                cases h20 with
                | fr h => exact h
              · exact h20.sl_inv
            exact .fr (h21.mono hF2) _
          · rename_i hc
            have hjl := (List.getElem?_eq_some_iff.1 hj').1
            have hnc : ¬ (k ≤ j' ∧ j' < k + vs.length) := fun hq => hc ⟨hq.1, by omega, hjl⟩
            rw [if_neg (fun hq => hnc hq.2)]
            exact old cd hi hj'
      · rw [List.getElem?_set_ne hii] at hi'
        rw [if_neg (fun hq => hii hq.1.symm)]
        exact old c' hi' hj')
  exact .of_skip (hrun ⟨g', off, none⟩ _ rfl hst) ⟨ν, fun _ _ => rfl, hput.1, hput.2, .any _⟩
theorem s_stR {s off i k : Nat} {cs cd cd' : List DV} (hτ : Tab P τ) (h : St n σ H C w a ν) (hw : Region.wanted o (yielded l.toArray a.tmps) = true) (hd : o.dst = none) (hp : isSt τ σ none o.op = some (.ptr s off, cs)) (hs : hl H s = some (.row e sz es)) (hi : es[i]? = some cd) (hoff : off = i * sz + k) (hle : Nat.ble (k + cs.length) sz = true) (hfr : frb cs = true) (hfo : force (setL k cs cd) = some cd') (hes : es.set i cd' = es3)
    (hK : ∀ a' w' ν', St n σ (setH s (.row e sz es3) H) C w' a' ν' → wpList P l.toArray Q rest a' w') : wpList P l.toArray Q (o :: rest) a w := by
  rw [force_eq, Option.some.injEq] at hfo
  subst hfo hes
  exact s_eff h hw hd (e_stR (g := none) hτ h.f h.o trivial hp hs hi hoff hle hfr) hK
end
end Go.Proofs.YtjjmoihpjmojiaaDoor.D
