/- Literals of slices as an operation; stores into a block. -/
import Derived.Test.YtjjmoihpjmojiaaDoorD16
set_option linter.unusedVariables false
set_option linter.unusedSimpArgs false
namespace Go.Proofs.YtjjmoihpjmojiaaDoor.D
open Go.RowKit

section
variable {P : Program} {τ : List (Nat × TR)} {n : Nat} {σ σ' : Sl} {H H' H0 H1 HL HR Hn : Hp} {C : Cx} {ν ν' : Nm} {ι : Nat → Value} {F F' : Nat → Prop} {w w' W : World} {a : Act} {l rest ops : List Oper} {Q : Exit → Act → World → Prop} {o : Oper} {d : Nat} {A : Nat → Prop} {x r : DV} {g : Gd} {f : FuncId} {fn : Func} {c : Code} {t e sz bytes len : Nat} {q : TR} {z : List Value} {es es2 : List (List DV)} {S S2 : Nat → Prop} {ds : List DV} {cs : List (List DV)}
/-- A cell that goes in. -/
theorem abs_ok (hO : Ok ν H C w) {u : Value} {d : DV} (h : DR ν.v (Fz ν H C w) w u d) (hk : absOk H d = true) : OT (Fz ν H C w) w u (abs1 H d) (fun k => ∃ q, d = .own q ∧ ν.S q k) := by
  unfold absOk at hk
  split at hk
  · rename_i q
    split at hk
    · rename_i e sz es he
      have : u = ν.v q := by cases h with
        | fr h => cases h
        | own => rfl
      subst this
      unfold abs1
      simp only [he]
      have h1 : OT (Fz ν H C w) w (ν.v q) (.osl e sz es) (ν.S q) := hO.ent _ (hl_mem he)
      exact h1.wide (fun k hk => ⟨q, rfl, hk⟩)
    · cases hk
  · cases h with
    | fr h => exact .fr h _
  · exact .fr h.sl_inv _
  · cases hk
theorem e_lit (r' : Nat) (hτ : Tab P τ) (hF : Fr ν.v (Fz ν H C w) w n σ a) (hO : Ok ν H C w) (hg : Gd.on a g) (hp : isLit τ σ g o.op = some (e, q, ds, len)) (hz : q.z = some z) (hsz : q.sz = sz) (hzl : z.length = sz) (h0 : 0 < sz) (hcs : cellsAll ds = some cs) (hk : litOk H sz len ds cs = true) (hr : fresh C H r' = true) :
    Eff P o a w ν H C (but r') ((r', .row e sz (absm H cs)) :: unpick (owns (flat cs)) H) (.own r') := by
  unfold isLit at hp
  split at hp
  · rename_i t len' parts ho
    split at hp
    · rename_i e' sz' z' ps ht hps
      split at hp
      · rename_i q' ds' hq hds
        simp only [Option.some.injEq, Prod.mk.injEq] at hp
        obtain ⟨rfl, rfl, rfl, rfl⟩ := hp
        unfold litOk at hk
        simp only [Bool.and_eq_true] at hk
        obtain ⟨⟨⟨hk1, hk2⟩, hk3⟩, hk4⟩ := hk
        have hdl : ds'.length = len' := Nat.eq_of_beq_eq_true hk1
        have hsm : len' * sz ≤ 16777216 := Nat.le_of_ble_eq_true hk4
        have hcl : ∀ c ∈ cs, c.length = sz ∧ absAll H c = true := fun c hc => by
          have := List.all_eq_true.1 hk2 c hc
          rw [Bool.and_eq_true] at this
          exact ⟨Nat.eq_of_beq_eq_true this.1, this.2⟩
        obtain ⟨hi1, hi2⟩ := seqIdx_ok hds
        obtain ⟨he1, he2⟩ := evp_ok hF hg hps
        rw [hi1] at he2
        let us : List Value := (parts.toList.map (fun x => (x.1, a.eval x.2))).map (·.2)
        have hus : All ν.v (Fz ν H C w) w us ds' := he2
        have husl : us.length = len' := hus.length.trans hdl
        obtain ⟨hc1, hc2⟩ := cellsAll_ok hus hcs
        have huc : ∀ u ∈ us, u.cells.toList.length = sz := by
          intro u hu
          obtain ⟨i, hi⟩ := List.getElem?_of_mem hu
          have hlt := (List.getElem?_eq_some_iff.1 hi).1
          have hci : cs[i]? = some (cs[i]'(by omega)) := List.getElem?_eq_getElem (by omega)
          rw [(hc2 i u _ hi hci).1.length]
          exact (hcl _ (List.mem_of_getElem? hci)).1
        obtain ⟨zv, hzr, hzc⟩ := zero_of (hτ.get hq) hz
        let cells : List Value := us.flatMap fun v => v.cells.toList
        have hcelll : cells.length = len' * sz := by rw [← husl]; exact flatv_len huc
        have hparts : (parts.map fun (x : Nat × Operand) => (x.1, a.eval x.2)).toList = (us.zipIdx 0).map fun p => (p.2, p.1) := by
          rw [Array.toList_map]
          have hpl : ps.length = us.length := by rw [hus.length, ← hi1, List.length_map]
          apply List.ext_getElem?
          intro i
          rw [List.getElem?_map, List.getElem?_map, List.getElem?_zipIdx]
          have h1 := congrArg (fun l => l[i]?) (he1.trans hi2)
          simp only [List.getElem?_map] at h1
          simp only [us, List.getElem?_map]
          cases hpi : parts.toList[i]? with
          | none => rfl
          | some p =>
            rw [hpi] at h1
            simp only [Option.map_some] at h1 ⊢
            have hlt : i < ps.length := by
              have := (List.getElem?_eq_some_iff.1 hpi).1
              rw [hpl]; simp only [us, List.length_map]; exact this
            rw [List.getElem?_range' hlt] at h1
            simp only [Option.some.injEq] at h1
            simp only [Option.some.injEq, Prod.mk.injEq, and_true]
            omega
        have hrun : (execOp a.eval o).run P w = .ok (.value (.slice (some ⟨w.heap.size, 0, none⟩) len' len')) (w.alloc (.cells cells.toArray e')) := by
          unfold execOp
          simp only [ho]
          refine run_val ?_
          unfold Instr.buildSlice
          have hu : P.underlying t = some (.slice e') := (hτ.get ht).2.2
          have hsz2 : (P.info? e').map (·.size) = some sz := by rw [← hsz]; exact (hτ.get hq).1
          have hng : ¬ (len' * sz > 2 ^ 24) := by omega
          have hfill : ∀ zc : Array Value, zc.size = len' * sz → Instr.fill (fun i => some (i * sz, sz)) zc (parts.map fun (x : Nat × Operand) => (x.1, a.eval x.2)).toList = some cells.toArray := by
            intro zc hzc
            rw [hparts]
            have := fill_seq sz us 0 [] zc.toList huc (by simp) (by simp [hzc, husl])
            simpa using this
          have hsize0 : ∀ b : Array Value, ((Array.range (len' * sz)).map (fun i => b[i % b.size]!)).size = len' * sz := fun b => by simp
          simp only [Sem.run_bind, run_underlying hu, run_sizeOf hsz2, Result.andThen_ok, hng, if_false, Sem.run_pure]
          by_cases h0 : len' * sz = 0
          · simp only [h0, if_true, Sem.run_pure, Result.andThen_ok]
            have hf0 : ∀ zc : Array Value, zc.size = 0 → Instr.fill (fun i => some (i * sz, sz)) zc (List.map (fun x => (x.fst, a.eval x.snd)) parts.toList) = some cells.toArray := by
              intro zc hzc
              have := hfill zc (hzc.trans h0.symm)
              rwa [Array.toList_map] at this
            have hz0 : ((Array.range 0).map (fun i => (#[] : Array Value)[i % (#[] : Array Value).size]!)).size = 0 := by simp
            have hf1 := hf0 (Array.map (fun _ => default) (Array.range 0)) (by simp)
            simp [newRow, hf1]
          · simp only [h0, if_false, Sem.run_bind, hzr, Result.andThen_ok, Sem.run_pure, hfill _ (hsize0 _)]
            simp [newRow]
        have hfr := fresh_H hr
        let S : Nat → Prop := fun k => k = w.heap.size ∨ ∃ p ∈ owns (flat cs), ν.S p k
        have hin : ∀ p ∈ owns (flat cs), ∃ en, (p, en) ∈ H := by
          intro p hp
          obtain ⟨j, hj⟩ := owns_at hp
          obtain ⟨e1, s1, es1, h1⟩ := absOk_own (absAll_at (absAll_flat (fun c hc => (hcl c hc).2)) j _ hj)
          exact ⟨_, hl_mem h1⟩
        have hSin : ∀ k, S k → k < (w.alloc (.cells cells.toArray e')).heap.size ∧ (w.heap.size ≤ k ∨ ∃ p ∈ H, p.1 ∈ owns (flat cs) ∧ ν.S p.1 k) := by
          intro k hk
          rcases hk with h | ⟨p, hp, h⟩
          · subst h; exact ⟨by simp, .inl (Nat.le_refl _)⟩
          · obtain ⟨en, he⟩ := hin p hp
            refine ⟨?_, .inr ⟨(p, en), he, hp, h⟩⟩
            have := hO.bnd _ he k h
            simp only [World.alloc, Array.size_push] at this ⊢
            omega
        have hlt : ∀ p ∈ unpick (owns (flat cs)) H, ∀ k, S k → ν.S p.1 k → False := by
          intro p hp k hk hs
          obtain ⟨hp1, hp2⟩ := mem_unpick hp
          rcases (hSin k hk).2 with h | ⟨p', hp', hc, h'⟩
          · have := hO.bnd p hp1 k hs; omega
          · exact hO.ap p hp1 p' hp' (fun he => hp2 (he ▸ hc)) k hs h'
        have hheap : ∀ k, k < w.heap.size → (w.alloc (.cells cells.toArray e')).heap[k]? = w.heap[k]? := fun k hk => heap_alloc_old w _ k hk
        have hst := hO.step (ν' := upd ν r' (.slice (some ⟨w.heap.size, 0, none⟩) len' len') S) (w' := w.alloc (.cells cells.toArray e')) (H' := (r', .row e' sz (absm H cs)) :: unpick (owns (flat cs)) H) (A := but r') (fun s hs => upd_v_ne hs) (fresh_L hr) rfl rfl rfl (by simp) (fun k hk _ => hheap k hk)
          (by
            rw [List.map_cons, List.nodup_cons]
            refine ⟨fun hm => ?_, hO.nd.sublist (List.filter_sublist.map _)⟩
            obtain ⟨p, hp, hq⟩ := List.mem_map.1 hm
            exact (hfr p (mem_unpick hp).1).1 hq)
          (by
            intro p1 h1 p2 h2 hne k hk1 hk2
            rcases List.mem_cons.1 h1 with rfl | h1 <;> rcases List.mem_cons.1 h2 with rfl | h2
            · exact hne rfl
            · rw [upd_S] at hk1
              rw [upd_S_ne (hfr p2 (mem_unpick h2).1).1] at hk2
              exact hlt p2 h2 k hk1 hk2
            · rw [upd_S] at hk2
              rw [upd_S_ne (hfr p1 (mem_unpick h1).1).1] at hk1
              exact hlt p1 h1 k hk2 hk1
            · rw [upd_S_ne (hfr p1 (mem_unpick h1).1).1] at hk1
              rw [upd_S_ne (hfr p2 (mem_unpick h2).1).1] at hk2
              exact hO.ap p1 (mem_unpick h1).1 p2 (mem_unpick h2).1 hne k hk1 hk2)
          (by
            intro p hp k hk
            rcases List.mem_cons.1 hp with rfl | hp
            · rw [upd_S] at hk
              obtain ⟨h1, h2⟩ := hSin k hk
              refine ⟨h1, h2.imp id (fun ⟨p', hp', _, h'⟩ => ⟨p', hp', h'⟩)⟩
            · rw [upd_S_ne (hfr p (mem_unpick hp).1).1] at hk
              have := hO.bnd p (mem_unpick hp).1 k hk
              exact ⟨by simp; omega, .inr ⟨p, (mem_unpick hp).1, hk⟩⟩)
          (by
            intro F hF' hFi p hp
            rcases List.mem_cons.1 hp with rfl | hp
            · show OT F _ ((upd ν r' _ S).v r') _ ((upd ν r' _ S).S r')
              rw [upd_v, upd_S]
              have hml : (absm H cs).length = len' := by rw [absm_eq, List.length_map, ← hc1, husl]
              have hmat : ∀ (i : Nat) (c : List DV) (j : Nat) (d : DV), (absm H cs)[i]? = some c → c[j]? = some d → ∃ c0 d0 u y, cs[i]? = some c0 ∧ c0[j]? = some d0 ∧ d = abs1 H d0 ∧ us[i]? = some u ∧ u.cells.toList[j]? = some y := by
                intro i c j d hi hj
                rw [absm_eq, List.getElem?_map] at hi
                obtain ⟨c0, h1, rfl⟩ := Option.map_eq_some_iff.1 hi
                rw [abss_eq, List.getElem?_map] at hj
                obtain ⟨d0, h2, rfl⟩ := Option.map_eq_some_iff.1 hj
                have hil := (List.getElem?_eq_some_iff.1 h1).1
                have hu1 : us[i]? = some (us[i]'(by omega)) := List.getElem?_eq_getElem (by omega)
                have hjl := (List.getElem?_eq_some_iff.1 h2).1
                have h3 := (hc2 i _ c0 hu1 h1).1.length
                have hy : (us[i]'(by omega)).cells.toList[j]? = some ((us[i]'(by omega)).cells.toList[j]'(by omega)) := List.getElem?_eq_getElem (by omega)
                exact ⟨c0, d0, _, _, h1, h2, rfl, hu1, hy⟩
              have hown : (w.alloc (.cells cells.toArray e')).ownsRow 0 e' sz (.slice (some ⟨w.heap.size, 0, none⟩) len' len') len' cells.toArray.toList := World.ownsRow_lit w cells.toArray len' (Nat.zero_le _) (by
                have : len' ≤ len' * sz := Nat.le_mul_of_pos_right _ h0
                simp only [maxLen]; omega) (by simpa using hcelll)
              refine .osl e' sz (absm H cs) _ cells (fun i j => ((us[i]?).getD undef).cells.toList.getD j undef) (fun i j k => ∃ (c0 : List DV) (q : Nat), cs[i]? = some c0 ∧ c0[j]? = some (DV.own q) ∧ ν.S q k) S (by rw [hml]; simpa using hown) (fun k hk => ?_) (fun i c hi => ?_) (fun i c j d hi hj => ?_) (fun i j k h => ?_) (fun i j i' j' k h1 h2 => ?_) (fun i c j d hi hj => ?_)
              · simp only [blkOf, Option.some.injEq] at hk; exact .inl hk.symm
              · rw [absm_eq, List.getElem?_map] at hi
                obtain ⟨c0, h1, rfl⟩ := Option.map_eq_some_iff.1 hi
                rw [abss_eq, List.length_map]
                exact (hcl c0 (List.mem_of_getElem? h1)).1
              · obtain ⟨c0, d0, u, y, h1, h2, rfl, h3, h4⟩ := hmat i c j d hi hj
                have h5 : ((us[i]?).getD undef).cells.toList.getD j undef = y := by simp [h3, List.getD_eq_getElem?_getD, h4]
                rw [h5]
                exact ⟨flatv_at huc h3 h4, (hc2 i u c0 h3 h1).2 y (List.mem_of_getElem? h4)⟩
              · obtain ⟨c0, q, h1, h2, h3⟩ := h
                have hq : q ∈ owns (flat cs) := owns_mem (flat_at (fun c hc => (hcl c hc).1) h1 h2)
                refine ⟨.inr ⟨q, hq, h3⟩, fun hb => ?_⟩
                simp only [blkOf, Option.some.injEq] at hb
                obtain ⟨en, he⟩ := hin q hq
                have hkl : k < w.heap.size := hO.bnd _ he k h3
                omega
              · obtain ⟨c0, q, h3, h4, h5⟩ := h1
                obtain ⟨c0', q', h6, h7, h8⟩ := h2
                have f1 := flat_at (fun c hc => (hcl c hc).1) h3 h4
                have f2 := flat_at (fun c hc => (hcl c hc).1) h6 h7
                have hqq : q = q' := by
                  by_cases hne : q = q'
                  · exact hne
                  · obtain ⟨en, he⟩ := hin q (owns_mem f1)
                    obtain ⟨en', he'⟩ := hin q' (owns_mem f2)
                    exact absurd h8 (hO.ap _ he _ he' hne k h5)
                subst hqq
                have hpos := owns_inj hk3 f1 f2
                have l1 := (hcl c0 (List.mem_of_getElem? h3)).1
                have l2 := (hcl c0' (List.mem_of_getElem? h6)).1
                have hj1 := (List.getElem?_eq_some_iff.1 h4).1
                have hj2 := (List.getElem?_eq_some_iff.1 h7).1
                have h0 : 0 < sz := by omega
                have a1 : (i * sz + j) / sz = i := by rw [Nat.mul_comm, Nat.mul_add_div h0, Nat.div_eq_of_lt (by omega), Nat.add_zero]
                have a2 : (i' * sz + j') / sz = i' := by rw [Nat.mul_comm, Nat.mul_add_div h0, Nat.div_eq_of_lt (by omega), Nat.add_zero]
                have hii : i = i' := by rw [← a1, ← a2, hpos]
                subst hii
                exact ⟨rfl, by omega⟩
              · obtain ⟨c0, d0, u, y, h1, h2, rfl, h3, h4⟩ := hmat i c j d hi hj
                have h5 : ((us[i]?).getD undef).cells.toList.getD j undef = y := by simp [h3, List.getD_eq_getElem?_getD, h4]
                rw [h5]
                have h6 := (hc2 i u c0 h3 h1).1.at_ j y d0 h4 h2
                have h7 := abs_ok hO h6 (absAll_at (hcl c0 (List.mem_of_getElem? h1)).2 j d0 h2)
                refine (h7.mono hF' (fun k hk => ?_)).wide (fun k hk => ?_)
                · obtain ⟨q, hq, hs⟩ := hk
                  subst hq
                  obtain ⟨en, he⟩ := hin q (owns_mem (flat_at (fun c hc => (hcl c hc).1) h1 h2))
                  exact hheap k (hO.bnd _ he k hs)
                · obtain ⟨q, hq, hs⟩ := hk
                  exact ⟨c0, q, h1, by rw [h2, hq], hs⟩
            · obtain ⟨hp1, hp2⟩ := mem_unpick hp
              refine (hO.ent p hp1).mono hF' (but r') (fun s hs => upd_v_ne hs) (fun s hs => ?_) (hfr p hp1).1 (upd_S_ne (hfr p hp1).1) (fun k hk => hheap k (hO.bnd p hp1 k hk))
              have hs' : s = r' := Classical.not_not.1 hs
              rw [hs']; exact (hfr p hp1).2)
        exact .of_run hrun ⟨_, fun s hs => upd_v_ne hs, hst.1, hst.2, by
          have := DR.own (ι := (upd ν r' (.slice (some ⟨w.heap.size, 0, none⟩) len' len') S).v) (F := Fz (upd ν r' (.slice (some ⟨w.heap.size, 0, none⟩) len' len') S) ((r', .row e' sz (absm H cs)) :: unpick (owns (flat cs)) H) C (w.alloc (.cells cells.toArray e'))) (w := w.alloc (.cells cells.toArray e')) r' (by rw [upd_v]; rfl)
          rwa [upd_v] at this⟩
      · cases hp
    · cases hp
  · cases hp
end
end Go.Proofs.YtjjmoihpjmojiaaDoor.D
