/- More steps: package variables, literals of any cells, == of structs, shifts, make, append over typed lists, calls in drawn regions, rows given up inside blocks, jumps back. -/
import Derived.Test.YtjjmoihpjmojiaaDoorD27
set_option linter.unusedVariables false
set_option linter.unusedSimpArgs false
namespace Go.Proofs.YtjjmoihpjmojiaaDoor.D
open Go.RowKit

def EqOk (P : Program) (t : TypeId) (ks : List (Option IntKind)) : Prop := P.eqGuardType P.depth t = false ∧ aggB P t = true ∧ eqShape P 8 t = some ks
theorem eq_of {P : Program} {t : TypeId} {ks : List (Option IntKind)} (h1 : P.eqGuardType P.depth t = false) (h2 : aggB P t = true) (h3 : eqShape P 8 t = some ks) : EqOk P t ks := ⟨h1, h2, h3⟩
theorem addr0 (k m : Nat) : (⟨k, 0, none⟩ : Addr).add m = ⟨k, m, none⟩ := by
  unfold Addr.add
  by_cases h : m = 0
  · subst h; simp
  · simp [h]
section
variable {P : Program} {τ : List (Nat × TR)} {n : Nat} {σ σ' : Sl} {H H' H0 H1 HL HR Hn Hn' : Hp} {C : Cx} {ν ν' : Nm} {ι : Nat → Value} {F F' : Nat → Prop} {w w' W : World} {a : Act} {l rest ops : List Oper} {Q : Exit → Act → World → Prop} {o : Oper} {d s j : Nat} {u b : Bool} {A : Nat → Prop} {x r : DV} {g gd : Gd} {f : OpF}
theorem eqD_V : ∀ {ks : List (Option IntKind)} {ds es : List DV} {us vs : List Value} {b : Bool}, eqD ks ds es = some b → All ι F w us ds → All ι F w vs es → eqV ks us vs = some b
  | [], [], [], [], [], b, h, _, _ => h
  | some k :: ks, .v (.int k1 p) :: ds, .v (.int k2 q) :: es, u :: us, v :: vs, b, h, h1, h2 => by
    unfold eqD at h
    cases hk : (keq k k1 && keq k k2) with
    | false => rw [hk] at h; cases h
    | true =>
      rw [hk] at h
      simp only [cond_true] at h
      cases he : eqD ks ds es with
      | none => rw [he] at h; cases h
      | some e =>
        rw [he] at h
        simp only [Option.some.injEq] at h
        rw [h1.1.fr_v.1, h2.1.fr_v.1]
        unfold eqV eqc
        simp only [hk, cond_true, eqD_V he h1.2 h2.2, h]
  | none :: ks, .v (.bool p) :: ds, .v (.bool q) :: es, u :: us, v :: vs, b, h, h1, h2 => by
    unfold eqD at h
    cases he : eqD ks ds es with
    | none => rw [he] at h; cases h
    | some e =>
      rw [he] at h
      simp only [Option.some.injEq] at h
      rw [h1.1.fr_v.1, h2.1.fr_v.1]
      unfold eqV eqc
      simp only [eqD_V he h1.2 h2.2, h]
def isEqA (σ : Sl) (g : Gd) (t : Nat) (ks : List (Option IntKind)) : Op → Option Bool
  | .binOp op t' x y _ => bif Nat.beq t t' then (match ev σ g x, ev σ g y with
    | some (.agg ds), some (.agg es) => match eqD ks ds es, op with
      | some b, .eql => some b
      | some b, .neq => some (!b)
      | _, _ => none
    | _, _ => none) else none
  | _ => none
/-- == of structs. -/
theorem e_eqA {t : Nat} {ks : List (Option IntKind)} (hF : Fr ν.v (Fz ν H C w) w n σ a) (hO : Ok ν H C w) (hg : Gd.on a g) (he : EqOk P t ks) (hp : isEqA σ g t ks o.op = some b) : Eff P o a w ν H C every H (.v (.bool b)) := by
  unfold isEqA at hp
  split at hp
  · rename_i op t' x' y' yt ho
    cases hb : Nat.beq t t' with
    | false => rw [hb] at hp; cases hp
    | true =>
      rw [hb] at hp
      simp only [cond_true] at hp
      have ht := Nat.eq_of_beq_eq_true hb
      subst ht
      split at hp
      · rename_i ds es hx hy
        obtain ⟨us, h1, h2, _, h3⟩ := (hF.eval hx hg).agg_inv
        obtain ⟨vs, h4, h5, _, h6⟩ := (hF.eval hy hg).agg_inv
        have run : ∀ e, eqD ks ds es = some e → (Op.equalIn 10000 t (.agg us.toArray) (.agg vs.toArray)).run P w = .ok e w := fun e hd => by
          have h7 := eqShape_ok 8 t ks he.2.2 9992 w us vs e (eqD_V hd (All.of h2 h3) (All.of h5 h6))
          simpa [mkv, he.2.1] using h7
        split at hp
        · rename_i e hd
          simp only [Option.some.injEq] at hp
          subst hp
          refine .of_run (v := .bool e) (w' := w) ?_ ⟨ν, fun _ _ => rfl, hO, fun k hk => ⟨hk, rfl⟩, .fr (.v _ rfl)⟩
          unfold execOp
          simp only [ho]
          refine run_val ?_
          rw [h1, h4]
          simp only [Sem.run_bind, run_eqGuard_agg w .eql t x' y' us.toArray vs.toArray he.1, Result.andThen_ok, run_eql_struct, run e hd]
        · rename_i e hd
          simp only [Option.some.injEq] at hp
          subst hp
          refine .of_run (v := .bool !e) (w' := w) ?_ ⟨ν, fun _ _ => rfl, hO, fun k hk => ⟨hk, rfl⟩, .fr (.v _ rfl)⟩
          unfold execOp
          simp only [ho]
          refine run_val ?_
          rw [h1, h4]
          simp only [Sem.run_bind, run_eqGuard_agg w .neq t x' y' us.toArray vs.toArray he.1, Result.andThen_ok, run_neq_struct, run e hd]
        · cases hp
      · cases hp
  · cases hp
/-! ### Shifts by a number that isn't told in the text -/
def isSh (σ : Sl) (g : Gd) : Op → Option (Bool × IntKind × Int × Int)
  | .binOp op _ x y _ => match ev σ g x, ev σ g y with
    | some (.v (.int k p)), some (.v (.int _ q)) => match op with
      | .shl => some (true, k, p, q)
      | .shr => some (false, k, p, q)
      | _ => none
    | _, _ => none
  | _ => none
theorem e_sh {lft : Bool} {k : IntKind} {p q : Int} {m : Nat} (hF : Fr ν.v (Fz ν H C w) w n σ a) (hO : Ok ν H C w) (hg : Gd.on a g) (hp : isSh σ g o.op = some (lft, k, p, q)) (hq : q = (m : Int)) (hx : (bif lft then DV.v (.int k (shl_ k p m)) else .v (.int k (shr_ k p m))) = x) : Eff P o a w ν H C every H x := by
  subst hx hq
  unfold isSh at hp
  split at hp
  · rename_i op t x' y' yt ho
    split at hp
    · rename_i k0 p0 k1 q0 hx hy
      have h0 : ¬ ((m : Int) < 0) := Int.not_lt.2 (Int.natCast_nonneg m)
      split at hp
      · simp only [Option.some.injEq, Prod.mk.injEq] at hp
        obtain ⟨rfl, rfl, rfl, rfl⟩ := hp
        refine .of_run (v := .int k0 (shl_ k0 p0 m)) (w' := w) ?_ ⟨ν, fun _ _ => rfl, hO, fun k hk => ⟨hk, rfl⟩, .fr (.v _ rfl)⟩
        unfold execOp
        simp only [ho]
        refine run_val ?_
        rw [hF.evalv hx hg, hF.evalv hy hg]
        have hgd : eqGuard .shl t x' y' (.int k0 p0) (.int k1 (m : Int)) = pure () := rfl
        rw [hgd]
        simp [Go.binOp, Op.shift, shl_, h0]
      · simp only [Option.some.injEq, Prod.mk.injEq] at hp
        obtain ⟨rfl, rfl, rfl, rfl⟩ := hp
        refine .of_run (v := .int k0 (shr_ k0 p0 m)) (w' := w) ?_ ⟨ν, fun _ _ => rfl, hO, fun k hk => ⟨hk, rfl⟩, .fr (.v _ rfl)⟩
        unfold execOp
        simp only [ho]
        refine run_val ?_
        rw [hF.evalv hx hg, hF.evalv hy hg]
        have hgd : eqGuard .shr t x' y' (.int k0 p0) (.int k1 (m : Int)) = pure () := rfl
        rw [hgd]
        simp [Go.binOp, Op.shift, shr_, h0]
      · cases hp
    · cases hp
  · cases hp
/-! ### nil beside nil -/
theorem e_nil (hτ : Tab P τ) (hF : Fr ν.v (Fz ν H C w) w n σ a) (hO : Ok ν H C w) (hg : Gd.on a g) (hp : isNil τ σ g o.op = some (.v nilS, u)) : Eff P o a w ν H C every H (.v (.bool u)) := by
  unfold isNil at hp
  split at hp
  · rename_i op t y z yt ho
    split at hp
    · rename_i e sz' z' d' ht hx
      have hu : P.underlying t = some (.slice e) := (hτ.get ht).2.2
      have heq : (Op.equal t nilS nilS).run P w = .ok true w := by
        unfold Op.equal Op.equalIn
        simp [Op.maxDepth, run_underlying hu]
      split at hp
      · simp only [Option.some.injEq, Prod.mk.injEq] at hp
        obtain ⟨rfl, rfl⟩ := hp
        refine .of_run (v := .bool true) (w' := w) ?_ ⟨ν, fun _ _ => rfl, hO, fun k hk => ⟨hk, rfl⟩, .fr (.v _ rfl)⟩
        unfold execOp
        simp only [ho]
        refine run_val ?_
        rw [hF.evalv hx hg]
        show (do (pure () : Sem Unit); (do pure (.bool (← Op.equal t nilS nilS)) : Sem Value) : Sem Value).run P w = _
        simp [heq]
      · simp only [Option.some.injEq, Prod.mk.injEq] at hp
        obtain ⟨rfl, rfl⟩ := hp
        refine .of_run (v := .bool false) (w' := w) ?_ ⟨ν, fun _ _ => rfl, hO, fun k hk => ⟨hk, rfl⟩, .fr (.v _ rfl)⟩
        unfold execOp
        simp only [ho]
        refine run_val ?_
        rw [hF.evalv hx hg]
        show (do (pure () : Sem Unit); (do pure (.bool (!(← Op.equal t nilS nilS))) : Sem Value) : Sem Value).run P w = _
        simp [heq]
      · cases hp
    · cases hp
  · cases hp
/-! ### Elements of package variables, of literals of any cells -/
def gamOf : List (Nat × Nat × List (List DV)) → Nat → Option (Nat × List (List DV))
  | [], _ => none
  | e :: r, k => bif Nat.beq e.1 k then some e.2 else gamOf r k
theorem gamOf_mem : ∀ {G : List (Nat × Nat × List (List DV))} {k : Nat} {p : Nat × List (List DV)}, gamOf G k = some p → (k, p) ∈ G
  | [], _, _, h => by cases h
  | e :: r, k, p, h => by
    unfold gamOf at h
    cases hb : Nat.beq e.1 k with
    | true =>
      rw [hb] at h
      simp only [cond_true, Option.some.injEq] at h
      have := Nat.eq_of_beq_eq_true hb
      obtain ⟨e1, e2⟩ := e
      simp only at h this
      subst this h
      exact List.mem_cons_self
    | false => rw [hb] at h; exact List.mem_cons_of_mem _ (gamOf_mem h)
def isIdxG (τ : List (Nat × TR)) (σ : Sl) (g : Gd) : Op → Option (Nat × Int × Nat × Nat)
  | .indexAddr t (.global k) y => match tl τ t, ev σ g y with
    | some ⟨.arr m e, _, _⟩, some (.v (.int _ i)) => match tl τ e with
      | some r => some (k, i, m, r.sz)
      | none => none
    | _, _ => none
  | _ => none
theorem e_idxG {k m sz : Nat} {i : Int} {es : List (List DV)} {cd : List DV} (hτ : Tab P τ) (hF : Fr ν.v (Fz ν H C w) w n σ a) (hO : Ok ν H C w) (hg : Gd.on a g) (hp : isIdxG τ σ g o.op = some (k, i, m, sz)) (hG : gamOf Gam k = some (sz, es)) (hm : es.length = m) (h0 : 0 ≤ i) (hi : es[i.toNat]? = some cd) : Eff P o a w ν H C every H (.fat cd 0) := by
  unfold isIdxG at hp
  split at hp
  · rename_i t k' y ho
    split at hp
    · rename_i m' e sz' z' kk i' ht hy
      split at hp
      · rename_i r hr
        simp only [Option.some.injEq, Prod.mk.injEq] at hp
        obtain ⟨rfl, rfl, rfl, rfl⟩ := hp
        obtain ⟨h1, u, h2⟩ := hO.gl _ (gamOf_mem hG)
        obtain ⟨h3, h4⟩ := h2 _ cd hi
        have hlt := (List.getElem?_eq_some_iff.1 hi).1
        have hu : P.underlying t = some (.array m' e) := (hτ.get ht).2.2
        have hil : 0 ≤ i' ∧ i' < (m' : Int) := ⟨h0, by omega⟩
        refine .of_run (v := .pointer (some ((⟨k', 0, none⟩ : Addr).add (i'.toNat * r.sz)))) (w' := w) ?_ ⟨ν, fun _ _ => rfl, hO, fun k hk => ⟨hk, rfl⟩, ?_⟩
        · unfold execOp
          simp only [ho]
          refine run_val ?_
          rw [hF.evalv hy hg]
          show (Instr.indexAt t (.pointer (some ⟨k', 0, none⟩)) (.int kk i')).run P w = _
          unfold Instr.indexAt
          simp only [asIntOf, Sem.run_bind, Sem.run_pure, Result.andThen_ok, run_underlying hu, Instr.sureAddr, run_sizeOf (hτ.get hr).1, hil, and_self, if_true]
        · have h5 := DR.fat (ι := ν.v) (F := Fz ν H C w) (w := w) ((⟨k', 0, none⟩ : Addr).add (i'.toNat * r.sz)) cd 0 (u i'.toNat) (by rw [addr_add_block]; exact h1) (fun j d hj => by
            rw [addr_add_add]
            obtain ⟨h6, _⟩ := h4 j d hj
            rw [addr0]; exact h6) (fun j d hj => (h4 j d hj).2)
          have h7 : ((⟨k', 0, none⟩ : Addr).add (i'.toNat * r.sz)).add 0 = (⟨k', 0, none⟩ : Addr).add (i'.toNat * r.sz) := by simp [Addr.add]
          rw [h7] at h5
          exact h5
      · cases hp
    · cases hp
  · cases hp
theorem own_inv {F : Nat → Prop} {v : Value} {q : Nat} (h : DR ν.v F w v (.own q)) : v = ν.v q := by
  cases h with
  | fr h => cases h
  | own => rfl
theorem e_idxL {s' t m off sz : Nat} {i : Int} {cs : List DV} (hτ : Tab P τ) (hF : Fr ν.v (Fz ν H C w) w n σ a) (hO : Ok ν H C w) (hg : Gd.on a g) (hp : isIdx τ σ g o.op = some (.own s', i, sz)) (hs : hl H s' = some (.lit t m cs)) (h0 : 0 ≤ i) (h1 : i < m) (ho : i.toNat * sz = off) : Eff P o a w ν H C every H (.ptr s' off) := by
  subst ho
  unfold isIdx at hp
  split at hp
  · rename_i t' x' y' ho
    split at hp
    · rename_i e sz0 z0 sv kk i' ht hx hy
      split at hp
      · rename_i r hr
        simp only [Option.some.injEq, Prod.mk.injEq] at hp
        obtain ⟨rfl, rfl, rfl⟩ := hp
        obtain ⟨gg, vs, h2, _⟩ := hO.ent _ (hl_mem hs)
        have hv := hF.eval hx hg
        have hv2 : a.eval x' = ν.v s' := own_inv hv
        simp only at h2
        refine .of_run (v := .pointer (some ⟨gg, i'.toNat * r.sz, none⟩)) (w' := w) ?_ ⟨ν, fun _ _ => rfl, hO, fun k hk => ⟨hk, rfl⟩, .ptr _ gg _ (by rw [h2]; rfl)⟩
        unfold execOp
        simp only [ho]
        refine run_val ?_
        rw [hF.evalv hy hg, hv2, h2]
        have := run_idx (P := P) (ad := ⟨gg, 0, none⟩) (k := kk) (cap := m) ((hτ.get ht).2.2) (hτ.get hr) h0 h1 w
        rw [this]
        unfold Addr.add
        by_cases h3 : i'.toNat * r.sz = 0
        · rw [h3]; simp
        · simp [h3]
      · cases hp
    · cases hp
  · cases hp
/-! ### Literals -/
theorem run_lit {e' sz len' : Nat} {q' : TR} {ds' : List DV} {cs : List (List DV)} {z : List Value} {F : Nat → Prop} (hτ : Tab P τ) (hF : Fr ν.v F w n σ a) (hg : Gd.on a g) (hp : isLit τ σ g o.op = some (e', q', ds', len')) (hz : q'.z = some z) (hsz : q'.sz = sz) (hcs : cellsAll ds' = some cs) (hk : (Nat.beq ds'.length len' && (cs.all fun c => Nat.beq c.length sz) && Nat.ble (len' * sz) 16777216) = true) :
    ∃ cells : List Value, (execOp a.eval o).run P w = .ok (.value (.slice (some ⟨w.heap.size, 0, none⟩) len' len')) (w.alloc (.cells cells.toArray e')) ∧ cells.length = len' * sz ∧ ∃ us : List Value, cells = us.flatMap (fun v => v.cells.toList) ∧ us.length = cs.length ∧ ∀ (i : Nat) (u : Value) (c : List DV), us[i]? = some u → cs[i]? = some c → All ν.v F w u.cells.toList c ∧ ∀ y ∈ u.cells.toList, y.oneCell' = true := by
  unfold isLit at hp
  split at hp
  · rename_i t len0 parts ho
    split at hp
    · rename_i e0 sz' z' ps ht hps
      split at hp
      · rename_i q0 ds0 hq hds
        simp only [Option.some.injEq, Prod.mk.injEq] at hp
        obtain ⟨rfl, rfl, rfl, rfl⟩ := hp
        simp only [Bool.and_eq_true] at hk
        obtain ⟨⟨hk1, hk2⟩, hk4⟩ := hk
        have hdl : ds0.length = len0 := Nat.eq_of_beq_eq_true hk1
        have hsm : len0 * sz ≤ 16777216 := Nat.le_of_ble_eq_true hk4
        have hcl : ∀ c ∈ cs, c.length = sz := fun c hc => Nat.eq_of_beq_eq_true (List.all_eq_true.1 hk2 c hc)
        obtain ⟨hi1, hi2⟩ := seqIdx_ok hds
        obtain ⟨he1, he2⟩ := evp_ok hF hg hps
        rw [hi1] at he2
        let us : List Value := (parts.toList.map (fun x => (x.1, a.eval x.2))).map (·.2)
        have hus : All ν.v F w us ds0 := he2
        have husl : us.length = len0 := hus.length.trans hdl
        obtain ⟨hc1, hc2⟩ := cellsAll_ok hus hcs
        have huc : ∀ u ∈ us, u.cells.toList.length = sz := by
          intro u hu
          obtain ⟨i, hi⟩ := List.getElem?_of_mem hu
          have hlt := (List.getElem?_eq_some_iff.1 hi).1
          have hci : cs[i]? = some (cs[i]'(by omega)) := List.getElem?_eq_getElem (by omega)
          rw [(hc2 i u _ hi hci).1.length]
          exact hcl _ (List.mem_of_getElem? hci)
        obtain ⟨zv, hzr, hzc⟩ := zero_of (hτ.get hq) hz
        let cells : List Value := us.flatMap fun v => v.cells.toList
        have hcelll : cells.length = len0 * sz := by rw [← husl]; exact flatv_len huc
        have hparts : (parts.map fun (x : Nat × Operand) => (x.1, a.eval x.2)).toList = (us.zipIdx 0).map fun p => (p.2, p.1) := by
          rw [Array.toList_map]
          have hpl : ps.length = us.length := by rw [hus.length, ← hi1, List.length_map]
          apply List.ext_getElem?
          intro i
          rw [List.getElem?_map, List.getElem?_map, List.getElem?_zipIdx]
          have h1 := congrArg (fun l => l[i]?) (he1.trans hi2)
          simp only [List.getElem?_map] at h1
          simp only [us, List.getElem?_map]
          cases hpi : parts.toList[i]? with
          | none => rfl
          | some p =>
            rw [hpi] at h1
            simp only [Option.map_some] at h1 ⊢
            have hlt : i < ps.length := by
              have := (List.getElem?_eq_some_iff.1 hpi).1
              rw [hpl]; simp only [us, List.length_map]; exact this
            rw [List.getElem?_range' hlt] at h1
            simp only [Option.some.injEq] at h1
            simp only [Option.some.injEq, Prod.mk.injEq, and_true]
            omega
        have hrun : (execOp a.eval o).run P w = .ok (.value (.slice (some ⟨w.heap.size, 0, none⟩) len0 len0)) (w.alloc (.cells cells.toArray e0)) := by
          unfold execOp
          simp only [ho]
          refine run_val ?_
          unfold Instr.buildSlice
          have hu : P.underlying t = some (.slice e0) := (hτ.get ht).2.2
          have hsz2 : (P.info? e0).map (·.size) = some sz := by rw [← hsz]; exact (hτ.get hq).1
          have hng : ¬ (len0 * sz > 2 ^ 24) := by omega
          have hfill : ∀ zc : Array Value, zc.size = len0 * sz → Instr.fill (fun i => some (i * sz, sz)) zc (parts.map fun (x : Nat × Operand) => (x.1, a.eval x.2)).toList = some cells.toArray := by
            intro zc hzc
            rw [hparts]
            have := fill_seq sz us 0 [] zc.toList huc (by simp) (by simp [hzc, husl])
            simpa using this
          have hsize0 : ∀ b : Array Value, ((Array.range (len0 * sz)).map (fun i => b[i % b.size]!)).size = len0 * sz := fun b => by simp
          simp only [Sem.run_bind, run_underlying hu, run_sizeOf hsz2, Result.andThen_ok, hng, if_false, Sem.run_pure]
          by_cases h0 : len0 * sz = 0
          · simp only [h0, if_true, Sem.run_pure, Result.andThen_ok]
            have hf0 : ∀ zc : Array Value, zc.size = 0 → Instr.fill (fun i => some (i * sz, sz)) zc (List.map (fun x => (x.fst, a.eval x.snd)) parts.toList) = some cells.toArray := by
              intro zc hzc
              have := hfill zc (hzc.trans h0.symm)
              rwa [Array.toList_map] at this
            have hz0 : ((Array.range 0).map (fun i => (#[] : Array Value)[i % (#[] : Array Value).size]!)).size = 0 := by simp
            have hf1 := hf0 (Array.map (fun _ => default) (Array.range 0)) (by simp)
            simp [newRow, hf1]
          · simp only [h0, if_false, Sem.run_bind, hzr, Result.andThen_ok, Sem.run_pure, hfill _ (hsize0 _)]
            simp [newRow]
        exact ⟨cells, hrun, hcelll, us, rfl, hc1, hc2⟩
      · cases hp
    · cases hp
  · cases hp
end
end Go.Proofs.YtjjmoihpjmojiaaDoor.D
