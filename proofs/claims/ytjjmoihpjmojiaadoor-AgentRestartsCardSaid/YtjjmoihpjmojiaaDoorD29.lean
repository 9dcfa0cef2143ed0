/- Literals of any cells, make, append over typed lists; calls in drawn regions; rows given up inside blocks; jumps back. -/
import Derived.Test.YtjjmoihpjmojiaaDoorD28
import Derived.Scope
set_option linter.unusedVariables false
set_option linter.unusedSimpArgs false
namespace Go.Proofs.YtjjmoihpjmojiaaDoor.D
open Go.RowKit

section
variable {P : Program} {τ : List (Nat × TR)} {n : Nat} {σ σ' : Sl} {H H' H0 H1 HL HR Hn Hn' : Hp} {C : Cx} {ν ν' : Nm} {ι : Nat → Value} {F F' : Nat → Prop} {w w' W : World} {a : Act} {l rest ops : List Oper} {Q : Exit → Act → World → Prop} {o : Oper} {d s j : Nat} {u b : Bool} {A : Nat → Prop} {x r : DV} {g gd : Gd} {f : OpF}
theorem flat_all : ∀ {us : List Value} {cs : List (List DV)}, us.length = cs.length → (∀ (i : Nat) (u : Value) (c : List DV), us[i]? = some u → cs[i]? = some c → All ι F w u.cells.toList c ∧ ∀ y ∈ u.cells.toList, y.oneCell' = true) → All ι F w (us.flatMap fun v => v.cells.toList) (flat cs) ∧ ∀ y ∈ us.flatMap (fun v => v.cells.toList), y.oneCell' = true
  | [], [], _, _ => ⟨trivial, fun y hy => by simp at hy⟩
  | [], _ :: _, h, _ => by simp at h
  | _ :: _, [], h, _ => by simp at h
  | u :: us, c :: cs, h, hc => by
    obtain ⟨h1, h2⟩ := hc 0 u c rfl rfl
    obtain ⟨h3, h4⟩ := flat_all (us := us) (cs := cs) (by simpa using h) (fun i u c hu hc' => hc (i + 1) u c (by simpa using hu) (by simpa using hc'))
    rw [List.flatMap_cons]
    refine ⟨All.app h1 h3, fun y hy => ?_⟩
    rcases List.mem_append.1 hy with hy | hy
    · exact h2 y hy
    · exact h4 y hy
/-- A literal whose cells may name what they will: it is read alone. -/
theorem e_litA {r' e' sz len' : Nat} {q' : TR} {ds' fc : List DV} {cs : List (List DV)} {z : List Value} (hτ : Tab P τ) (hF : Fr ν.v (Fz ν H C w) w n σ a) (hO : Ok ν H C w) (hg : Gd.on a g) (hp : isLit τ σ g o.op = some (e', q', ds', len')) (hz : q'.z = some z) (hsz : q'.sz = sz) (hcs : cellsAll ds' = some cs) (hk : (Nat.beq ds'.length len' && (cs.all fun c => Nat.beq c.length sz) && Nat.ble (len' * sz) 16777216) = true)
    (hr : fresh C H r' = true) (hfl : flat cs = fc) (hn : nr.nrs r' fc = true) : Eff P o a w ν H C (but r') ((r', .lit e' len' fc) :: H) (.own r') := by
  subst hfl
  obtain ⟨cells, hrun, hcl, us, hus, hul, hal⟩ := run_lit hτ hF hg hp hz hsz hcs hk
  obtain ⟨h1, h2⟩ := flat_all hul hal
  rw [← hus] at h1 h2
  have hnew := hO.new (w' := w.alloc (.cells cells.toArray e')) r' (.slice (some ⟨w.heap.size, 0, none⟩) len' len') (fun k => k = w.heap.size) (.lit e' len' (flat cs)) hr (Below.alloc (Below.refl _ _) (Nat.le_refl _) _) (fun k hk => ⟨by omega, by simp; omega⟩) (fun F hF hF' => by
    refine ⟨w.heap.size, cells, upd_v, heap_alloc_new w _, h1.length, by rw [upd_S], h2, fun j u d hu hd => ?_⟩
    refine (h1.at_ j u d hu hd).mono hF (but r') (fun s hs => upd_v_ne hs) (fun s hs => ?_)
    have : s = r' := Classical.not_not.1 hs
    rw [this]; exact nrs_at hn j d hd)
  refine .of_run hrun ⟨_, fun s hs => upd_v_ne hs, hnew.1, hnew.2, ?_⟩
  have := DR.own (ι := (upd ν r' (.slice (some ⟨w.heap.size, 0, none⟩) len' len') (fun k => k = w.heap.size)).v) (F := Fz (upd ν r' (.slice (some ⟨w.heap.size, 0, none⟩) len' len') (fun k => k = w.heap.size)) ((r', .lit e' len' (flat cs)) :: H) C (w.alloc (.cells cells.toArray e'))) (w := w.alloc (.cells cells.toArray e')) r' (by rw [upd_v]; rfl)
  rwa [upd_v] at this
/-- A new row of cells that lead nowhere. -/
theorem e_newrow {r' e sz m : Nat} {cells : List Value} {es : List (List DV)} (hO : Ok ν H C w) (hr : fresh C H r' = true) (hrun : (execOp a.eval o).run P w = .ok (.value (.slice (some ⟨w.heap.size, 0, none⟩) m m)) (w.alloc (.cells cells.toArray e))) (hcl : cells.length = m * sz) (hm : m ≤ maxLen) (hes : es.length = m)
    (hc : ∀ (i : Nat) (c : List DV), es[i]? = some c → c.length = sz ∧ ∀ (j : Nat) (d : DV), c[j]? = some d → ∃ v, cells[i * sz + j]? = some v ∧ d = .v v ∧ v.oneCell' = true) : Eff P o a w ν H C (but r') ((r', .row e sz es) :: H) (.own r') := by
  subst hes
  have hnew := hO.new (w' := w.alloc (.cells cells.toArray e)) r' (.slice (some ⟨w.heap.size, 0, none⟩) es.length es.length) (fun k => k = w.heap.size) (.row e sz es) hr (Below.alloc (Below.refl _ _) (Nat.le_refl _) _) (fun k hk => ⟨by omega, by simp; omega⟩) (fun F hF hF' => by
    show OT F _ ((upd ν r' _ _).v r') _ ((upd ν r' _ _).S r')
    rw [upd_v, upd_S]
    have hown : (w.alloc (.cells cells.toArray e)).ownsRow 0 e sz (.slice (some ⟨w.heap.size, 0, none⟩) es.length es.length) es.length cells := by
      have := World.ownsRow_lit (e := e) (size := sz) w cells.toArray es.length (Nat.zero_le _) hm (by simpa using hcl)
      simpa using this
    refine .osl e sz es _ cells (fun i j => cells.getD (i * sz + j) undef) (fun _ _ _ => False) _ hown (fun k hk => ?_) (fun i c hi => (hc i c hi).1) (fun i c j d hi hj => ?_) (fun i j k h => h.elim) (fun i j i' j' k h => h.elim) (fun i c j d hi hj => ?_)
    · simp only [blkOf, Option.some.injEq] at hk; exact hk.symm
    · obtain ⟨v, h1, h2, h3⟩ := (hc i c hi).2 j d hj
      have : cells.getD (i * sz + j) undef = v := by simp [List.getD_eq_getElem?_getD, h1]
      rw [this]
      exact ⟨h1, h3⟩
    · obtain ⟨v, h1, h2, h3⟩ := (hc i c hi).2 j d hj
      have : cells.getD (i * sz + j) undef = v := by simp [List.getD_eq_getElem?_getD, h1]
      rw [this, h2]
      exact .fr (.v v h3) _)
  refine .of_run hrun ⟨_, fun s hs => upd_v_ne hs, hnew.1, hnew.2, ?_⟩
  have := DR.own (ι := (upd ν r' (.slice (some ⟨w.heap.size, 0, none⟩) es.length es.length) (fun k => k = w.heap.size)).v) (F := Fz (upd ν r' (.slice (some ⟨w.heap.size, 0, none⟩) es.length es.length) (fun k => k = w.heap.size)) ((r', .row e sz es) :: H) C (w.alloc (.cells cells.toArray e))) (w := w.alloc (.cells cells.toArray e)) r' (by rw [upd_v]; rfl)
  rwa [upd_v] at this
def isMk (τ : List (Nat × TR)) (σ : Sl) (g : Gd) : Op → Option (Nat × TR × Int)
  | .makeSlice t x y => match tl τ t, ev σ g x, ev σ g y with
    | some ⟨.slice e, _, _⟩, some (.v (.int _ i)), some (.v (.int _ i')) => match tl τ e with
      | some q => bif opEq x y then some (e, q, i) else none
      | none => none
    | _, _, _ => none
  | _ => none
where opEq : Operand → Operand → Bool
  | .tmp s, .tmp t => Nat.beq s t
  | _, _ => false
theorem e_mk {α : Type} {c : α → List DV} {z0 : α} {r' e sz bytes : Nat} {q : TR} {i : Int} {z : List Value} {m : List α} (hτ : Tab P τ) (hF : Fr ν.v (Fz ν H C w) w n σ a) (hO : Ok ν H C w) (hg : Gd.on a g) (hp : isMk τ σ g o.op = some (e, q, i)) (hz : q.z = some z) (hsz : q.sz = sz) (hzl : z.length = sz) (h0 : 0 < sz) (hby : (P.info? e).map (·.bytes) = some bytes) (hb0 : Nat.blt 0 bytes = true) (hr : fresh C H r' = true)
    (hm : make_ bytes i z0 = some m) (hc : c z0 = z.map .v) (h1 : allOne z = true) : Eff P o a w ν H C (but r') ((r', .row e sz (m.map c)) :: H) (.own r') := by
  obtain ⟨hi0, hib, rfl⟩ := of_make hm
  unfold isMk at hp
  split at hp
  · rename_i t x y ho
    split at hp
    · rename_i e0 sz' z' k i0 k' i' ht hx hy
      split at hp
      · rename_i q0 hq
        cases hxy : isMk.opEq x y with
        | false => rw [hxy] at hp; cases hp
        | true =>
          rw [hxy] at hp
          simp only [cond_true, Option.some.injEq, Prod.mk.injEq] at hp
          obtain ⟨rfl, rfl, rfl⟩ := hp
          have hxe : x = y := by
            unfold isMk.opEq at hxy
            split at hxy
            · rw [Nat.eq_of_beq_eq_true hxy]
            · cases hxy
          subst hxe
          rw [hx] at hy
          simp only [Option.some.injEq, DV.v.injEq, Value.int.injEq] at hy
          have hm63 := room63 hib hb0
          obtain ⟨ti, hti, htb⟩ := Option.map_eq_some_iff.1 hby
          obtain ⟨zv, hzi, hzc⟩ := (hτ.get hq).2.1 z hz
          have hzi' : ti.zero = some zv := by
            rw [hti] at hzi
            exact hzi
          have hts : ti.size = sz := by
            have := (hτ.get hq).1
            rw [hti] at this
            simp only [Option.map_some, Option.some.injEq] at this
            rw [this]; exact hsz
          have hcells : zv.cells = z.toArray := by rw [← hzc]
          have hnat : ((i0.toNat : Nat) : Int) = i0 := Int.toNat_of_nonneg hi0
          have hrun := run_make (P := P) w t e0 ti zv ((hτ.get ht).2.2) hti hzi' k k i0 i0 hi0 (Int.le_refl _) (by
            rw [htb, ← hnat]
            have : i0.toNat * bytes ≤ 140737488355328 := hib
            rw [Nat.mul_comm] at this
            have h2 : ((bytes * i0.toNat : Nat) : Int) ≤ ((140737488355328 : Nat) : Int) := Int.ofNat_le.2 this
            rw [Int.natCast_mul] at h2
            omega) (by
            have : i0.toNat ≤ 140737488355328 := by
              have h3 : 0 < bytes := by simpa [Nat.blt_eq] using hb0
              exact Nat.le_trans (Nat.le_mul_of_pos_right _ h3) hib
            omega)
          have hml : (List.replicate i0.toNat z0).length = i0.toNat := List.length_replicate
          rw [hts] at hrun
          have hmade : (madeCells zv.cells (i0.toNat * sz)) = (List.ofFn fun k : Fin (i0.toNat * sz) => z.getD (k % sz) undef).toArray := by
            apply Array.ext
            · simp [madeCells]
            · intro k h1 h2
              simp only [madeCells, Array.getElem_map, Array.getElem_range, List.getElem_toArray, List.getElem_ofFn]
              have hlt : k % sz < z.length := by rw [hzl]; exact Nat.mod_lt _ h0
              rw [hcells]
              have hsz' : z.toArray.size = sz := by simpa using hzl
              rw [hsz']
              simp [hlt, List.getD_eq_getElem?_getD]
          refine e_newrow (m := i0.toNat) hO hr (cells := List.ofFn fun k : Fin (i0.toNat * sz) => z.getD (k % sz) undef) ?_ List.length_ofFn hm63 (by rw [List.length_map, List.length_replicate]) (fun i' c' hi' => ?_)
          · unfold execOp
            simp only [ho]
            refine run_val ?_
            rw [hF.evalv hx hg, hrun, hmade]
          · rw [List.getElem?_map] at hi'
            obtain ⟨y', hy', rfl⟩ := Option.map_eq_some_iff.1 hi'
            rw [List.getElem?_replicate] at hy'
            split at hy'
            · rename_i hlt
              simp only [Option.some.injEq] at hy'
              subst hy'
              rw [hc]
              refine ⟨by simpa using hzl, fun j d hj => ?_⟩
              rw [List.getElem?_map] at hj
              obtain ⟨v, hv, rfl⟩ := Option.map_eq_some_iff.1 hj
              have hjl := (List.getElem?_eq_some_iff.1 hv).1
              rw [hzl] at hjl
              refine ⟨v, ?_, rfl, allOne_mem h1 v (List.mem_of_getElem? hv)⟩
              have hkl : i' * sz + j < i0.toNat * sz := by
                have : (i' + 1) * sz ≤ i0.toNat * sz := Nat.mul_le_mul_right _ hlt
                rw [Nat.add_mul] at this
                omega
              have hmod : (i' * sz + j) % sz = j := by rw [Nat.mul_comm, Nat.mul_add_mod]; exact Nat.mod_eq_of_lt hjl
              rw [List.getElem?_ofFn]
              simp [hkl, hmod, hv, List.getD_eq_getElem?_getD]
            · cases hy'
      · cases hp
    · cases hp
  · cases hp
/-! ### append -/
theorem e_app2 {ds dx : DV} {t e sz bytes : Nat} {q : TR} {z : List Value} {es es2 : List (List DV)} (con con2 : List Nat) (r' : Nat) (hτ : Tab P τ) (hF : Fr ν.v (Fz ν H C w) w n σ a) (hO : Ok ν H C w) (hg : Gd.on a g) (hp : isApp τ σ g o.op = some (ds, dx, t, e, q)) (hz : q.z = some z) (hsz : q.sz = sz) (hzl : z.length = sz) (h0 : 0 < sz) (hby : (P.info? e).map (·.bytes) = some bytes)
    (hr : fresh C H r' = true) (hv : Tgt H ds e sz es con) (hx : Sr H e sz dx es2 con2) (hdis : (con.all fun p => con2.all fun q => !Nat.beq p q) = true)
    (hlen : (es.length + es2.length) * bytes ≤ 140737488355328) (h63 : es.length + es2.length ≤ maxLen) : Eff P o a w ν H C (but r') ((r', .row e sz (es ++ es2)) :: unpick (con ++ con2) H) (.own r') := by
  obtain ⟨S, hS, hv'⟩ : ∃ S : Nat → Prop, (∀ k, S k → ∃ p ∈ H, p.1 ∈ con ∧ ν.S p.1 k) ∧ ∀ v, DR ν.v (Fz ν H C w) w v ds → OT (Fz ν H C w) w v (.osl e sz es) S := by
    match con, hv with
    | [], ⟨h1, h2⟩ =>
      subst h1 h2
      exact ⟨fun _ => False, fun k hk => hk.elim, fun v hv => by rw [hv.fr_v.1]; exact row_nil _ _ _ _⟩
    | [q], ⟨h1, h2⟩ =>
      subst h1
      exact ⟨ν.S q, fun k hk => ⟨_, hl_mem h2, List.mem_singleton.2 rfl, hk⟩, fun v hv => by rw [own_inv hv]; exact hO.ent _ (hl_mem h2)⟩
  obtain ⟨S2, hS2, hx'⟩ : ∃ S2 : Nat → Prop, (∀ k, S2 k → ∃ p ∈ H, p.1 ∈ con2 ∧ ν.S p.1 k) ∧ ∀ v, DR ν.v (Fz ν H C w) w v dx → SrcR (Fz ν H C w) w v sz es2 S2 := by
    cases hx with
    | sl _ h1 => exact ⟨fun _ => False, fun k hk => hk.elim, fun v hv => src_sl hv.sl_inv h1⟩
    | nil => exact ⟨fun _ => False, fun k hk => hk.elim, fun v hv => .inl ⟨hv.fr_v.1, rfl⟩⟩
    | use q _ h1 => exact ⟨ν.S q, fun k hk => ⟨_, hl_mem h1, List.mem_singleton.2 rfl, hk⟩, fun v hv => by rw [own_inv hv]; exact src_row (hO.ent _ (hl_mem h1))⟩
    | keep q _ h1 h2 => exact ⟨fun _ => False, fun k hk => hk.elim, fun v hv => by rw [own_inv hv]; exact src_keep (hO.ent _ (hl_mem h1)) h2⟩
  refine e_app (con ++ con2) r' hτ hF hO hg hp hz hsz hzl h0 hby hr hv' hx' (fun k hk => ?_) (fun k hk => ?_) (fun k h1 h2 => ?_) hlen h63
  · obtain ⟨p, h1, h2, h3⟩ := hS k hk
    exact ⟨p, h1, List.mem_append_left _ h2, h3⟩
  · obtain ⟨p, h1, h2, h3⟩ := hS2 k hk
    exact ⟨p, h1, List.mem_append_right _ h2, h3⟩
  · obtain ⟨p, h3, h4, h5⟩ := hS k h1
    obtain ⟨p', h6, h7, h8⟩ := hS2 k h2
    have hne : p.1 ≠ p'.1 := nb (List.all_eq_true.1 (List.all_eq_true.1 hdis _ h4) _ h7)
    exact hO.ap p h3 p' h6 hne k h5 h8
theorem e_app4 {α : Type} {l0 m m' : List α} {c : α → List DV} {ds dx : DV} {t e sz bytes : Nat} {q : TR} {z : List Value} (con con2 : List Nat) (r' : Nat) (hτ : Tab P τ) (hF : Fr ν.v (Fz ν H C w) w n σ a) (hO : Ok ν H C w) (hg : Gd.on a g) (hp : isApp τ σ g o.op = some (ds, dx, t, e, q)) (hz : q.z = some z) (hsz : q.sz = sz) (hzl : z.length = sz) (h0 : 0 < sz) (hby : (P.info? e).map (·.bytes) = some bytes)
    (hr : fresh C H r' = true) (hv : Tgt H ds e sz (l0.map c) con) (hx : Sr H e sz dx (m.map c) con2) (hdis : (con.all fun p => con2.all fun q => !Nat.beq p q) = true) (hm : room bytes (l0 ++ m) = some m') (hb : Nat.blt 0 bytes = true) : Eff P o a w ν H C (but r') ((r', .row e sz (m'.map c)) :: unpick (con ++ con2) H) (.own r') := by
  obtain ⟨rfl, h1⟩ := of_room hm
  have h2 := room63 h1 hb
  rw [List.length_append] at h1 h2
  rw [← map_app]
  exact e_app2 con con2 r' hτ hF hO hg hp hz hsz hzl h0 hby hr hv hx hdis (by simpa using h1) (by simpa using h2)
theorem s_app4 {α : Type} {l0 m m' : List α} {c : α → List DV} {ds dx : DV} {t e sz bytes : Nat} {q : TR} {z : List Value} (con con2 : List Nat) (r' : Nat) (hτ : Tab P τ) (h : St n σ H C w a ν) (hw : Region.wanted o (yielded l.toArray a.tmps) = true) (hd : o.dst = some d) (hf : free n d σ = true) (hp : isApp τ σ none o.op = some (ds, dx, t, e, q)) (hz : q.z = some z) (hsz : q.sz = sz) (hzl : z.length = sz) (h0 : 0 < sz) (hby : (P.info? e).map (·.bytes) = some bytes)
    (hr : fresh C H r' = true) (hv : Tgt H ds e sz (l0.map c) con) (hx : Sr H e sz dx (m.map c) con2) (hdis : (con.all fun p => con2.all fun q => !Nat.beq p q) = true) (hm : room bytes (l0 ++ m) = some m') (hb : Nat.blt 0 bytes = true)
    (hK : ∀ a' w' ν', St n ((d, none, .own r') :: dropr r' σ) ((r', .row e sz (m'.map c)) :: unpick (con ++ con2) H) C w' a' ν' → wpList P l.toArray Q rest a' w') : wpList P l.toArray Q (o :: rest) a w :=
  s_new h hw hd hf (e_app4 (g := none) con con2 r' hτ h.f h.o trivial hp hz hsz hzl h0 hby hr hv hx hdis hm hb) hK
/-! ### Calls in drawn regions -/
variable {fid : FuncId} {ds ds0 : List DV}
theorem p_call1 (hP : Fn P fid) (hc : Con P fid ds [] r []) (m : List Bool) (hp : isCall σ g o.op = some (fid, ds0)) (hds : com m ds0 = ds) (hr : named [] r = true) : Prov P l n C σ Hn o g ⟨some (d, gd, r), [], []⟩ :=
  fun H w a ν hO hn hf hF hg => ⟨H, r, fun e => by simp, (e_call (HL := []) (HR := H) hP hc [] m hF hO hg hp hds (List.Perm.refl _) (by unfold callOk; simp [rids, hr])).sub (fun s _ => by simp), fun s hs => by injection hs with hs; rw [← hs]⟩
theorem p_callR (hP : Fn P fid) (hc : Con P fid ds HL r HL) (m : List Bool) (hp : isCall σ g o.op = some (fid, ds0)) (hds : com m ds0 = ds) (hb : provB HL HL [] [] r = true) (hL : Hn = HL) : Prov P l n C σ Hn o g ⟨some (d, gd, r), [], []⟩ := by
  subst hL
  refine p_of0 hb (fun w a ν X hO hF hg => ?_)
  unfold provB at hb
  simp only [Bool.and_eq_true] at hb
  obtain ⟨⟨⟨h1, h2⟩, h3⟩, _⟩ := hb
  have h4 := e_call (HL := Hn) (HR := []) (new := []) hP hc m hF hO hg hp hds (by rw [List.append_nil]) (by
    unfold callOk
    simp only [Bool.and_eq_true]
    exact ⟨⟨⟨rfl, h2⟩, h3⟩, rfl⟩)
  rw [List.append_nil] at h4
  exact h4.sub (fun s _ => by simp)
theorem p_callN (hP : Fn P fid) (hc : Con P fid ds [] r H1) (m : List Bool) (hp : isCall σ g o.op = some (fid, ds0)) (hds : com m ds0 = ds) (hb : provB [] H1 H1 [] r = true) (hnd : nodupB (rids H1) = true) : Prov P l n C σ [] o g ⟨some (d, gd, r), [], H1⟩ := by
  refine p_of (Hn' := H1) (x := r) hb (fun s hs => by injection hs with hs; rw [← hs]) (fun e => by simp) (fun q hq => by cases hq) (fun w a ν X hO hF hg => ?_)
  have h4 := e_call (HL := []) (HR := []) (new := rids H1) hP hc m hF hO hg hp hds (by simp) (by
    unfold provB at hb
    simp only [Bool.and_eq_true] at hb
    obtain ⟨⟨⟨h1, h2⟩, h3⟩, h4⟩ := hb
    unfold callOk
    simp only [Bool.and_eq_true]
    refine ⟨⟨⟨List.all_eq_true.2 fun q hq => ?_, h2⟩, h3⟩, rfl⟩
    rw [Bool.and_eq_true]
    exact ⟨fresh_mk (fun e he => by cases he) (fun p hp => by cases hp), rfl⟩)
  rw [List.append_nil] at h4
  exact h4
/-! ### A row given up, inside blocks too -/
def sbe (q : Nat) (x : DV) : En → En
  | .blk t cs => .blk t (sb.sbs q x cs)
  | .lit t n cs => .lit t n (sb.sbs q x cs)
  | .mp es => .mp (es.map fun p => (p.1, sb q x p.2))
  | e => e
def sbH (q : Nat) (x : DV) : Hp → Hp
  | [] => []
  | e :: l => (e.1, sbe q x e.2) :: sbH q x l
theorem sbH_eq (q : Nat) (x : DV) : ∀ H : Hp, sbH q x H = H.map fun e => (e.1, sbe q x e.2)
  | [] => rfl
  | e :: l => by rw [sbH, sbH_eq q x l, List.map_cons]
theorem FR.sb_ {q : Nat} {x : DV} {v : Value} {d : DV} (h : FR F w v d) : D.sb q x d = d := by cases h <;> rfl
theorem OT.sb_ {q : Nat} {x : DV} {v : Value} {d : DV} {S : Nat → Prop} (h : OT F w v d S) : D.sb q x d = d := by
  cases h with
  | fr h => exact h.sb_
  | e0 => rfl
  | osl => rfl
theorem EnR.sb {q r' : Nat} {e : En} (h : EnR ν F w r' e) (hx : DR ν.v F w (ν.v q) x) : EnR ν F w r' (sbe q x e) := by
  cases e with
  | row => exact h
  | rowh => exact h
  | blk t cs =>
    obtain ⟨g, vs, s, hv, hg, hl, h0, hs, hd, h2⟩ := h
    refine ⟨g, vs, s, hv, hg, by rw [sbs_eq, List.length_map]; exact hl, h0, hs, hd, fun j u d hj hd' => ?_⟩
    obtain ⟨d', h3, rfl⟩ := sbs_at hd'
    obtain ⟨h4, h5⟩ := h2 j u d' hj h3
    refine ⟨h4, ?_⟩
    rcases h5 with h5 | h5
    · exact .inl (h5.sb (fun _ h => h) hx)
    · exact .inr (by rw [h5.sb_]; exact h5)
  | lit t n cs =>
    obtain ⟨g, vs, hv, hg, hl, h0, h1, h2⟩ := h
    refine ⟨g, vs, hv, hg, by rw [sbs_eq, List.length_map]; exact hl, h0, h1, fun j u d hj hd' => ?_⟩
    obtain ⟨d', h3, rfl⟩ := sbs_at hd'
    exact (h2 j u d' hj h3).sb (fun _ h => h) hx
  | mp es =>
    obtain ⟨g, en, clock, hv, hg, h0, hk, h2⟩ := h
    refine ⟨g, en, clock, hv, hg, h0, by rw [hk]; simp, fun j e p hj hp => ?_⟩
    rw [List.getElem?_map] at hp
    obtain ⟨p', h3, rfl⟩ := Option.map_eq_some_iff.1 hp
    exact (h2 j e p' hj h3).sb (fun _ h => h) hx
theorem St.frzH {q e sz : Nat} {es es' : List (List DV)} (h : St n σ H C w a ν) (hq : hl H q = some (.row e sz es)) (hz : Fzn (.osl e sz es) (.sl es')) : St n (sbσ q (.sl es') σ) (sbH q (.sl es') (del q H)) C w a ν := by
  have h1 := h.frz hq hz
  have hown : DR ν.v (Fz ν (del q H) C w) w (ν.v q) (.sl es') := by
    have he := hl_mem hq
    have h2 := h.o.less (H1 := del q H) List.filter_sublist
    refine .fr (OT.frz (h.o.ent _ he) (fun k hk => (h2.2 k hk).1) (fun k hk => ⟨h.o.bnd _ he k hk, fun hX => ?_, fun e' he' hk' => ?_⟩) hz)
    · have h5 := h.o.hX k hX
      rcases h.o.base _ he k hk with ⟨p, hp, h6⟩ | h6
      · exact h5.2 p hp h6
      · have := h5.1; omega
    · obtain ⟨h5, h6⟩ := mem_del he'
      exact h.o.ap _ he e' h5 (Ne.symm h6) k hk hk'
  have hF : Fz ν (sbH q (.sl es') (del q H)) C w = Fz ν (del q H) C w := by
    funext k
    apply propext
    constructor
    · rintro ⟨a, b, c⟩
      exact ⟨a, b, fun e he => c (e.1, sbe q (.sl es') e.2) (by rw [sbH_eq]; exact List.mem_map_of_mem (f := fun e : Nat × En => (e.1, sbe q (.sl es') e.2)) he)⟩
    · rintro ⟨a, b, c⟩
      refine ⟨a, b, fun e he => ?_⟩
      rw [sbH_eq] at he
      obtain ⟨e', he', rfl⟩ := List.mem_map.1 he
      exact c e' he'
  have mem : ∀ e ∈ sbH q (.sl es') (del q H), ∃ e' ∈ del q H, e = (e'.1, sbe q (.sl es') e'.2) := fun e he => by
    rw [sbH_eq] at he
    obtain ⟨e', he', h2⟩ := List.mem_map.1 he
    exact ⟨e', he', h2.symm⟩
  refine ⟨by rw [hF]; exact h1.f, ⟨fun e he => ?_, ?_, fun e he e' he' hne k hk hk' => ?_, fun e he k hk => ?_, fun e he k hk => ?_, h1.o.lent, h1.o.hX, h1.o.os, h1.o.tape, h1.o.out, h1.o.size, h1.o.block, by rw [hF]; exact h1.o.gl⟩⟩
  · obtain ⟨e1, h2, rfl⟩ := mem e he
    rw [hF]
    exact (h1.o.ent e1 h2).sb hown
  · rw [sbH_eq, List.map_map]
    exact h1.o.nd
  · obtain ⟨e1, h2, rfl⟩ := mem e he
    obtain ⟨e2, h3, rfl⟩ := mem e' he'
    exact h1.o.ap e1 h2 e2 h3 hne k hk hk'
  · obtain ⟨e1, h2, rfl⟩ := mem e he
    exact h1.o.bnd e1 h2 k hk
  · obtain ⟨e1, h2, rfl⟩ := mem e he
    exact h1.o.base e1 h2 k hk
/-! ### Jumps back -/
variable {c : Code}
/-- What holds where a piece ends that may jump back to a label. -/
def JP {S O : Type} (n : Nat) (C : Cx) (lb : Nat) (σf : S → Sl) (Hf : S → Hp) (g : S → Option O) (o : O) (Q : Exit → Act → World → Prop) : Exit → Act → World → Prop
  | .goto l, a, w => l = lb ∧ ∃ (s : S) (ν : Nm), g s = some o ∧ St n (σf s) (Hf s) C w a ν
  | e, a, w => Q e a w
theorem j_norm {S O : Type} {lb : Nat} {σf : S → Sl} {Hf : S → Hp} {g : S → Option O} {o : O} (h : Q .normal a w) : JP n C lb σf Hf g o Q .normal a w := h
theorem j_goto {S O : Type} {lb : Nat} {σf : S → Sl} {Hf : S → Hp} {g : S → Option O} {o : O} {s : S} (hg : g s = some o) (h : St n (σf s) (Hf s) C w a ν) : JP n C lb σf Hf g o Q (.goto lb) a w := ⟨rfl, s, ν, hg, h⟩
theorem t_tg {K : Act → World → Prop} {lb : Nat} (h : Q (.goto lb) a w) : Exit.then K Q (.goto lb) a w := h
theorem t_bg {id lb : Nat} (h : Q (.goto lb) a w) : Exit.inBlock id Q (.goto lb) a w := h
theorem k_scope {S O : Type} (h0 : St n σ H C w a ν) {f : S → Option O} {st : (S → Option O) → S → Option O}
    (pc : ∀ motive : S → O → Prop, (∀ g : S → Option O, (∀ s o, g s = some o → motive s o) → ∀ s o, st g s = some o → motive s o) → ∀ s o, f s = some o → motive s o)
    (lb : Nat) {rest : Code} (hf : findLabel c lb = some rest) (σf : S → Sl) (Hf : S → Hp) (K : O → Prop) {o : O} (hK : K o)
    (first : c.wp P (JP n C lb σf Hf f o Q) a w)
    (pass : ∀ (g : S → Option O) (s : S), st g s = some o → ∀ (a : Act) (w : World) (ν : Nm), St n (σf s) (Hf s) C w a ν → rest.wp P (JP n C lb σf Hf g o Q) a w) : (Code.scope c).wp P Q a w := by
  intro b k cs
  have hg : gotoIn lb (.inScope c :: k) = some (.code rest :: .inScope c :: k) := by simp [gotoIn, hf]
  have key := pc (fun s o' => o' = o → ∀ (a : Act) (w : World) (ν : Nm), St n (σf s) (Hf s) C w a ν → ∃ e a' w', Q e a' w' ∧ Arrives P (lone (b.at a (.code rest :: .inScope c :: k)) cs w) b k cs e a' w') (fun g hgg s o' hst ho a w ν h => by
    subst ho
    obtain ⟨e, a₁, w₁, hq, harr⟩ := pass g s hst a w ν h b (.inScope c :: k) cs
    cases e with
    | normal => exact ⟨.normal, a₁, w₁, hq, Steps.trans harr (.one step_inScope)⟩
    | exit id => exact ⟨.exit id, a₁, w₁, hq, fun k' hk => harr k' (by simp [exitTo, hk])⟩
    | goto l =>
      obtain ⟨rfl, s', ν', h1, h2⟩ := hq
      obtain ⟨e2, a2, w2, hq2, harr2⟩ := hgg s' o' h1 rfl a₁ w₁ ν' h2
      exact ⟨e2, a2, w2, hq2, .of_steps (harr _ hg) harr2⟩
    | ret => exact ⟨.ret, a₁, w₁, hq, harr⟩
    | panic ch => exact ⟨.panic ch, a₁, w₁, hq, harr⟩
    | outgrown => exact ⟨.outgrown, a₁, w₁, hq, harr⟩)
  obtain ⟨e, a₁, w₁, hq, harr⟩ := first b (.inScope c :: k) cs
  cases e with
  | normal => exact ⟨.normal, a₁, w₁, hq, .head step_scope (Steps.trans harr (.one step_inScope))⟩
  | exit id => exact ⟨.exit id, a₁, w₁, hq, fun k' hk => .head step_scope (harr k' (by simp [exitTo, hk]))⟩
  | goto l =>
    obtain ⟨rfl, s', ν', h1, h2⟩ := hq
    obtain ⟨e2, a2, w2, hq2, harr2⟩ := key s' o h1 rfl a₁ w₁ ν' h2
    exact ⟨e2, a2, w2, hq2, .of_steps (.head step_scope (harr _ hg)) harr2⟩
  | ret => exact ⟨.ret, a₁, w₁, hq, .of_steps (.one step_scope) harr⟩
  | panic ch => exact ⟨.panic ch, a₁, w₁, hq, .of_steps (.one step_scope) harr⟩
  | outgrown => exact ⟨.outgrown, a₁, w₁, hq, .of_steps (.one step_scope) harr⟩
end
end Go.Proofs.YtjjmoihpjmojiaaDoor.D
