/- Structs; every pure operation. -/
import Derived.Test.YtjjmoihpjmojiaaDoorD4
set_option linter.unusedVariables false
set_option linter.unusedSimpArgs false
namespace Go.Proofs.YtjjmoihpjmojiaaDoor.D
open Go.RowKit

def setV : Nat → List Value → List Value → List Value
  | _, [], cells => cells
  | off, c :: r, cells => setV (off + 1) r (cells.set off c)
theorem foldl_setV (l : List Value) : ∀ (cells : Array Value) (off k : Nat),
    (l.zipIdx k).foldl (fun cs (c, j) => cs.setIfInBounds (off + j) c) cells = (setV (off + k) l cells.toList).toArray := by
  induction l with
  | nil => intro cells off k; simp [setV]
  | cons x r ih =>
    intro cells off k
    rw [List.zipIdx_cons, List.foldl_cons, ih]
    simp only [Array.toList_setIfInBounds, setV, Nat.add_assoc]
theorem setV_length (l : List Value) : ∀ (off : Nat) (cells : List Value), (setV off l cells).length = cells.length := by
  induction l with
  | nil => intro off cells; rfl
  | cons x r ih => intro off cells; rw [setV, ih, List.length_set]
def fillV (pl : List (Nat × Nat × Bool)) : List Value → List (Nat × Value) → Option (List Value)
  | cells, [] => some cells
  | cells, (i, v) :: rest => match pl[i]? with
    | none => none
    | some p => bif Nat.beq v.cells.toList.length p.2.1 && Nat.ble (p.1 + v.cells.toList.length) cells.length then fillV pl (setV p.1 v.cells.toList cells) rest else none
theorem fill_of {pl : List (Nat × Nat × Bool)} {place : Nat → Option (Nat × Nat)} (hp : ∀ i, place i = (pl[i]?).map (fun p => (p.1, p.2.1))) : ∀ (parts : List (Nat × Value)) (cells : Array Value) (r : List Value), fillV pl cells.toList parts = some r → Instr.fill place cells parts = some r.toArray := by
  intro parts
  induction parts with
  | nil => intro cells r h; simp only [fillV, Option.some.injEq] at h; subst h; rfl
  | cons x rest ih =>
    obtain ⟨i, v⟩ := x
    intro cells r h
    simp only [fillV] at h
    cases hi : pl[i]? with
    | none => rw [hi] at h; cases h
    | some p =>
      rw [hi] at h
      simp only at h
      cases hc : (Nat.beq v.cells.toList.length p.2.1 && Nat.ble (p.1 + v.cells.toList.length) cells.toList.length) with
      | false => rw [hc] at h; cases h
      | true =>
        rw [hc] at h
        simp only [cond_true] at h
        rw [Bool.and_eq_true] at hc
        have h1 : v.cells.toList.length = p.2.1 := Nat.eq_of_beq_eq_true hc.1
        have h2 : p.1 + v.cells.toList.length ≤ cells.toList.length := Nat.le_of_ble_eq_true hc.2
        unfold Instr.fill
        rw [hp i, hi]
        simp only [Option.map_some]
        have h3 : ¬ ((v.cells.size ≠ p.2.1 || p.1 + v.cells.size > cells.size) = true) := by
          simp only [Array.length_toList] at h1 h2
          simp [h1]; omega
        rw [if_neg h3]
        have h4 := foldl_setV v.cells.toList cells p.1 0
        rw [Nat.add_zero] at h4
        have h5 : v.cells.zipIdx.foldl (fun cs (c, j) => cs.setIfInBounds (p.1 + j) c) cells = (setV p.1 v.cells.toList cells.toList).toArray := by
          rw [← h4, ← Array.foldl_toList, Array.toList_zipIdx]
        rw [h5]
        exact ih _ r (by simpa using h)

theorem run_build {P : Program} {t : TypeId} {fs : Array Field} {pl : List (Nat × Nat × Bool)} {z : Value} {ps : List (Nat × Value)} {l : List Value} (w : World)
    (hz : (P.info? t).bind (·.zero) = some z) (hu : P.underlying t = some (.struct fs)) (hp : fs.toList.map (fun f => (f.offset, (P.info? f.type).map (·.size), aggB P f.type)) = pl.map (fun p => (p.1, some p.2.1, p.2.2)))
    (hf : fillV pl z.cells.toList ps = some l) {parts : Array (Nat × Value)} (hparts : parts.toList = ps) : (Instr.build t parts).run P w = .ok (.agg l.toArray) w := by
  obtain ⟨i, hi, hz⟩ := Option.bind_eq_some_iff.1 hz
  have hm : ∀ (l : List Field) (pl : List (Nat × Nat × Bool)), l.map (fun f => (f.offset, (P.info? f.type).map (·.size), aggB P f.type)) = pl.map (fun p => (p.1, some p.2.1, p.2.2)) → (l.mapM (fun f => Prod.mk f.offset <$> sizeOf f.type : Field → Sem (Nat × Nat))).run P w = .ok (pl.map fun p => (p.1, p.2.1)) w := by
    intro l
    induction l with
    | nil => intro pl h; cases pl with
      | nil => simp
      | cons p r => simp at h
    | cons f r ih =>
      intro pl h
      cases pl with
      | nil => simp at h
      | cons p q =>
        simp only [List.map_cons, List.cons.injEq, Prod.mk.injEq] at h
        have h2 := run_sizeOf h.1.2.1 w
        have h3 := ih q h.2
        simp [List.mapM_cons, h2, h3, h.1.1]
  have hm2 : (fs.mapM (fun f => do pure (f.offset, ← sizeOf f.type) : Field → Sem (Nat × Nat))).run P w = .ok (pl.map fun p => (p.1, p.2.1)).toArray w := by
    have h4 := hm fs.toList pl hp
    have h5 : fs = fs.toList.toArray := by simp
    rw [h5, List.mapM_toArray]
    simp [h4]
  have hfill : Instr.fill (fun i => (pl.map fun p => (p.1, p.2.1)).toArray[i]?) z.cells parts.toList = some l.toArray := by
    rw [hparts]
    exact fill_of (pl := pl) (fun i => by simp) ps z.cells l hf
  unfold Instr.build
  simp only [Sem.run_bind, zeroValue, typeInfo, run_program, Result.andThen_ok, hi, Sem.run_pure, hz, run_underlying hu, hm2, hfill]
section
variable {ν : Nm} {ι : Nat → Value} {F : Nat → Prop} {w : World} {n : Nat} {σ : Sl} {a : Act} {P : Program} {τ : List (Nat × TR)} {H : Hp} {C : Cx}
theorem All.set : ∀ {us : List Value} {ds : List DV}, All ι F w us ds → ∀ (k : Nat) (u : Value) (d : DV), DR ι F w u d → All ι F w (us.set k u) (ds.set k d)
  | [], [], _, _, _, _, _ => trivial
  | _ :: _, _ :: _, h, 0, u, d, hd => ⟨hd, h.2⟩
  | _ :: _, _ :: _, h, k + 1, u, d, hd => ⟨h.1, All.set h.2 k u d hd⟩
  | [], _ :: _, h, _, _, _, _ => h.elim
  | _ :: _, [], h, _, _, _, _ => h.elim
theorem All.setL : ∀ {cs : List Value} {cd : List DV}, All ι F w cs cd → ∀ (off : Nat) {us : List Value} {ds : List DV}, All ι F w us ds → All ι F w (setV off cs us) (D.setL off cd ds)
  | [], [], _, _, _, _, h => h
  | _ :: _, _ :: _, hc, off, _, _, h => All.setL hc.2 (off + 1) (h.set off _ _ hc.1)
  | [], _ :: _, hc, _, _, _, _ => hc.elim
  | _ :: _, [], hc, _, _, _, _ => hc.elim
theorem one_set {us : List Value} (h : ∀ u ∈ us, u.oneCell' = true) (k : Nat) {u : Value} (hu : u.oneCell' = true) : ∀ x ∈ us.set k u, x.oneCell' = true := fun x hx => by
  rcases List.mem_or_eq_of_mem_set hx with h1 | rfl
  · exact h x h1
  · exact hu
theorem one_setV : ∀ {cs : List Value} (hc : ∀ u ∈ cs, u.oneCell' = true) (off : Nat) {us : List Value} (h : ∀ u ∈ us, u.oneCell' = true), ∀ x ∈ setV off cs us, x.oneCell' = true
  | [], _, _, _, h => h
  | c :: r, hc, off, us, h => one_setV (fun u hu => hc u (List.mem_cons_of_mem _ hu)) (off + 1) (one_set h off (hc c List.mem_cons_self))
/-- The cells of a value. -/
theorem DR.one {v : Value} {d : DV} (h : DR ι F w v d) (hd : ∀ cs, d ≠ .agg cs) (ht : ∀ cs, d ≠ .tup cs) (ha : d ≠ .any) : v.oneCell' = true := by
  cases h with
  | any => exact absurd rfl ha
  | fr h => exact h.one
  | own r h => exact h
  | ptr => rfl
  | fat => rfl
  | fn => rfl
  | agg ds => exact absurd rfl (hd ds)
  | tup ds => exact absurd rfl (ht ds)
theorem cells_one {v : Value} (h : v.oneCell' = true) : v.cells.toList = [v] := by
  cases v <;> first | rfl | cases h
theorem cellsD_ok {v : Value} {d : DV} {cs : List DV} (h : DR ι F w v d) (hc : cellsD d = some cs) : All ι F w v.cells.toList cs ∧ ∀ u ∈ v.cells.toList, u.oneCell' = true := by
  unfold cellsD at hc
  split at hc
  · rename_i ds
    simp only [Option.some.injEq] at hc
    subst hc
    obtain ⟨us, rfl, hl, h1, h2⟩ := h.agg_inv
    simp only [Value.cells]
    exact ⟨All.of (by simpa using hl) h2, by simpa using h1⟩
  · cases hc
  · cases hc
  · rename_i h1 h2 h3
    simp only [Option.some.injEq] at hc
    subst hc
    have ho := h.one (fun cs e => h1 cs e) (fun cs e => h2 cs e) h3
    rw [cells_one ho]
    exact ⟨⟨h, trivial⟩, fun u hu => by simp only [List.mem_singleton] at hu; rw [hu]; exact ho⟩
theorem fill_ok {pl : List (Nat × Nat × Bool)} : ∀ {ps : List (Nat × Value)} {pd : List (Nat × DV)} {us : List Value} {ds l : List DV}, ps.map (·.1) = pd.map (·.1) → All ι F w (ps.map (·.2)) (pd.map (·.2)) → All ι F w us ds → (∀ u ∈ us, u.oneCell' = true) → fillL pl ds pd = some l → ∃ l', fillV pl us ps = some l' ∧ All ι F w l' l ∧ ∀ u ∈ l', u.oneCell' = true
  | [], [], us, ds, l, _, _, h, h1, hf => by
    simp only [fillL, Option.some.injEq] at hf
    subst hf
    exact ⟨us, rfl, h, h1⟩
  | [], _ :: _, _, _, _, he, _, _, _, _ => by cases he
  | _ :: _, [], _, _, _, he, _, _, _, _ => by cases he
  | (i, v) :: ps, (i', d) :: pd, us, ds, l, he, ha, h, h1, hf => by
    simp only [List.map_cons, List.cons.injEq] at he ha
    obtain ⟨rfl, he⟩ := he
    unfold fillL at hf
    unfold fillV
    cases hi : pl[i]? with
    | none => rw [hi] at hf; cases hf
    | some p =>
      rw [hi] at hf
      cases hc : cellsD d with
      | none => rw [hc] at hf; cases hf
      | some cs =>
        rw [hc] at hf
        simp only at hf ⊢
        obtain ⟨h2, h3⟩ := cellsD_ok ha.1 hc
        have hlen := h2.length
        have hlen2 := h.length
        rw [hlen, hlen2]
        cases hb : (Nat.beq cs.length p.2.1 && Nat.ble (p.1 + cs.length) ds.length) with
        | false => rw [hb] at hf; cases hf
        | true =>
          rw [hb] at hf
          simp only [cond_true] at hf ⊢
          exact fill_ok he ha.2 (h2.setL p.1 h) (one_setV h3 p.1 h1) hf
theorem evp_ok (hF : Fr ι F w n σ a) {g : Gd} (hg : Gd.on a g) : ∀ {l : List (Nat × Operand)} {ds : List (Nat × DV)}, evp σ g l = some ds → (l.map (fun x => (x.1, a.eval x.2))).map (·.1) = ds.map (·.1) ∧ All ι F w ((l.map (fun x => (x.1, a.eval x.2))).map (·.2)) (ds.map (·.2))
  | [], ds, h => by simp only [evp, Option.some.injEq] at h; subst h; exact ⟨rfl, trivial⟩
  | x :: r, ds, h => by
    unfold evp at h
    split at h
    · rename_i v l hx hr
      simp only [Option.some.injEq] at h
      subst h
      obtain ⟨h1, h2⟩ := evp_ok hF hg hr
      exact ⟨by simp [h1] , ⟨hF.eval hx hg, h2⟩⟩
    · cases h
theorem allZ {ι : Nat → Value} {F : Nat → Prop} {w : World} : ∀ {z : List Value}, (∀ v ∈ z, v.oneCell' = true) → All ι F w z (z.map .v)
  | [], _ => trivial
  | x :: z, h => ⟨.fr (.v x (h x List.mem_cons_self)), allZ (fun v hv => h v (List.mem_cons_of_mem _ hv))⟩
theorem evs_arr (hF : Fr ι F w n σ a) {g : Gd} (hg : Gd.on a g) {xs : Array Operand} {ds : List DV} (h : evs σ g xs.toList = some ds) : ∃ us : List Value, xs.map a.eval = us.toArray ∧ All ι F w us ds := by
  refine ⟨xs.toList.map a.eval, ?_, hF.evals hg h⟩
  apply Array.ext'
  simp
theorem equal_bool {t : TypeId} (hu : P.underlying t = some .bool) (a b : Bool) (w : World) : (Op.equal t (.bool a) (.bool b)).run P w = .ok (a == b) w := by
  unfold Op.equal Op.maxDepth Op.equalIn
  simp only [Sem.run_bind, run_underlying hu, Result.andThen_ok, Sem.run_pure]
theorem run_beq {t : TypeId} {x y : Operand} (hu : P.underlying t = some .bool) (a b : Bool) (w : World) : (do eqGuard .eql t x y (.bool a) (.bool b); Go.binOp .eql t (.bool a) (.bool b) : Sem Value).run P w = .ok (.bool (a == b)) w := by
  show (do (pure () : Sem Unit); (do pure (.bool (← Op.equal t (.bool a) (.bool b))) : Sem Value) : Sem Value).run P w = _
  simp [equal_bool hu]
theorem run_bne {t : TypeId} {x y : Operand} (hu : P.underlying t = some .bool) (a b : Bool) (w : World) : (do eqGuard .neq t x y (.bool a) (.bool b); Go.binOp .neq t (.bool a) (.bool b) : Sem Value).run P w = .ok (.bool (a != b)) w := by
  show (do (pure () : Sem Unit); (do pure (.bool (!(← Op.equal t (.bool a) (.bool b)))) : Sem Value) : Sem Value).run P w = _
  simp [equal_bool hu, bne]
/-- A pure operation. -/
theorem pv_ok {o : Oper} {d : DV} {g : Gd} (hτ : Tab P τ) (hF : Fr ν.v F w n σ a) (hO : ∀ e ∈ H, EnR ν F w e.1 e.2) (hg : Gd.on a g) (h : pv τ H σ g o.op = some d) : ∃ v, (execOp a.eval o).run P w = .ok (.value v) w ∧ DR ν.v F w v d := by
  unfold execOp
  generalize o.op = op at h
  cases op <;> simp only [pv] at h <;> try (cases h; done)
  case move x => exact ⟨a.eval x, by simp, hF.eval h hg⟩
  case assign x => exact ⟨a.eval x, by simp, hF.eval h hg⟩
  case pick c x y =>
    obtain ⟨b, hb, hv⟩ := pick_ok hF hg h
    refine ⟨_, ?_, hv⟩
    cases b <;> simp [hb, asBool]
  case binOp op t x y yt =>
    split at h
    · rename_i b1 b2 hx hy
      split at h
      · rename_i sz z ht
        simp only [Option.some.injEq] at h
        subst h
        have hu : P.underlying t = some .bool := (hτ.get ht).2.2
        refine ⟨_, run_val ?_, .fr (.v (.bool (b1 == b2)) rfl)⟩
        rw [hF.evalv hx hg, hF.evalv hy hg]
        exact run_beq hu b1 b2 w
      · rename_i sz z ht
        simp only [Option.some.injEq] at h
        subst h
        have hu : P.underlying t = some .bool := (hτ.get ht).2.2
        refine ⟨_, run_val ?_, .fr (.v (.bool (b1 != b2)) rfl)⟩
        rw [hF.evalv hx hg, hF.evalv hy hg]
        exact run_bne hu b1 b2 w
      · cases h
    · rename_i u v' hx hy
      split at h
      · rename_i r hr
        cases ho : r.oneCell' with
        | false => rw [ho] at h; cases h
        | true =>
          rw [ho] at h
          simp only [cond_true, Option.some.injEq] at h
          subst h
          refine ⟨r, run_val ?_, .fr (.v r ho)⟩
          rw [hF.evalv hx hg, hF.evalv hy hg]
          exact run_bin hr w
      · cases h
    · cases h
  case unOp op t x =>
    cases op
    case not =>
      simp only at h
      split at h
      · rename_i b hx
        simp only [Option.some.injEq] at h
        subst h
        exact ⟨.bool !b, by simp [hF.evalv hx hg, Op.unary], .fr (.v _ rfl)⟩
      · cases h
    all_goals (simp at h)
  case convert s d' x =>
    split at h
    · rename_i i r k z sz hx hs hd
      simp only [Option.some.injEq] at h
      subst h
      refine ⟨.int k (k.wrap _), run_val ?_, .fr (.v _ rfl)⟩
      rw [hF.evalv hx hg]
      have h1 := hτ.get hd
      have h2 : P.underlying d' = some (.int k) := h1.2.2
      obtain ⟨ds, hs'⟩ := Option.isSome_iff_exists.1 (TR.aggB_ (hτ.get hs)).2
      unfold convert
      simp only [Sem.run_bind, run_underlying h2, run_underlying hs', Result.andThen_ok]
      cases ds <;> simp [Conv.intToInt]
    · cases h
  case extract x i =>
    split at h
    · rename_i vs hx
      obtain ⟨us, he, hl, hr⟩ := (hF.eval hx hg).tup_inv
      have hi := (List.getElem?_eq_some_iff.1 h).1
      have hu : us[i]? = some (us[i]'(by omega)) := List.getElem?_eq_getElem (by omega)
      refine ⟨_, ?_, hr i _ d hu h⟩
      simp [he, Instr.extract, hu]
    · cases h
  case nilCheck x =>
    split at h
    · rename_i r off hx
      simp only [Option.some.injEq] at h
      subst h
      have h1 := hF.eval hx hg
      obtain ⟨gg, h2, h3⟩ := h1.ptr_inv
      exact ⟨a.eval x, by simp [h3], h1⟩
    · rename_i c off hx
      simp only [Option.some.injEq] at h
      subst h
      have h1 := hF.eval hx hg
      obtain ⟨ad, u, h3, _⟩ := h1.fat_inv
      exact ⟨a.eval x, by simp [h3], h1⟩
    · cases h
  case fieldAddr s x i =>
    split at h
    · rename_i r0 off0 ps sz z hx hs
      obtain ⟨hsz, _, fs, hu, hp, hall⟩ := hτ.get hs
      split at h
      · rename_i off k ag hi
        obtain ⟨f, hf, ho, hk, hag⟩ := struct_place hp hi
        cases hle : Nat.ble 1 k with
        | false => rw [hle] at h; cases h
        | true =>
          rw [hle] at h
          simp only [cond_true, Option.some.injEq] at h
          subst h
          have hk0 : ¬ k = 0 := by have := Nat.le_of_ble_eq_true hle; omega
          obtain ⟨gg, h2, h3⟩ := (hF.eval hx hg).ptr_inv
          refine ⟨.pointer (some ⟨gg, off0 + off, none⟩), run_val ?_, .ptr _ _ _ h2⟩
          rw [h3]
          unfold Instr.fieldAt
          simp only [Sem.run_bind, run_underlying hu, Result.andThen_ok, hf, Instr.sureAddr, Sem.run_pure, fieldPlace, run_sizeOf hk, hk0, if_false]
          simp only [ho, Addr.add]
          by_cases h0 : off = 0
          · subst h0; simp
          · simp [h0]
      · cases h
    · rename_i c off0 ps sz z hx hs
      obtain ⟨hsz, _, fs, hu, hp, hall⟩ := hτ.get hs
      split at h
      · rename_i off k ag hi
        obtain ⟨f, hf, ho, hk, hag⟩ := struct_place hp hi
        cases hle : Nat.ble 1 k with
        | false => rw [hle] at h; cases h
        | true =>
          rw [hle] at h
          simp only [cond_true, Option.some.injEq] at h
          subst h
          have hk0 : ¬ k = 0 := by have := Nat.le_of_ble_eq_true hle; omega
          obtain ⟨ad, u, h3, hB, hc, hr⟩ := (hF.eval hx hg).fat_inv
          refine ⟨.pointer (some (ad.add (off0 + off))), run_val ?_, .fat ad c _ u hB hc hr⟩
          rw [h3]
          unfold Instr.fieldAt
          simp only [Sem.run_bind, run_underlying hu, Result.andThen_ok, hf, Instr.sureAddr, Sem.run_pure, fieldPlace, run_sizeOf hk, hk0, if_false]
          simp only [ho, addr_add_add]
      · cases h
    · cases h
  case field s x i =>
    split at h
    · rename_i cs ps sz z hx hs
      obtain ⟨hsz, _, fs, hu, hp, hall⟩ := hτ.get hs
      obtain ⟨us, he, hl, h1, hr⟩ := (hF.eval hx hg).agg_inv
      split at h
      · rename_i off k hi
        obtain ⟨f, hf, ho, hk, hag⟩ := struct_place hp hi
        have hso : (P.underlying f.type).isSome = true := List.all_eq_true.1 hall f (by simpa using Array.mem_of_getElem? hf)
        simp only [force_eq, Option.some.injEq] at h
        subst h
        refine ⟨.agg ((us.drop off).take k).toArray, run_val ?_, .agg _ _ (by simp [hl]) (fun u hu => h1 u (List.mem_of_mem_drop (List.mem_of_mem_take hu))) (fun j u d hj hd => ?_)⟩
        · rw [he]
          unfold Instr.field
          simp only [Sem.run_bind, run_underlying hu, Result.andThen_ok, hf, asAgg, Sem.run_pure, part, run_isAgg hso, hag, if_true, run_sizeOf hk]
          have he : us.toArray.extract f.offset (f.offset + k) = ((us.drop off).take k).toArray := by
            apply Array.ext'
            rw [Array.toList_extract, List.extract_eq_take_drop, ho]
            simp
          rw [he]
        · rw [List.getElem?_take] at hj hd
          split at hj
          · rename_i hlt
            rw [if_pos hlt, List.getElem?_drop] at hd
            rw [List.getElem?_drop] at hj
            exact hr _ u d hj hd
          · cases hj
      · rename_i off k hi
        obtain ⟨f, hf, ho, hk, hag⟩ := struct_place hp hi
        have hso : (P.underlying f.type).isSome = true := List.all_eq_true.1 hall f (by simpa using Array.mem_of_getElem? hf)
        have hlt := (List.getElem?_eq_some_iff.1 h).1
        have hu' : us[off]? = some (us[off]'(by omega)) := List.getElem?_eq_getElem (by omega)
        refine ⟨_, run_val ?_, hr off _ d hu' h⟩
        rw [he]
        unfold Instr.field
        simp only [Sem.run_bind, run_underlying hu, Result.andThen_ok, hf, asAgg, Sem.run_pure, part, run_isAgg hso, hag, if_false, Bool.false_eq_true]
        simp [ho, hu']
      · cases h
    · cases h
  case load t x =>
    split at h
    · rename_i c off r hx ht
      obtain ⟨ad, u, h3, hB, hc, hr⟩ := (hF.eval hx hg).fat_inv
      obtain ⟨v, h4, h5⟩ := ldv_ok (ι := ν.v) (F := F) (w := w) (hτ.get ht) (ad := ad.add off) (cs := c.drop off) (u := fun j => u (off + j)) (d := d) (fun j d hj => by
        rw [List.getElem?_drop] at hj
        rw [addr_add_add]
        exact ⟨hc _ d hj, (hr _ d hj).one, fun _ => .fr (hr _ d hj)⟩) h
      exact ⟨v, run_val (by rw [h3]; exact h4), h5⟩
    · rename_i s off r hx ht
      split at h
      · rename_i t' cs he
        obtain ⟨gg, h2, h3⟩ := (hF.eval hx hg).ptr_inv
        obtain ⟨g', vs, s', h6, h7, h8, _, _, _, h9⟩ := hO _ (hl_mem he)
        have hgg : g' = gg := by
          simp only at h6
          rw [h6] at h2
          simpa [hdOf] using h2
        subst hgg
        obtain ⟨v, h4, h5⟩ := ldv_ok (ι := ν.v) (F := F) (w := w) (hτ.get ht) (ad := ⟨g', off, none⟩) (cs := cs.drop off) (u := fun j => vs.getD (off + j) undef) (d := d) (fun j d hj => by
          rw [List.getElem?_drop] at hj
          have hlt := (List.getElem?_eq_some_iff.1 hj).1
          have hv : vs[off + j]? = some (vs[off + j]'(by omega)) := List.getElem?_eq_getElem (by omega)
          have hv' : vs.getD (off + j) undef = vs[off + j]'(by omega) := by simp [List.getD_eq_getElem?_getD, hv]
          have hadd : (⟨g', off, none⟩ : Addr).add j = ⟨g', off + j, none⟩ := by
            unfold Addr.add
            by_cases h0 : j = 0
            · subst h0; simp
            · simp [h0]
          rw [hv', hadd, cell_of_row w g' (off + j) _ _ _ h7]
          refine ⟨by simp [hv], (h9 _ _ d hv hj).1, fun hp => ?_⟩
          rcases (h9 _ _ d hv hj).2 with h10 | h10
          · exact h10
          · exact .fr (h10.fr_of hp)) h
        exact ⟨v, run_val (by rw [h3]; exact h4), h5⟩
      · rename_i t' n' cs he
        obtain ⟨gg, h2, h3⟩ := (hF.eval hx hg).ptr_inv
        obtain ⟨g', vs, h6, h7, h8, _, h10, h9⟩ := hO _ (hl_mem he)
        have hgg : g' = gg := by
          simp only at h6
          rw [h6] at h2
          simpa [hdOf] using h2
        subst hgg
        obtain ⟨v, h4, h5⟩ := ldv_ok (ι := ν.v) (F := F) (w := w) (hτ.get ht) (ad := ⟨g', off, none⟩) (cs := cs.drop off) (u := fun j => vs.getD (off + j) undef) (d := d) (fun j d hj => by
          rw [List.getElem?_drop] at hj
          have hlt := (List.getElem?_eq_some_iff.1 hj).1
          have hv : vs[off + j]? = some (vs[off + j]'(by omega)) := List.getElem?_eq_getElem (by omega)
          have hv' : vs.getD (off + j) undef = vs[off + j]'(by omega) := by simp [List.getD_eq_getElem?_getD, hv]
          have hadd : (⟨g', off, none⟩ : Addr).add j = ⟨g', off + j, none⟩ := by
            unfold Addr.add
            by_cases h0 : j = 0
            · subst h0; simp
            · simp [h0]
          rw [hv', hadd, cell_of_row w g' (off + j) _ _ _ h7]
          exact ⟨by simp [hv], h10 _ (List.mem_of_getElem? hv), fun _ => h9 _ _ d hv hj⟩) h
        exact ⟨v, run_val (by rw [h3]; exact h4), h5⟩
      · cases h
    · cases h
  case makeFunc fn first cap =>
    split at h
    · rename_i us vs h1 h2
      simp only [Option.some.injEq] at h
      subst h
      obtain ⟨u1, he1, ha1⟩ := evs_arr hF hg h1
      obtain ⟨u2, he2, ha2⟩ := evs_arr hF hg h2
      refine ⟨.func fn u1.toArray u2.toArray, ?_, .fn _ _ _ _ _ ha1.length ha2.length ha1.at_ ha2.at_⟩
      simp [he1, he2, Instr.makeFunc]
    · cases h
  case build t parts =>
    split at h
    · rename_i ps pl sz z h1 h2
      obtain ⟨hsz, hz, fs, hu, hp, hall⟩ := hτ.get h2
      obtain ⟨zv, hz1, hz2⟩ := hz z rfl
      cases hz3 : allOne z with
      | false => rw [hz3] at h; cases h
      | true =>
        rw [hz3] at h
        simp only [cond_true] at h
        obtain ⟨l, hl, rfl⟩ : ∃ l, fillL pl (z.map .v) ps = some l ∧ DV.agg l = d := by
          cases hl : fillL pl (z.map .v) ps with
          | none => rw [hl] at h; cases h
          | some l => rw [hl] at h; simp only [force_eq, Option.some.injEq] at h; exact ⟨l, rfl, h⟩
        obtain ⟨h3, h4⟩ := evp_ok hF hg h1
        obtain ⟨l', h5, h6, h7⟩ := fill_ok h3 h4 (allZ (ι := ν.v) (F := F) (w := w) (allOne_mem hz3)) (allOne_mem hz3) hl
        refine ⟨.agg l'.toArray, run_val (run_build w hz1 hu hp (by rw [hz2]; exact h5) ?_), .agg _ _ h6.length h7 h6.at_⟩
        simp
    · cases h
  case call c =>
    obtain ⟨cal, args_, ts⟩ := c
    split at h
    · rename_i x t hc ha ht
      simp only at hc ha ht
      subst hc
      have ha := args1 ha
      have ht := types1 ht
      subst ha ht
      split at h
      · rename_i d' e sz z hx htl
        split at h
        · rename_i k hk
          simp only [Option.some.injEq] at h
          subst h
          obtain ⟨ao, cap, hv⟩ := lenD_ok hO (hF.eval hx hg) hk
          have hu : P.underlying t = some (.slice e) := (hτ.get htl).2.2
          exact ⟨.int .i64 k, by simp [resolve, invoke, builtin, hv, Builtin.len_, run_underlying hu, goInt], .fr (.v _ rfl)⟩
        · cases h
      · cases h
    · rename_i x y hc ha
      simp only at hc ha
      subst hc
      have ha := args2 ha
      subst ha
      split at h
      · rename_i k a' k' b' hx hy
        simp only [Option.some.injEq] at h
        subst h
        exact ⟨_, by simp [resolve, invoke, builtin, hF.evalv hx hg, hF.evalv hy hg, Builtin.min_, Builtin.min2, mn], .fr (.v _ rfl)⟩
      · cases h
    · rename_i x y hc ha
      simp only at hc ha
      subst hc
      have ha := args2 ha
      subst ha
      split at h
      · rename_i k a' k' b' hx hy
        simp only [Option.some.injEq] at h
        subst h
        exact ⟨_, by simp [resolve, invoke, builtin, hF.evalv hx hg, hF.evalv hy hg, Builtin.max_, Builtin.max2, mx], .fr (.v _ rfl)⟩
      · cases h
    · cases h
end
end Go.Proofs.YtjjmoihpjmojiaaDoor.D
