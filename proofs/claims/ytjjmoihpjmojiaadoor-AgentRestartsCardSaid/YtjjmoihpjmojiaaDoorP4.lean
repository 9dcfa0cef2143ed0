/- A switch beside messages: what is of another epoch changes nothing; the first message opens a new one. -/
import Derived.Test.YtjjmoihpjmojiaaDoorP3
set_option linter.unusedSimpArgs false
set_option linter.unusedVariables false
namespace Go.Proofs.YtjjmoihpjmojiaaDoor.X
open Go.RowKit Go.Proofs.YtjjmoihpjmojiaaDoor.D
set_option maxRecDepth 100000
theorem may_ack {e s t : Int} (he : 1 ≤ e ∧ e ≤ 1048576) (hs : 0 ≤ s ∧ s ≤ 1048576) (ht : 0 ≤ t ∧ t ≤ 4095) : mayM (Msg.mk 1 e s t zR) = true := by
  have h : at_ kindsT 1 = some (Told.mk (Bounds.mk 0 1048576) (Bounds.mk 0 4095) false) := rfl
  unfold mayM
  simp only [h]
  have h0 : isZ zR = true := rfl
  simp [inB, h0]
  omega
theorem may_hello {e : Int} (he : 1 ≤ e ∧ e ≤ 1048576) : mayM (Msg.mk 0 e 0 0 zR) = true := by
  have h : at_ kindsT 0 = some (Told.mk (Bounds.mk 0 0) (Bounds.mk 0 0) false) := rfl
  unfold mayM
  simp only [h]
  have h0 : isZ zR = true := rfl
  simp [inB, h0]
  omega
theorem may_open {e s : Int} (he : 1 ≤ e ∧ e ≤ 1048576) (hs : 1 ≤ s ∧ s ≤ 1048576) : mayM (Msg.mk 5 e s 0 zR) = true := by
  have h : at_ kindsT 5 = some (Told.mk (Bounds.mk 1 1048576) (Bounds.mk 0 0) false) := rfl
  unfold mayM
  simp only [h]
  have h0 : isZ zR = true := rfl
  simp [inB, h0]
  omega
theorem frames_ok {b : List Int} (h : 0 < b.length) : agent_frames b = some ⟨[b]⟩ := by
  unfold agent_frames
  have : decide (lenc c_u8 b = 0) = false := decide_eq_false (by rw [lenc_eq]; omega)
  rw [this]
  rfl
theorem hail_ok {x : Switch} (he : 1 ≤ x.Epoch ∧ x.Epoch ≤ 1048576) : ∃ b, agent_Hail x = some (.o1 b) ∧ frame_Open b = some ⟨Msg.mk 0 x.Epoch 0 0 zR, 0⟩ ∧ 0 < b.length := by
  obtain ⟨b, h1, h2, _, h3⟩ := round (may_hello he)
  refine ⟨b, ?_, h2, h3⟩
  unfold agent_Hail
  rw [h1]
  rfl
theorem own_nil {x : Switch} (h : x.L = []) : agent_own x = some ⟨x⟩ := by
  have h1 : table_own [] = some ⟨[]⟩ := by
    unfold table_own
    rw [table_own.l0.eq_1]
    rfl
  have h2 : table_at [] (-1) = some ⟨0⟩ := by
    unfold table_at table_first_api_Ver slices_IndexFunc_api_Ver_api_Ver
    rw [slices_IndexFunc_api_Ver_api_Ver.l0.eq_1]
    rfl
  obtain ⟨a, b, c, d, e, l, j⟩ := x
  simp only at h
  subst h
  unfold agent_own table_Drop
  simp only [h1, h2, Option.bind_eq_bind, Option.bind_some]
  rfl
theorem take_other {e s : Int} {m : Msg} (h : m.Epoch ≠ e) : sess_Take e s m = some ⟨8⟩ := by
  unfold sess_Take
  have : (m.Epoch != e) = true := by simp [h]
  rw [this]
  rfl
theorem handle_old {x : Switch} {m : Msg} {b : List Int} {r : Int} (hL : x.L = []) (hO : frame_Open b = some ⟨m, 0⟩) (hne : m.Epoch ≠ x.Epoch) (he : 1 ≤ x.Epoch ∧ x.Epoch ≤ 1048576) :
    (∃ l, agent_Handle x b r = some (.o1 x l)) ∨ agent_Handle x b r = some (.o0 (Switch.mk x.Epoch x.Seen x.Open x.Stamp x.Bad x.L (IntKind.i64.wrap (x.Junk + 1)))) := by
  obtain ⟨hb, h1, _, h3⟩ := hail_ok he
  have hw : agent_work = some ⟨⟩ := rfl
  have h00 : ((0 : Int) != 0) = false := rfl
  have h88 : ((8 : Int) == 8) = true := rfl
  unfold agent_Handle
  rw [own_nil hL, hO]
  simp only [Option.bind_eq_bind, Option.bind_some, hw, h00, Bool.not_true, Bool.not_false, Bool.or_false, Bool.or_true, Bool.false_or, Bool.false_eq_true, if_false, if_true, take_other hne, h88, h1, frames_ok h3]
  cases m.Kind == 2
  · cases m.Kind == 3
    · cases m.Kind == 4
      · cases m.Kind == 5
        · right; simp only [Bool.false_eq_true, if_false]
        · left; exact ⟨_, by simp only [Bool.false_eq_true, if_false, if_true]; rfl⟩
      · left; exact ⟨_, by simp only [Bool.false_eq_true, if_false, if_true]; rfl⟩
    · left; exact ⟨_, by simp only [Bool.false_eq_true, if_false, if_true]; rfl⟩
  · left; exact ⟨_, by simp only [if_true]; rfl⟩
theorem same_nil {x y : Switch} (hx : x.L = []) (hy : y.L = []) (h1 : y.Epoch = x.Epoch) (h2 : y.Seen = x.Seen) (h3 : y.Open = x.Open) (h4 : y.Stamp = x.Stamp) (h5 : y.Bad = x.Bad) (h6 : y.Junk = x.Junk) : wayfinderref17_Same x y = some ⟨true⟩ := by
  have h : wayfinderref09_Same [] [] = some ⟨true⟩ := by
    unfold wayfinderref09_Same
    rw [wayfinderref09_Same.l0.eq_1]
    rfl
  unfold wayfinderref17_Same
  rw [hx, hy, h, h1, h2, h3, h4, h5, h6]
  simp
theorem awake_ok : wayfinderlaw17_awake = some ⟨true⟩ := by
  obtain ⟨b, s1, s2, _, _⟩ := round (may_open (e := 1) (s := 1) (by decide) (by decide))
  obtain ⟨c, a1, a2, _, a3⟩ := round (may_ack (e := 1) (s := 1) (t := 0) (by decide) (by decide) (by decide))
  have hn : agent_New = some ⟨1, 0, false, 0, 0, 0⟩ := rfl
  have hw : agent_work = some ⟨⟩ := rfl
  have h00 : ((0 : Int) != 0) = false := rfl
  have h0 : ((0 : Int) == 0) = true := rfl
  have h08 : ((0 : Int) == 8) = false := rfl
  have h52 : ((5 : Int) == 2) = false := rfl
  have h53 : ((5 : Int) == 3) = false := rfl
  have h54 : ((5 : Int) == 4) = false := rfl
  have h55 : ((5 : Int) == 5) = true := rfl
  have ht : sess_Take 1 0 (Msg.mk 5 1 1 0 zR) = some ⟨0⟩ := rfl
  have ho : agent_worker_open (Msg.mk 5 1 1 0 zR) (Worker.mk (Switch.mk 1 0 false 0 0 [] 0) 9) = some ⟨Worker.mk (Switch.mk 1 0 true 0 0 [] 0) 9⟩ := rfl
  have hH : agent_Handle (Switch.mk 1 0 false 0 0 [] 0) b 9 = some (.o1 (Switch.mk 1 1 true 0 0 [] 0) [c]) := by
    unfold agent_Handle
    rw [own_nil rfl, s2]
    simp only [Option.bind_eq_bind, Option.bind_some, hw, h00, h52, h53, h54, h55, Bool.not_true, Bool.not_false, Bool.or_false, Bool.or_true, Bool.false_or, Bool.false_eq_true, if_false, if_true, ht, h08, h0, ho, a1, frames_ok a3]
  unfold wayfinderlaw17_awake
  have hl : ((lenc (c_L c_u8) [c]) != 1) = false := rfl
  have hat : at_ [c] 0 = some c := rfl
  simp only [s1, hn, hH, Option.bind_eq_bind, Option.bind_some, hl, hat, a2, Bool.false_eq_true, if_false]
  rfl
theorem few_ok (l : List Ver) (hl : l.length ≤ maxLen) : ∃ b, wayfinderlaw09_Few l = some ⟨b⟩ := by
  unfold wayfinderlaw09_Few
  by_cases h : (l.length : Int) > 20
  · rw [decide_eq_true (by rw [lenc_eq]; exact h)]
    exact ⟨_, rfl⟩
  · rw [decide_eq_false (by rw [lenc_eq]; exact h)]
    have key : ∀ (k i : Nat), i + k = l.length → (∃ b, wayfinderlaw09_Few.l0 l (i : Int) = some (.ret ⟨b⟩)) ∨ wayfinderlaw09_Few.l0 l (i : Int) = some (.go ()) := by
      intro k
      induction k with
      | zero =>
        intro i hi
        right
        rw [wayfinderlaw09_Few.l0.eq_1, decide_eq_false (by rw [lenc_eq]; omega)]
        simp
      | succ k ih =>
        intro i hi
        have hx : l[i]? = some (l[i]'(by omega)) := List.getElem?_eq_getElem (by omega)
        rw [wayfinderlaw09_Few.l0.eq_1, decide_eq_true (by rw [lenc_eq]; omega)]
        simp only [if_true, at_ok hx, Option.bind_eq_bind, Option.bind_some]
        split
        · left; exact ⟨_, rfl⟩
        · rw [w64 (by omega) (by omega)]
          exact ih (i + 1) (by omega)
    rcases key l.length 0 (by omega) with ⟨b, e⟩ | e
    · exact ⟨b, by rw [show ((0 : Nat) : Int) = 0 from rfl] at e; simp [e]⟩
    · exact ⟨true, by rw [show ((0 : Nat) : Int) = 0 from rfl] at e; simp [e]⟩
/-- 'AgentRestarts' answers true, whatever comes in. -/
theorem agentRestarts_pure (s : Switch) (m : Msg) (hl : s.L.length ≤ maxLen) : wayfinderlaw17_AgentRestarts s m = some ⟨true⟩ := by
  obtain ⟨few, hf⟩ := few_ok s.L hl
  unfold wayfinderlaw17_AgentRestarts
  simp only [awake_ok, hf, Option.bind_eq_bind, Option.bind_some]
  cases hc : (((((!true) || (!few)) || (decide (s.Epoch < 1))) || (decide (s.Epoch > 1000))) || (decide (s.Junk > 1099511627776))) with
  | true => rfl
  | false =>
    simp only [Bool.or_eq_false_iff, decide_eq_false_iff_not] at hc
    obtain ⟨⟨⟨_, c1⟩, c2⟩, c3⟩ := hc
    have hE : 1 ≤ s.Epoch ∧ s.Epoch ≤ 1000 := by omega
    have hmn : mn s.Epoch 1048575 = s.Epoch := by unfold mn; rw [if_neg (by omega)]
    have hr : agent_Restart s = some ⟨s.Epoch + 1, 0, false, 0, 0, s.Junk⟩ := by
      unfold agent_Restart
      rw [hmn, w64 (by omega) (by omega)]
    have hr2 : agent_Restart (Switch.mk (s.Epoch + 1) 0 false 0 0 [] s.Junk) = some ⟨s.Epoch + 2, 0, false, 0, 0, s.Junk⟩ := by
      unfold agent_Restart
      have : mn (s.Epoch + 1) 1048575 = s.Epoch + 1 := by unfold mn; rw [if_neg (by omega)]
      simp only [this]
      rw [w64 (by omega) (by omega)]
      congr 2
      omega
    have w1 : IntKind.i64.wrap (s.Epoch + 1) = s.Epoch + 1 := w64 (by omega) (by omega)
    have w2 : IntKind.i64.wrap (s.Epoch + 2) = s.Epoch + 2 := w64 (by omega) (by omega)
    have n1 : (s.Epoch + 1 != s.Epoch + 1) = false := by simp
    have n2 : (s.Epoch + 2 != s.Epoch + 2) = false := by simp
    have n3 : (s.Junk != s.Junk) = false := by simp
    have h00 : ((0 : Int) != 0) = false := rfl
    have h00n : ((0 : Nat) != 0) = false := rfl
    have h10 : ((1 : Int) != 0) = true := rfl
    simp only [Bool.false_eq_true, if_false, hr, Option.bind_some, w1, w2, n1, n2, n3, h00, h00n, Bool.or_false, Bool.false_or, Bool.not_false, gd, if_true, hr2]
    cases hm : mayM (Msg.mk m.Kind s.Epoch m.Seq m.Tag m.R) with
    | false =>
      rw [seal_no hm]
      simp only [Option.bind_some, h10, if_true]
    | true =>
      obtain ⟨b, s1, s2, _, _⟩ := round hm
      rw [s1]
      simp only [Option.bind_some, h00, Bool.false_eq_true, if_false]
      rcases handle_old (x := Switch.mk (s.Epoch + 1) 0 false 0 0 [] s.Junk) (r := 40) rfl s2 (by simp only; omega) (by simp only; omega) with ⟨l, e⟩ | e
      · rw [e]
        simp only [Option.bind_some]
        rw [same_nil rfl rfl rfl rfl rfl rfl rfl rfl]
        rfl
      · rw [e]
        simp only [Option.bind_some]
        rw [same_nil rfl rfl rfl rfl rfl rfl rfl rfl]
        rfl
end Go.Proofs.YtjjmoihpjmojiaaDoor.X
