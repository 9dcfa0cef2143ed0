/- Frames: what is sealed opens. -/
import Derived.Test.YtjjmoihpjmojiaaDoorP2
set_option linter.unusedSimpArgs false
set_option linter.unusedVariables false
namespace Go.Proofs.YtjjmoihpjmojiaaDoor.X
open Go.RowKit Go.Proofs.YtjjmoihpjmojiaaDoor.D
set_option maxRecDepth 100000
/-- A frame without its checksum. -/
def bodyB (m : Msg) : List Int := if m.Kind = 2 then 197 :: 18 :: msgB m else 197 :: 9 :: (msgB m ++ [0])
def frameB (m : Msg) (c : Int) : List Int := bodyB m ++ [c / 256, c % 256]
theorem bodyB_by {m : Msg} (h : WfM m) : By (bodyB m) := by
  have hb := msgB_by h
  intro x hx
  unfold bodyB at hx
  split at hx
  · simp only [List.mem_cons] at hx
    rcases hx with rfl | rfl | hx
    · omega
    · omega
    · exact hb x hx
  · simp only [List.mem_cons, List.mem_append, List.not_mem_nil, or_false] at hx
    rcases hx with rfl | rfl | hx | rfl
    · omega
    · omega
    · exact hb x hx
    · omega
theorem bodyB_len (m : Msg) : (bodyB m).length = if m.Kind = 2 then 20 else 12 := by
  have h := msgB_len m
  unfold bodyB
  split <;> rename_i h2
  · rw [if_pos h2] at h; simp [h]
  · rw [if_neg h2] at h; simp [h]
theorem raw_pos {x : Int} {l : List Int} (h : By (x :: l)) (hx : 0 < x) : 0 < raw true (x :: l) := by
  have h1 := raw_nn false l (fun y hy => h y (List.mem_cons_of_mem _ hy))
  simp only [raw, cond_true, Bool.not_true]
  omega
theorem seal_no {m : Msg} (h : mayM m = false) : frame_Seal m = some (.o0 1) := by
  unfold frame_Seal
  rw [msg_Put_no h]
  rfl
theorem seal_ok {m : Msg} (hm : mayM m = true) : ∃ c, frame_Seal m = some (.o1 (frameB m c) 0) ∧ 0 ≤ c ∧ c < 65536 ∧ octets_Sum_1 (frameB m c) = some ⟨0⟩ := by
  have h := wfM hm
  have hlen := msgB_len m
  have hbl := bodyB_len m
  have hb := bodyB_by h
  have hpos : 0 < raw true (bodyB m) := by
    unfold bodyB at hb ⊢
    split <;> rename_i h2
    · rw [if_pos h2] at hb; exact raw_pos hb (by decide)
    · rw [if_neg h2] at hb; exact raw_pos hb (by decide)
  obtain ⟨c, e1, e2, e3, e4⟩ := sum_seal (bodyB m) hb (by rw [hbl]; split <;> omega) (by rw [hbl]; split <;> rfl) hpos
  refine ⟨c, ?_, e2, e3, e4⟩
  have h00 : ((0 : Int) != 0) = false := rfl
  have hfin : (octets_Sum (bodyB m) >>= fun q11 => match q11 with | .o0 x12 => (room 1 (bodyB m ++ ([IntKind.u8.wrap (shr_ .i64 x12 8), IntKind.u8.wrap x12] : List Int)) >>= fun x13 => some (frame_Seal.R.o1 x13 0))) = some (frame_Seal.R.o1 (frameB m c) 0) := by
    rw [e1]
    simp only [Option.bind_eq_bind, Option.bind_some, sh8]
    rw [wu8 (x := c / 256) (by omega) (by omega), IntKind.wrap_u8, room_ok (by simp [hbl]; split <;> omega)]
    rfl
  unfold frame_Seal
  rw [msg_Put_ok hm]
  simp only [Option.bind_eq_bind, Option.bind_some, h00, Bool.false_eq_true, if_false, lenc_eq] at hfin ⊢
  by_cases h2 : m.Kind = 2
  · rw [if_pos h2] at hlen
    have hbody : bodyB m = 197 :: 18 :: msgB m := by unfold bodyB; rw [if_pos h2]
    rw [hlen, room_ok (by simp [hlen])]
    have hw : IntKind.u8.wrap ((18 : Nat) : Int) = 18 := rfl
    have ht : ((((18 : Nat) : Int).tmod 2) == 1) = false := rfl
    simp only [Option.bind_some, hw, ht, Bool.false_eq_true, if_false]
    rw [hbody] at hfin
    exact hfin
  · rw [if_neg h2] at hlen
    have hbody : bodyB m = 197 :: 9 :: (msgB m ++ [0]) := by unfold bodyB; rw [if_neg h2]
    rw [hlen, room_ok (by simp [hlen])]
    have hw : IntKind.u8.wrap ((9 : Nat) : Int) = 9 := rfl
    have ht : ((((9 : Nat) : Int).tmod 2) == 1) = true := rfl
    simp only [Option.bind_some, hw, ht, if_true]
    rw [room_ok (by simp [hlen])]
    simp only [Option.bind_some]
    rw [hbody] at hfin
    exact hfin
theorem cut_mid {α : Type} (a b : α) (l t : List α) (n : Int) (hn : n = 2 + l.length) : cut_ (a :: b :: (l ++ t)) 2 n = some l := by
  subst hn
  unfold cut_
  rw [if_pos (by omega), if_pos (by omega), if_pos (by simp; omega)]
  rw [show (2 + (l.length : Int)).toNat = l.length + 2 by omega]
  simp
theorem open_ok {m : Msg} {c : Int} (hm : mayM m = true) (hs : octets_Sum_1 (frameB m c) = some ⟨0⟩) : frame_Open (frameB m c) = some ⟨m, 0⟩ := by
  have h := wfM hm
  have hlen := msgB_len m
  have hu : ∀ e, frame_unless false e = some ⟨0⟩ := fun e => rfl
  have h00 : ((0 : Int) != 0) = false := rfl
  have h6 : frame_Open_6 (frameB m c) = some ⟨0⟩ := by
    unfold frame_Open_6
    rw [hs]
    rfl
  by_cases h2 : m.Kind = 2
  · rw [if_pos h2] at hlen
    have hf : frameB m c = 197 :: 18 :: (msgB m ++ [c / 256, c % 256]) := by unfold frameB bodyB; rw [if_pos h2]; rfl
    have hl : lenc c_u8 (frameB m c) = 22 := by rw [lenc_eq, hf]; simp [hlen]
    have o2 : frame_Open_2 (frameB m c) = some ⟨0⟩ := by unfold frame_Open_2; rw [hl]; rfl
    have o3 : frame_Open_3 (frameB m c) 0 = some ⟨0, 18⟩ := by rw [hf]; rfl
    have o4 : frame_Open_4 (frameB m c) 18 = some ⟨0⟩ := by unfold frame_Open_4; rw [hl]; rfl
    have o5 : frame_Open_5 (frameB m c) 18 = some ⟨0⟩ := by unfold frame_Open_5; rw [hl]; rfl
    have o7 : frame_Open_7 (frameB m c) 18 = some ⟨0⟩ := by
      unfold frame_Open_7
      have ht : (((18 : Int).tmod 2) == 1) = false := rfl
      simp only [ht, gd, Bool.false_eq_true, if_false, Option.bind_eq_bind, Option.bind_some, Bool.false_and, hu]
    unfold frame_Open
    simp only [o2, o3, o4, o5, h6, o7, Option.bind_eq_bind, Option.bind_some, h00, Bool.false_eq_true, if_false]
    have hc : cut_ (frameB m c) 2 (IntKind.i64.wrap (2 + 18)) = some (msgB m) := by rw [hf]; exact cut_mid _ _ _ _ _ (by rw [hlen]; rfl)
    rw [hc]
    simp only [Option.bind_some, msg_Get_ok hm]
  · rw [if_neg h2] at hlen
    have hf : frameB m c = 197 :: 9 :: (msgB m ++ (0 :: [c / 256, c % 256])) := by unfold frameB bodyB; rw [if_neg h2]; simp
    have hl : lenc c_u8 (frameB m c) = 14 := by rw [lenc_eq, hf]; simp [hlen]
    have o2 : frame_Open_2 (frameB m c) = some ⟨0⟩ := by unfold frame_Open_2; rw [hl]; rfl
    have o3 : frame_Open_3 (frameB m c) 0 = some ⟨0, 9⟩ := by rw [hf]; rfl
    have o4 : frame_Open_4 (frameB m c) 9 = some ⟨0⟩ := by unfold frame_Open_4; rw [hl]; rfl
    have o5 : frame_Open_5 (frameB m c) 9 = some ⟨0⟩ := by unfold frame_Open_5; rw [hl]; rfl
    have o7 : frame_Open_7 (frameB m c) 9 = some ⟨0⟩ := by
      unfold frame_Open_7
      have ht : (((9 : Int).tmod 2) == 1) = true := rfl
      have ha : at_ (frameB m c) (IntKind.i64.wrap (2 + 9)) = some 0 := by
        refine at_ok (i := 11) ?_
        rw [hf]
        simp only [List.getElem?_cons_succ]
        rw [List.getElem?_append_right (by omega), hlen]
        rfl
      simp only [ht, gd, if_true, ha, Option.bind_eq_bind, Option.bind_some, Bool.true_and, h00, hu]
    unfold frame_Open
    simp only [o2, o3, o4, o5, h6, o7, Option.bind_eq_bind, Option.bind_some, h00, Bool.false_eq_true, if_false]
    have hc : cut_ (frameB m c) 2 (IntKind.i64.wrap (2 + 9)) = some (msgB m) := by rw [hf]; exact cut_mid _ _ _ _ _ (by rw [hlen]; rfl)
    rw [hc]
    simp only [Option.bind_some, msg_Get_ok hm]
/-- What is sealed opens as what it was. -/
theorem round {m : Msg} (hm : mayM m = true) : ∃ b, frame_Seal m = some (.o1 b 0) ∧ frame_Open b = some ⟨m, 0⟩ ∧ b.length ≤ 22 ∧ 0 < b.length := by
  obtain ⟨c, e1, e2, e3, e4⟩ := seal_ok hm
  refine ⟨_, e1, open_ok hm e4, ?_, ?_⟩
  · unfold frameB; simp [bodyB_len]; split <;> omega
  · unfold frameB; simp
end Go.Proofs.YtjjmoihpjmojiaaDoor.X
