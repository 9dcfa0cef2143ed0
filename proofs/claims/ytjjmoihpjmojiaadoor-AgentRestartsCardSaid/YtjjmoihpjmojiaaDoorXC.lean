/- Functions of the program beside their code, part 3: each one as a plain function, and that the code does as it says. -/
import Derived.Test.YtjjmoihpjmojiaaDoorXB
set_option maxHeartbeats 16000000
set_option linter.unusedVariables false
set_option linter.unusedSimpArgs false
namespace Go.Proofs.YtjjmoihpjmojiaaDoor.X
open Go.RowKit Go.Proofs.YtjjmoihpjmojiaaDoor.D
/-! ### wayfinder/wayfinderlaw17.AgentRestarts -/
structure wayfinderlaw17_AgentRestarts.R where
  o0 ::
  y0 : Bool
  deriving Inhabited
def wayfinderlaw17_AgentRestarts.rd (p0 : Switch) (p1 : Msg) (r : wayfinderlaw17_AgentRestarts.R) : DV := bo r.y0
def wayfinderlaw17_AgentRestarts.rh (p0 : Switch) (p1 : Msg) (r : wayfinderlaw17_AgentRestarts.R) : Hp := []
def wayfinderlaw17_AgentRestarts (p0 : Switch) (p1 : Msg) : Option wayfinderlaw17_AgentRestarts.R := (wayfinderlaw17_awake >>= fun q1 => match q1 with | .o0 x2 => (wayfinderlaw09_Few p0.L >>= fun q3 => match q3 with | .o0 x4 => (if (((((!x2) || (!x4)) || (decide (p0.Epoch < 1))) || (decide (p0.Epoch > 1000))) || (decide (p0.Junk > 1099511627776))) then some (wayfinderlaw17_AgentRestarts.R.o0 x2) else (agent_Restart p0 >>= fun q5 => match q5 with | .o0 x6 x7 x8 x9 x10 x11 => (frame_Seal (Msg.mk p1.Kind p0.Epoch p1.Seq p1.Tag p1.R) >>= fun q12 => match q12 with | .o0 x13 => (gd (!(((((((x6 != (IntKind.i64.wrap (p0.Epoch + 1))) || x8) || (x7 != 0)) || (x9 != 0)) || (x10 != 0)) || false) || (x11 != p0.Junk))) (agent_Restart (Switch.mk x6 x7 x8 x9 x10 [] x11)) default >>= fun x14 => (if ((((((((x6 != (IntKind.i64.wrap (p0.Epoch + 1))) || x8) || (x7 != 0)) || (x9 != 0)) || (x10 != 0)) || false) || (x11 != p0.Junk)) || (x14.y0 != (IntKind.i64.wrap (p0.Epoch + 2)))) then some (wayfinderlaw17_AgentRestarts.R.o0 false) else (if (x13 != 0) then some (wayfinderlaw17_AgentRestarts.R.o0 true) else (agent_Handle (Switch.mk x6 x7 x8 x9 x10 [] x11) [] 40 >>= fun q15 => match q15 with | .o0 x16 => (wayfinderref17_Same (Switch.mk x6 x7 x8 x9 x10 [] x11) (Switch.mk x16.Epoch x16.Seen x16.Open x16.Stamp x16.Bad x16.L x11) >>= fun q17 => match q17 with | .o0 x18 => some (wayfinderlaw17_AgentRestarts.R.o0 x18)) | .o1 x19 x20 => (wayfinderref17_Same (Switch.mk x6 x7 x8 x9 x10 [] x11) (Switch.mk x19.Epoch x19.Seen x19.Open x19.Stamp x19.Bad x19.L x11) >>= fun q21 => match q21 with | .o0 x22 => some (wayfinderlaw17_AgentRestarts.R.o0 x22)) | .o2 x23 x24 x25 x26 x27 x28 x29 x30 => (wayfinderref17_Same (Switch.mk x6 x7 x8 x9 x10 [] x11) (Switch.mk x23 x24 x25 x26 x27 x30 x11) >>= fun q31 => match q31 with | .o0 x32 => some (wayfinderlaw17_AgentRestarts.R.o0 x32)))))) | .o1 x33 x34 => (gd (!(((((((x6 != (IntKind.i64.wrap (p0.Epoch + 1))) || x8) || (x7 != 0)) || (x9 != 0)) || (x10 != 0)) || false) || (x11 != p0.Junk))) (agent_Restart (Switch.mk x6 x7 x8 x9 x10 [] x11)) default >>= fun x35 => (if ((((((((x6 != (IntKind.i64.wrap (p0.Epoch + 1))) || x8) || (x7 != 0)) || (x9 != 0)) || (x10 != 0)) || false) || (x11 != p0.Junk)) || (x35.y0 != (IntKind.i64.wrap (p0.Epoch + 2)))) then some (wayfinderlaw17_AgentRestarts.R.o0 false) else (if (x34 != 0) then some (wayfinderlaw17_AgentRestarts.R.o0 true) else (agent_Handle (Switch.mk x6 x7 x8 x9 x10 [] x11) x33 40 >>= fun q36 => match q36 with | .o0 x37 => (wayfinderref17_Same (Switch.mk x6 x7 x8 x9 x10 [] x11) (Switch.mk x37.Epoch x37.Seen x37.Open x37.Stamp x37.Bad x37.L x11) >>= fun q38 => match q38 with | .o0 x39 => some (wayfinderlaw17_AgentRestarts.R.o0 x39)) | .o1 x40 x41 => (wayfinderref17_Same (Switch.mk x6 x7 x8 x9 x10 [] x11) (Switch.mk x40.Epoch x40.Seen x40.Open x40.Stamp x40.Bad x40.L x11) >>= fun q42 => match q42 with | .o0 x43 => some (wayfinderlaw17_AgentRestarts.R.o0 x43)) | .o2 x44 x45 x46 x47 x48 x49 x50 x51 => (wayfinderref17_Same (Switch.mk x6 x7 x8 x9 x10 [] x11) (Switch.mk x44 x45 x46 x47 x48 x51 x11) >>= fun q52 => match q52 with | .o0 x53 => some (wayfinderlaw17_AgentRestarts.R.o0 x53)))))))))))
theorem fn3 : Go.Proofs.YtjjmoihpjmojiaaDoor.D.Fn Tryd.prog 3 := ⟨Tryd.f3, Tryd.func3, by kernel_rfl, rfl⟩
set_option maxRecDepth 100000 in
theorem wayfinderlaw17_AgentRestarts.ok (p0 : Switch) (p1 : Msg) (r : wayfinderlaw17_AgentRestarts.R) (hH : wayfinderlaw17_AgentRestarts p0 p1 = some r) : Con Tryd.prog 3 [.agg [i64 p0.Epoch, i64 p0.Seen, bo p0.Open, i64 p0.Stamp, i64 p0.Bad, .sl (p0.L.map c_Ver), i64 p0.Junk], .agg [i64 p1.Kind, i64 p1.Epoch, i64 p1.Seq, i64 p1.Tag, i64 p1.R.P.Addr, i64 p1.R.P.Len, i64 p1.R.In, i64 p1.R.Prio, i64 p1.R.Act.Kind, i64 p1.R.Act.Port]] [] (wayfinderlaw17_AgentRestarts.rd p0 p1 r) (wayfinderlaw17_AgentRestarts.rh p0 p1 r) := by
  refine con_of Tryd.f3 111 (c := _) Tryd.func3 rfl rfl rfl ?_
  intro w a ν X h
  unfold wayfinderlaw17_AgentRestarts at hH
  refine k_reg ?_
  refine s_new h (wanted_none rfl) rfl rfl (e_box (r := 1101) (g := none) h.f h.o rfl trivial rfl rfl) ?_
  intro a w ν h
  refine s_new h (wanted_none rfl) rfl rfl (e_box (r := 1102) (g := none) h.f h.o rfl trivial rfl rfl) ?_
  intro a w ν h
  refine pures [0] hτ h rfl ?_
  intro a h
  refine k_end ?_
  refine k_reg ?_
  obtain ⟨q1, hq1, hH⟩ := bnd hH
  obtain ⟨x2⟩ := q1
  refine s_call1 fn11 (wayfinderlaw17_awake.ok _ hq1) [] h (wanted_none rfl) rfl rfl rfl rfl rfl ?_
  intro a w ν h
  refine pures [0] hτ h rfl ?_
  intro a h
  refine k_end ?_
  refine k_reg ?_
  refine pures [0, 0] hτ h rfl ?_
  intro a h
  obtain ⟨q3, hq3, hH⟩ := bnd hH
  obtain ⟨x4⟩ := q3
  refine s_call1 fn12 (wayfinderlaw09_Few.ok p0.L _ hq3) [] h (wanted_none rfl) rfl rfl rfl rfl rfl ?_
  intro a w ν h
  refine pures [0] hτ h rfl ?_
  intro a h
  refine k_end ?_
  refine k_seq ?_
  refine k_reg ?_
  refine pures [0, 0, 0, 1, 1, 0, 0, 1, 1, 1, 0, 0, 1, 1, 1, 0, 0, 1, 1, 1, 0] hτ h rfl ?_
  intro a h
  refine k_end ?_
  refine k_ifH hH h rfl (fun hb hH => ?_) (fun hb hH => ?_)
  · refine k_reg ?_
    refine pures [0, 0] hτ h rfl ?_
    intro a h
    refine k_end ?_
    refine wp_ret ?_
    cases hH
    exact r_ret hτ [] h rfl rfl rfl
  · refine k_skip ?_
    refine t_then ?_
    refine k_reg ?_
    refine pures [0] hτ h rfl ?_
    intro a h
    obtain ⟨q5, hq5, hH⟩ := bnd hH
    obtain ⟨x6, x7, x8, x9, x10, x11⟩ := q5
    refine s_call1 fn13 (agent_Restart.ok p0 _ hq5) [] h (wanted_none rfl) rfl rfl rfl rfl rfl ?_
    intro a w ν h
    refine s_new h (wanted_none rfl) rfl rfl (e_alloc (r := 1103) hτ h.o rfl rfl) ?_
    intro a w ν h
    refine s_store hτ h (wanted_none rfl) rfl rfl rfl rfl rfl ?_
    intro a w ν h
    refine k_end ?_
    refine k_reg ?_
    refine pures [0, 0, 0] hτ h rfl ?_
    intro a h
    refine s_store hτ h (wanted_none rfl) rfl rfl rfl rfl rfl ?_
    intro a w ν h
    refine k_end ?_
    refine k_reg ?_
    refine pures [0] hτ h rfl ?_
    intro a h
    obtain ⟨q12, hq12, hH⟩ := bnd hH
    cases q12 with
    | o0 x13 =>
      refine s_call1 fn14 (frame_Seal.ok (Msg.mk p1.Kind p0.Epoch p1.Seq p1.Tag p1.R) _ hq12) [] h (wanted_none rfl) rfl rfl rfl rfl rfl ?_
      intro a w ν h
      refine pures [0, 0, 0, 0, 0] hτ h rfl ?_
      intro a h
      refine k_end ?_
      refine k_seq ?_
      refine k_seq ?_
      refine k_any mixed h ?_
      intro w ν h
      have h : St _ [(2, none, .ptr 1101 0), (7, none, .ptr 1103 0), (8, none, .v (.slice none 0 0)), (9, none, i64 x13)] [(1103, .blk 24 [i64 x6, i64 x7, bo x8, i64 x9, i64 x10, .v (.slice none 0 0), i64 x11]), (1101, .blk 24 [i64 p0.Epoch, i64 p0.Seen, bo p0.Open, i64 p0.Stamp, i64 p0.Bad, .sl (p0.L.map c_Ver), i64 p0.Junk])] _ w a ν := h.pickG [2, 7, 8, 9] [1103, 1101] (by kernel_rfl) (by kernel_rfl) (by kernel_rfl)
      refine mid_any (fs := [⟨some (49, none, .ptr 1103 0), [], []⟩, ⟨some (50, none, i64 x6), [], []⟩, ⟨some (51, none, .ptr 1101 0), [], []⟩, ⟨some (52, none, i64 p0.Epoch), [], []⟩, ⟨some (53, none, i64 (IntKind.i64.wrap (p0.Epoch + 1))), [], []⟩, ⟨some (54, none, bo (x6 != (IntKind.i64.wrap (p0.Epoch + 1)))), [], []⟩, ⟨some (55, none, bo (x6 != (IntKind.i64.wrap (p0.Epoch + 1)))), [], []⟩, ⟨some (56, (some (55, false)), .ptr 1103 2), [], []⟩, ⟨some (57, (some (55, false)), bo x8), [], []⟩, ⟨some (58, none, bo ((x6 != (IntKind.i64.wrap (p0.Epoch + 1))) || x8)), [], []⟩, ⟨some (59, none, bo ((x6 != (IntKind.i64.wrap (p0.Epoch + 1))) || x8)), [], []⟩, ⟨some (60, (some (59, false)), .ptr 1103 1), [], []⟩]) 0 [([], []), ([0], [1103]), ([], []), ([2], [1101]), ([3, 2], []), ([1, 4, 0, 2, 3], []), ([5, 0, 1, 2, 3, 4], []), ([6], []), ([7, 6], [1103]), ([6, 8, 0, 1, 2, 3, 4, 5, 7], []), ([9, 0, 1, 2, 3, 4, 5, 6, 7, 8], []), ([10, 0, 1, 2, 3, 4, 5, 6, 7, 8, 9], [])] (by kernel_rfl) h (by kernel_rfl) ⟨ok_plain rfl (p_pure hτ (by kernel_rfl)), ok_plain rfl (p_pure hτ (by kernel_rfl)), ok_plain rfl (p_pure hτ (by kernel_rfl)), ok_plain rfl (p_pure hτ (by kernel_rfl)), ok_plain rfl (p_pure hτ (by kernel_rfl)), ok_plain rfl (p_pure hτ (by kernel_rfl)), ok_plain rfl (p_pure hτ (by kernel_rfl)), ok_gd (b := (x6 != (IntKind.i64.wrap (p0.Epoch + 1)))) rfl (by kernel_rfl) (by kernel_rfl) (fun hbu => p_pure hτ (by kernel_rfl)), ok_gd (b := (x6 != (IntKind.i64.wrap (p0.Epoch + 1)))) rfl (by kernel_rfl) (by kernel_rfl) (fun hbu => p_pure hτ (by kernel_rfl)), ok_plain rfl (p_pure hτ (by kernel_rfl)), ok_plain rfl (p_pure hτ (by kernel_rfl)), ok_gd (b := ((x6 != (IntKind.i64.wrap (p0.Epoch + 1))) || x8)) rfl (by kernel_rfl) (by kernel_rfl) (fun hbu => p_pure hτ (by kernel_rfl)), trivial⟩ ?_
      intro a w ν h
      have h : St _ [(2, none, .ptr 1101 0), (7, none, .ptr 1103 0), (8, none, .v (.slice none 0 0)), (9, none, i64 x13), (59, none, bo ((x6 != (IntKind.i64.wrap (p0.Epoch + 1))) || x8)), (60, some (59, false), .ptr 1103 1)] [(1103, .blk 24 [i64 x6, i64 x7, bo x8, i64 x9, i64 x10, .v (.slice none 0 0), i64 x11]), (1101, .blk 24 [i64 p0.Epoch, i64 p0.Seen, bo p0.Open, i64 p0.Stamp, i64 p0.Bad, .sl (p0.L.map c_Ver), i64 p0.Junk])] _ w a ν := h.pickG [2, 7, 8, 9, 59, 60] [1103, 1101] (by kernel_rfl) (by kernel_rfl) (by kernel_rfl)
      refine mid_any (fs := [⟨some (61, (some (59, false)), i64 x7), [], []⟩, ⟨some (62, (some (59, false)), bo (x7 != 0)), [], []⟩, ⟨some (63, none, bo (((x6 != (IntKind.i64.wrap (p0.Epoch + 1))) || x8) || (x7 != 0))), [], []⟩, ⟨some (64, none, bo (((x6 != (IntKind.i64.wrap (p0.Epoch + 1))) || x8) || (x7 != 0))), [], []⟩, ⟨some (65, (some (64, false)), .ptr 1103 3), [], []⟩, ⟨some (66, (some (64, false)), i64 x9), [], []⟩, ⟨some (67, (some (64, false)), bo (x9 != 0)), [], []⟩, ⟨some (68, none, bo ((((x6 != (IntKind.i64.wrap (p0.Epoch + 1))) || x8) || (x7 != 0)) || (x9 != 0))), [], []⟩, ⟨some (69, none, bo ((((x6 != (IntKind.i64.wrap (p0.Epoch + 1))) || x8) || (x7 != 0)) || (x9 != 0))), [], []⟩, ⟨some (70, (some (69, false)), .ptr 1103 4), [], []⟩, ⟨some (71, (some (69, false)), i64 x10), [], []⟩, ⟨some (72, (some (69, false)), bo (x10 != 0)), [], []⟩]) 12 [([], [1103]), ([12], []), ([13, 12], []), ([14, 12, 13], []), ([15], []), ([16, 15], [1103]), ([17, 15, 16], []), ([15, 18, 12, 13, 14, 16, 17], []), ([19, 12, 13, 14, 15, 16, 17, 18], []), ([20], []), ([21, 20], [1103]), ([22, 20, 21], [])] (by kernel_rfl) h (by kernel_rfl) ⟨ok_gd (b := ((x6 != (IntKind.i64.wrap (p0.Epoch + 1))) || x8)) rfl (by kernel_rfl) (by kernel_rfl) (fun hbu => p_pure hτ (by kernel_rfl)), ok_gd (b := ((x6 != (IntKind.i64.wrap (p0.Epoch + 1))) || x8)) rfl (by kernel_rfl) (by kernel_rfl) (fun hbu => p_pure hτ (by kernel_rfl)), ok_plain rfl (p_pure hτ (by kernel_rfl)), ok_plain rfl (p_pure hτ (by kernel_rfl)), ok_gd (b := (((x6 != (IntKind.i64.wrap (p0.Epoch + 1))) || x8) || (x7 != 0))) rfl (by kernel_rfl) (by kernel_rfl) (fun hbu => p_pure hτ (by kernel_rfl)), ok_gd (b := (((x6 != (IntKind.i64.wrap (p0.Epoch + 1))) || x8) || (x7 != 0))) rfl (by kernel_rfl) (by kernel_rfl) (fun hbu => p_pure hτ (by kernel_rfl)), ok_gd (b := (((x6 != (IntKind.i64.wrap (p0.Epoch + 1))) || x8) || (x7 != 0))) rfl (by kernel_rfl) (by kernel_rfl) (fun hbu => p_pure hτ (by kernel_rfl)), ok_plain rfl (p_pure hτ (by kernel_rfl)), ok_plain rfl (p_pure hτ (by kernel_rfl)), ok_gd (b := ((((x6 != (IntKind.i64.wrap (p0.Epoch + 1))) || x8) || (x7 != 0)) || (x9 != 0))) rfl (by kernel_rfl) (by kernel_rfl) (fun hbu => p_pure hτ (by kernel_rfl)), ok_gd (b := ((((x6 != (IntKind.i64.wrap (p0.Epoch + 1))) || x8) || (x7 != 0)) || (x9 != 0))) rfl (by kernel_rfl) (by kernel_rfl) (fun hbu => p_pure hτ (by kernel_rfl)), ok_gd (b := ((((x6 != (IntKind.i64.wrap (p0.Epoch + 1))) || x8) || (x7 != 0)) || (x9 != 0))) rfl (by kernel_rfl) (by kernel_rfl) (fun hbu => p_pure hτ (by kernel_rfl)), trivial⟩ ?_
      intro a w ν h
      have h : St _ [(2, none, .ptr 1101 0), (7, none, .ptr 1103 0), (8, none, .v (.slice none 0 0)), (9, none, i64 x13), (69, none, bo ((((x6 != (IntKind.i64.wrap (p0.Epoch + 1))) || x8) || (x7 != 0)) || (x9 != 0))), (72, some (69, false), bo (x10 != 0))] [(1103, .blk 24 [i64 x6, i64 x7, bo x8, i64 x9, i64 x10, .v (.slice none 0 0), i64 x11]), (1101, .blk 24 [i64 p0.Epoch, i64 p0.Seen, bo p0.Open, i64 p0.Stamp, i64 p0.Bad, .sl (p0.L.map c_Ver), i64 p0.Junk])] _ w a ν := h.pickG [2, 7, 8, 9, 69, 72] [1103, 1101] (by kernel_rfl) (by kernel_rfl) (by kernel_rfl)
      refine mid_any (fs := [⟨some (73, none, bo (((((x6 != (IntKind.i64.wrap (p0.Epoch + 1))) || x8) || (x7 != 0)) || (x9 != 0)) || (x10 != 0))), [], []⟩, ⟨some (74, none, bo (((((x6 != (IntKind.i64.wrap (p0.Epoch + 1))) || x8) || (x7 != 0)) || (x9 != 0)) || (x10 != 0))), [], []⟩, ⟨some (75, (some (74, false)), .ptr 1103 5), [], []⟩, ⟨some (76, (some (74, false)), .v (.slice none 0 0)), [], []⟩, ⟨some (77, (some (74, false)), i64 0), [], []⟩, ⟨some (78, (some (74, false)), bo false), [], []⟩, ⟨some (79, none, bo ((((((x6 != (IntKind.i64.wrap (p0.Epoch + 1))) || x8) || (x7 != 0)) || (x9 != 0)) || (x10 != 0)) || false)), [], []⟩, ⟨some (80, none, bo ((((((x6 != (IntKind.i64.wrap (p0.Epoch + 1))) || x8) || (x7 != 0)) || (x9 != 0)) || (x10 != 0)) || false)), [], []⟩, ⟨some (81, (some (80, false)), .ptr 1103 6), [], []⟩, ⟨some (82, (some (80, false)), i64 x11), [], []⟩, ⟨some (83, (some (80, false)), .ptr 1101 6), [], []⟩, ⟨some (84, (some (80, false)), i64 p0.Junk), [], []⟩]) 24 [([], []), ([24], []), ([25], []), ([26, 25], [1103]), ([27, 25, 26], []), ([28, 25, 26, 27], []), ([25, 29, 24, 26, 27, 28], []), ([30, 24, 25, 26, 27, 28, 29], []), ([31, 24, 25, 26, 27, 28, 29, 30], []), ([32, 31, 24, 25, 26, 27, 28, 29, 30], [1103]), ([31], []), ([34, 31], [1101])] (by kernel_rfl) h (by kernel_rfl) ⟨ok_plain rfl (p_pure hτ (by kernel_rfl)), ok_plain rfl (p_pure hτ (by kernel_rfl)), ok_gd (b := (((((x6 != (IntKind.i64.wrap (p0.Epoch + 1))) || x8) || (x7 != 0)) || (x9 != 0)) || (x10 != 0))) rfl (by kernel_rfl) (by kernel_rfl) (fun hbu => p_pure hτ (by kernel_rfl)), ok_gd (b := (((((x6 != (IntKind.i64.wrap (p0.Epoch + 1))) || x8) || (x7 != 0)) || (x9 != 0)) || (x10 != 0))) rfl (by kernel_rfl) (by kernel_rfl) (fun hbu => p_pure hτ (by kernel_rfl)), ok_gd (b := (((((x6 != (IntKind.i64.wrap (p0.Epoch + 1))) || x8) || (x7 != 0)) || (x9 != 0)) || (x10 != 0))) rfl (by kernel_rfl) (by kernel_rfl) (fun hbu => p_pure hτ (by kernel_rfl)), ok_gd (b := (((((x6 != (IntKind.i64.wrap (p0.Epoch + 1))) || x8) || (x7 != 0)) || (x9 != 0)) || (x10 != 0))) rfl (by kernel_rfl) (by kernel_rfl) (fun hbu => p_pure hτ (by kernel_rfl)), ok_plain rfl (p_pure hτ (by kernel_rfl)), ok_plain rfl (p_pure hτ (by kernel_rfl)), ok_gd (b := ((((((x6 != (IntKind.i64.wrap (p0.Epoch + 1))) || x8) || (x7 != 0)) || (x9 != 0)) || (x10 != 0)) || false)) rfl (by kernel_rfl) (by kernel_rfl) (fun hbu => p_pure hτ (by kernel_rfl)), ok_gd (b := ((((((x6 != (IntKind.i64.wrap (p0.Epoch + 1))) || x8) || (x7 != 0)) || (x9 != 0)) || (x10 != 0)) || false)) rfl (by kernel_rfl) (by kernel_rfl) (fun hbu => p_pure hτ (by kernel_rfl)), ok_gd (b := ((((((x6 != (IntKind.i64.wrap (p0.Epoch + 1))) || x8) || (x7 != 0)) || (x9 != 0)) || (x10 != 0)) || false)) rfl (by kernel_rfl) (by kernel_rfl) (fun hbu => p_pure hτ (by kernel_rfl)), ok_gd (b := ((((((x6 != (IntKind.i64.wrap (p0.Epoch + 1))) || x8) || (x7 != 0)) || (x9 != 0)) || (x10 != 0)) || false)) rfl (by kernel_rfl) (by kernel_rfl) (fun hbu => p_pure hτ (by kernel_rfl)), trivial⟩ ?_
      intro a w ν h
      obtain ⟨x14, hx14, hH⟩ := bnd hH
      have h : St _ [(2, none, .ptr 1101 0), (7, none, .ptr 1103 0), (8, none, .v (.slice none 0 0)), (9, none, i64 x13), (80, none, bo ((((((x6 != (IntKind.i64.wrap (p0.Epoch + 1))) || x8) || (x7 != 0)) || (x9 != 0)) || (x10 != 0)) || false)), (82, some (80, false), i64 x11), (84, some (80, false), i64 p0.Junk)] [(1103, .blk 24 [i64 x6, i64 x7, bo x8, i64 x9, i64 x10, .v (.slice none 0 0), i64 x11]), (1101, .blk 24 [i64 p0.Epoch, i64 p0.Seen, bo p0.Open, i64 p0.Stamp, i64 p0.Bad, .sl (p0.L.map c_Ver), i64 p0.Junk])] _ w a ν := h.pickG [2, 7, 8, 9, 80, 82, 84] [1103, 1101] (by kernel_rfl) (by kernel_rfl) (by kernel_rfl)
      refine mid_any (fs := [⟨some (85, (some (80, false)), bo (x11 != p0.Junk)), [], []⟩, ⟨some (86, none, bo (((((((x6 != (IntKind.i64.wrap (p0.Epoch + 1))) || x8) || (x7 != 0)) || (x9 != 0)) || (x10 != 0)) || false) || (x11 != p0.Junk))), [], []⟩, ⟨some (87, none, bo (((((((x6 != (IntKind.i64.wrap (p0.Epoch + 1))) || x8) || (x7 != 0)) || (x9 != 0)) || (x10 != 0)) || false) || (x11 != p0.Junk))), [], []⟩, ⟨some (88, (some (87, false)), .agg [i64 x6, i64 x7, bo x8, i64 x9, i64 x10, .v (.slice none 0 0), i64 x11]), [], []⟩, ⟨some (89, (some (87, false)), .agg [i64 x14.y0, i64 x14.y1, bo x14.y2, i64 x14.y3, i64 x14.y4, .v (.slice none 0 0), i64 x14.y5]), [], []⟩, ⟨some (90, (some (87, false)), i64 x14.y0), [], []⟩, ⟨some (91, (some (87, false)), .ptr 1101 0), [], []⟩, ⟨some (92, (some (87, false)), i64 p0.Epoch), [], []⟩, ⟨some (93, (some (87, false)), i64 (IntKind.i64.wrap (p0.Epoch + 2))), [], []⟩]) 36 [([], []), ([36], []), ([37, 36], []), ([38, 36, 37], [1103]), ([39, 38, 38, 36, 37], []), ([40, 38, 36, 37, 39], []), ([38], []), ([42, 38], [1101]), ([43, 38, 42], [])] (by kernel_rfl) h (by kernel_rfl) ⟨ok_gd (b := ((((((x6 != (IntKind.i64.wrap (p0.Epoch + 1))) || x8) || (x7 != 0)) || (x9 != 0)) || (x10 != 0)) || false)) rfl (by kernel_rfl) (by kernel_rfl) (fun hbu => p_pure hτ (by kernel_rfl)), ok_plain rfl (p_pure hτ (by kernel_rfl)), ok_plain rfl (p_pure hτ (by kernel_rfl)), ok_gd (b := (((((((x6 != (IntKind.i64.wrap (p0.Epoch + 1))) || x8) || (x7 != 0)) || (x9 != 0)) || (x10 != 0)) || false) || (x11 != p0.Junk))) rfl (by kernel_rfl) (by kernel_rfl) (fun hbu => p_pure hτ (by kernel_rfl)), ok_gd (b := (((((((x6 != (IntKind.i64.wrap (p0.Epoch + 1))) || x8) || (x7 != 0)) || (x9 != 0)) || (x10 != 0)) || false) || (x11 != p0.Junk))) rfl (by kernel_rfl) (by kernel_rfl) (fun hbu => p_call1 (ds0 := [.agg [i64 x6, i64 x7, bo x8, i64 x9, i64 x10, .v (.slice none 0 0), i64 x11]]) fn13 (agent_Restart.ok (Switch.mk x6 x7 x8 x9 x10 [] x11) _ ((of_gd hx14).1 (by first | exact hbu | exact nt_ hbu))) [true] (by kernel_rfl) (by kernel_rfl) (by kernel_rfl)), ok_gd (b := (((((((x6 != (IntKind.i64.wrap (p0.Epoch + 1))) || x8) || (x7 != 0)) || (x9 != 0)) || (x10 != 0)) || false) || (x11 != p0.Junk))) rfl (by kernel_rfl) (by kernel_rfl) (fun hbu => p_pure hτ (by kernel_rfl)), ok_gd (b := (((((((x6 != (IntKind.i64.wrap (p0.Epoch + 1))) || x8) || (x7 != 0)) || (x9 != 0)) || (x10 != 0)) || false) || (x11 != p0.Junk))) rfl (by kernel_rfl) (by kernel_rfl) (fun hbu => p_pure hτ (by kernel_rfl)), ok_gd (b := (((((((x6 != (IntKind.i64.wrap (p0.Epoch + 1))) || x8) || (x7 != 0)) || (x9 != 0)) || (x10 != 0)) || false) || (x11 != p0.Junk))) rfl (by kernel_rfl) (by kernel_rfl) (fun hbu => p_pure hτ (by kernel_rfl)), ok_gd (b := (((((((x6 != (IntKind.i64.wrap (p0.Epoch + 1))) || x8) || (x7 != 0)) || (x9 != 0)) || (x10 != 0)) || false) || (x11 != p0.Junk))) rfl (by kernel_rfl) (by kernel_rfl) (fun hbu => p_pure hτ (by kernel_rfl)), trivial⟩ ?_
      intro a w ν h
      have h : St _ [(7, none, .ptr 1103 0), (8, none, .v (.slice none 0 0)), (9, none, i64 x13), (87, none, bo (((((((x6 != (IntKind.i64.wrap (p0.Epoch + 1))) || x8) || (x7 != 0)) || (x9 != 0)) || (x10 != 0)) || false) || (x11 != p0.Junk))), (90, some (87, false), i64 x14.y0), (93, some (87, false), i64 (IntKind.i64.wrap (p0.Epoch + 2)))] [(1103, .blk 24 [i64 x6, i64 x7, bo x8, i64 x9, i64 x10, .v (.slice none 0 0), i64 x11]), (1101, .blk 24 [i64 p0.Epoch, i64 p0.Seen, bo p0.Open, i64 p0.Stamp, i64 p0.Bad, .sl (p0.L.map c_Ver), i64 p0.Junk])] _ w a ν := h.pickG [7, 8, 9, 87, 90, 93] [1103, 1101] (by kernel_rfl) (by kernel_rfl) (by kernel_rfl)
      refine mid_list 45 (by kernel_rfl) (by kernel_rfl) ?_
      refine pures [1, 0] hτ h rfl ?_
      intro a h
      refine k_end1 ?_
      refine t_then ?_
      refine k_ifH hH h rfl (fun hb hH => ?_) (fun hb hH => ?_)
      · refine k_reg ?_
        refine pures [0] hτ h rfl ?_
        intro a h
        refine k_end ?_
        refine wp_ret ?_
        cases hH
        exact r_ret hτ [] h rfl rfl rfl
      · refine k_skip ?_
        refine t_then ?_
        refine k_seq ?_
        refine k_reg ?_
        refine pures [0, 0] hτ h rfl ?_
        intro a h
        refine k_end ?_
        refine k_ifH hH h rfl (fun hb hH => ?_) (fun hb hH => ?_)
        · refine k_reg ?_
          refine pures [0] hτ h rfl ?_
          intro a h
          refine k_end ?_
          refine wp_ret ?_
          cases hH
          exact r_ret hτ [] h rfl rfl rfl
        · refine k_skip ?_
          refine t_then ?_
          refine k_reg ?_
          refine pures [0, 0] hτ h rfl ?_
          intro a h
          obtain ⟨q15, hq15, hH⟩ := bnd hH
          cases q15 with
          | o0 x16 =>
            refine s_call1 fn15 (agent_Handle.ok (Switch.mk x6 x7 x8 x9 x10 [] x11) [] 40 _ hq15) [true, true] h (wanted_none rfl) rfl rfl rfl rfl rfl ?_
            intro a w ν h
            refine pures [0, 0, 0] hτ h rfl ?_
            intro a h
            refine s_new h (wanted_none rfl) rfl rfl (e_alloc (r := 1104) hτ h.o rfl rfl) ?_
            intro a w ν h
            refine s_store hτ h (wanted_none rfl) rfl rfl rfl rfl rfl ?_
            intro a w ν h
            refine pures [0] hτ h rfl ?_
            intro a h
            refine k_end ?_
            refine k_reg ?_
            refine pures [0, 0, 0] hτ h rfl ?_
            intro a h
            refine s_store hτ h (wanted_none rfl) rfl rfl rfl rfl rfl ?_
            intro a w ν h
            refine k_end ?_
            refine k_reg ?_
            refine pures [0, 0] hτ h rfl ?_
            intro a h
            obtain ⟨q17, hq17, hH⟩ := bnd hH
            obtain ⟨x18⟩ := q17
            refine s_call1 fn16 (wayfinderref17_Same.ok (Switch.mk x6 x7 x8 x9 x10 [] x11) (Switch.mk x16.Epoch x16.Seen x16.Open x16.Stamp x16.Bad x16.L x11) _ hq17) [true] h (wanted_none rfl) rfl rfl rfl rfl rfl ?_
            intro a w ν h
            refine pures [0] hτ h rfl ?_
            intro a h
            refine k_end ?_
            refine k_reg ?_
            refine pures [0, 0] hτ h rfl ?_
            intro a h
            refine k_end ?_
            refine wp_ret ?_
            cases hH
            exact r_ret hτ [] h rfl rfl rfl
          | o1 x19 x20 =>
            refine s_call1 fn15 (agent_Handle.ok (Switch.mk x6 x7 x8 x9 x10 [] x11) [] 40 _ hq15) [true, true] h (wanted_none rfl) rfl rfl rfl rfl rfl ?_
            intro a w ν h
            refine pures [0, 0, 0] hτ h rfl ?_
            intro a h
            refine s_new h (wanted_none rfl) rfl rfl (e_alloc (r := 1105) hτ h.o rfl rfl) ?_
            intro a w ν h
            refine s_store hτ h (wanted_none rfl) rfl rfl rfl rfl rfl ?_
            intro a w ν h
            refine pures [0] hτ h rfl ?_
            intro a h
            refine k_end ?_
            refine k_reg ?_
            refine pures [0, 0, 0] hτ h rfl ?_
            intro a h
            refine s_store hτ h (wanted_none rfl) rfl rfl rfl rfl rfl ?_
            intro a w ν h
            refine k_end ?_
            refine k_reg ?_
            refine pures [0, 0] hτ h rfl ?_
            intro a h
            obtain ⟨q21, hq21, hH⟩ := bnd hH
            obtain ⟨x22⟩ := q21
            refine s_call1 fn16 (wayfinderref17_Same.ok (Switch.mk x6 x7 x8 x9 x10 [] x11) (Switch.mk x19.Epoch x19.Seen x19.Open x19.Stamp x19.Bad x19.L x11) _ hq21) [true] h (wanted_none rfl) rfl rfl rfl rfl rfl ?_
            intro a w ν h
            refine pures [0] hτ h rfl ?_
            intro a h
            refine k_end ?_
            refine k_reg ?_
            refine pures [0, 0] hτ h rfl ?_
            intro a h
            refine k_end ?_
            refine wp_ret ?_
            cases hH
            exact r_ret hτ [] h rfl rfl rfl
          | o2 x23 x24 x25 x26 x27 x28 x29 x30 =>
            refine s_call fn15 ((agent_Handle.ok (Switch.mk x6 x7 x8 x9 x10 [] x11) [] 40 _ hq15).sw_ 17900 1106) [] [1106] [true, true] h (wanted_none rfl) rfl rfl rfl rfl rfl rfl ?_
            intro a w ν h
            refine pures [0, 0, 0] hτ h rfl ?_
            intro a h
            refine s_new h (wanted_none rfl) rfl rfl (e_alloc (r := 1107) hτ h.o rfl rfl) ?_
            intro a w ν h
            refine s_store hτ h (wanted_none rfl) rfl rfl rfl rfl rfl ?_
            intro a w ν h
            refine pures [0] hτ h rfl ?_
            intro a h
            refine k_end ?_
            refine k_reg ?_
            refine pures [0, 0, 0] hτ h rfl ?_
            intro a h
            refine s_store hτ h (wanted_none rfl) rfl rfl rfl rfl rfl ?_
            intro a w ν h
            refine k_end ?_
            refine k_reg ?_
            refine pures [0, 0] hτ h rfl ?_
            intro a h
            have h := h.frzH (q := 1106) rfl (fzn_map (fun _ => rfl))
            obtain ⟨q31, hq31, hH⟩ := bnd hH
            obtain ⟨x32⟩ := q31
            refine s_call1 fn16 (wayfinderref17_Same.ok (Switch.mk x6 x7 x8 x9 x10 [] x11) (Switch.mk x23 x24 x25 x26 x27 x30 x11) _ hq31) [true] h (wanted_none rfl) rfl rfl rfl rfl rfl ?_
            intro a w ν h
            refine pures [0] hτ h rfl ?_
            intro a h
            refine k_end ?_
            refine k_reg ?_
            refine pures [0, 0] hτ h rfl ?_
            intro a h
            refine k_end ?_
            refine wp_ret ?_
            cases hH
            exact r_ret hτ [] h rfl rfl rfl
    | o1 x33 x34 =>
      refine s_call1 fn14 (frame_Seal.ok (Msg.mk p1.Kind p0.Epoch p1.Seq p1.Tag p1.R) _ hq12) [] h (wanted_none rfl) rfl rfl rfl rfl rfl ?_
      intro a w ν h
      refine pures [0, 0, 0, 0, 0] hτ h rfl ?_
      intro a h
      refine k_end ?_
      refine k_seq ?_
      refine k_seq ?_
      refine k_any mixed h ?_
      intro w ν h
      have h : St _ [(2, none, .ptr 1101 0), (7, none, .ptr 1103 0), (8, none, .sl (x33.map c_u8)), (9, none, i64 x34)] [(1103, .blk 24 [i64 x6, i64 x7, bo x8, i64 x9, i64 x10, .v (.slice none 0 0), i64 x11]), (1101, .blk 24 [i64 p0.Epoch, i64 p0.Seen, bo p0.Open, i64 p0.Stamp, i64 p0.Bad, .sl (p0.L.map c_Ver), i64 p0.Junk])] _ w a ν := h.pickG [2, 7, 8, 9] [1103, 1101] (by kernel_rfl) (by kernel_rfl) (by kernel_rfl)
      refine mid_any (fs := [⟨some (49, none, .ptr 1103 0), [], []⟩, ⟨some (50, none, i64 x6), [], []⟩, ⟨some (51, none, .ptr 1101 0), [], []⟩, ⟨some (52, none, i64 p0.Epoch), [], []⟩, ⟨some (53, none, i64 (IntKind.i64.wrap (p0.Epoch + 1))), [], []⟩, ⟨some (54, none, bo (x6 != (IntKind.i64.wrap (p0.Epoch + 1)))), [], []⟩, ⟨some (55, none, bo (x6 != (IntKind.i64.wrap (p0.Epoch + 1)))), [], []⟩, ⟨some (56, (some (55, false)), .ptr 1103 2), [], []⟩, ⟨some (57, (some (55, false)), bo x8), [], []⟩, ⟨some (58, none, bo ((x6 != (IntKind.i64.wrap (p0.Epoch + 1))) || x8)), [], []⟩, ⟨some (59, none, bo ((x6 != (IntKind.i64.wrap (p0.Epoch + 1))) || x8)), [], []⟩, ⟨some (60, (some (59, false)), .ptr 1103 1), [], []⟩]) 0 [([], []), ([0], [1103]), ([], []), ([2], [1101]), ([3, 2], []), ([1, 4, 0, 2, 3], []), ([5, 0, 1, 2, 3, 4], []), ([6], []), ([7, 6], [1103]), ([6, 8, 0, 1, 2, 3, 4, 5, 7], []), ([9, 0, 1, 2, 3, 4, 5, 6, 7, 8], []), ([10, 0, 1, 2, 3, 4, 5, 6, 7, 8, 9], [])] (by kernel_rfl) h (by kernel_rfl) ⟨ok_plain rfl (p_pure hτ (by kernel_rfl)), ok_plain rfl (p_pure hτ (by kernel_rfl)), ok_plain rfl (p_pure hτ (by kernel_rfl)), ok_plain rfl (p_pure hτ (by kernel_rfl)), ok_plain rfl (p_pure hτ (by kernel_rfl)), ok_plain rfl (p_pure hτ (by kernel_rfl)), ok_plain rfl (p_pure hτ (by kernel_rfl)), ok_gd (b := (x6 != (IntKind.i64.wrap (p0.Epoch + 1)))) rfl (by kernel_rfl) (by kernel_rfl) (fun hbu => p_pure hτ (by kernel_rfl)), ok_gd (b := (x6 != (IntKind.i64.wrap (p0.Epoch + 1)))) rfl (by kernel_rfl) (by kernel_rfl) (fun hbu => p_pure hτ (by kernel_rfl)), ok_plain rfl (p_pure hτ (by kernel_rfl)), ok_plain rfl (p_pure hτ (by kernel_rfl)), ok_gd (b := ((x6 != (IntKind.i64.wrap (p0.Epoch + 1))) || x8)) rfl (by kernel_rfl) (by kernel_rfl) (fun hbu => p_pure hτ (by kernel_rfl)), trivial⟩ ?_
      intro a w ν h
      have h : St _ [(2, none, .ptr 1101 0), (7, none, .ptr 1103 0), (8, none, .sl (x33.map c_u8)), (9, none, i64 x34), (59, none, bo ((x6 != (IntKind.i64.wrap (p0.Epoch + 1))) || x8)), (60, some (59, false), .ptr 1103 1)] [(1103, .blk 24 [i64 x6, i64 x7, bo x8, i64 x9, i64 x10, .v (.slice none 0 0), i64 x11]), (1101, .blk 24 [i64 p0.Epoch, i64 p0.Seen, bo p0.Open, i64 p0.Stamp, i64 p0.Bad, .sl (p0.L.map c_Ver), i64 p0.Junk])] _ w a ν := h.pickG [2, 7, 8, 9, 59, 60] [1103, 1101] (by kernel_rfl) (by kernel_rfl) (by kernel_rfl)
      refine mid_any (fs := [⟨some (61, (some (59, false)), i64 x7), [], []⟩, ⟨some (62, (some (59, false)), bo (x7 != 0)), [], []⟩, ⟨some (63, none, bo (((x6 != (IntKind.i64.wrap (p0.Epoch + 1))) || x8) || (x7 != 0))), [], []⟩, ⟨some (64, none, bo (((x6 != (IntKind.i64.wrap (p0.Epoch + 1))) || x8) || (x7 != 0))), [], []⟩, ⟨some (65, (some (64, false)), .ptr 1103 3), [], []⟩, ⟨some (66, (some (64, false)), i64 x9), [], []⟩, ⟨some (67, (some (64, false)), bo (x9 != 0)), [], []⟩, ⟨some (68, none, bo ((((x6 != (IntKind.i64.wrap (p0.Epoch + 1))) || x8) || (x7 != 0)) || (x9 != 0))), [], []⟩, ⟨some (69, none, bo ((((x6 != (IntKind.i64.wrap (p0.Epoch + 1))) || x8) || (x7 != 0)) || (x9 != 0))), [], []⟩, ⟨some (70, (some (69, false)), .ptr 1103 4), [], []⟩, ⟨some (71, (some (69, false)), i64 x10), [], []⟩, ⟨some (72, (some (69, false)), bo (x10 != 0)), [], []⟩]) 12 [([], [1103]), ([12], []), ([13, 12], []), ([14, 12, 13], []), ([15], []), ([16, 15], [1103]), ([17, 15, 16], []), ([15, 18, 12, 13, 14, 16, 17], []), ([19, 12, 13, 14, 15, 16, 17, 18], []), ([20], []), ([21, 20], [1103]), ([22, 20, 21], [])] (by kernel_rfl) h (by kernel_rfl) ⟨ok_gd (b := ((x6 != (IntKind.i64.wrap (p0.Epoch + 1))) || x8)) rfl (by kernel_rfl) (by kernel_rfl) (fun hbu => p_pure hτ (by kernel_rfl)), ok_gd (b := ((x6 != (IntKind.i64.wrap (p0.Epoch + 1))) || x8)) rfl (by kernel_rfl) (by kernel_rfl) (fun hbu => p_pure hτ (by kernel_rfl)), ok_plain rfl (p_pure hτ (by kernel_rfl)), ok_plain rfl (p_pure hτ (by kernel_rfl)), ok_gd (b := (((x6 != (IntKind.i64.wrap (p0.Epoch + 1))) || x8) || (x7 != 0))) rfl (by kernel_rfl) (by kernel_rfl) (fun hbu => p_pure hτ (by kernel_rfl)), ok_gd (b := (((x6 != (IntKind.i64.wrap (p0.Epoch + 1))) || x8) || (x7 != 0))) rfl (by kernel_rfl) (by kernel_rfl) (fun hbu => p_pure hτ (by kernel_rfl)), ok_gd (b := (((x6 != (IntKind.i64.wrap (p0.Epoch + 1))) || x8) || (x7 != 0))) rfl (by kernel_rfl) (by kernel_rfl) (fun hbu => p_pure hτ (by kernel_rfl)), ok_plain rfl (p_pure hτ (by kernel_rfl)), ok_plain rfl (p_pure hτ (by kernel_rfl)), ok_gd (b := ((((x6 != (IntKind.i64.wrap (p0.Epoch + 1))) || x8) || (x7 != 0)) || (x9 != 0))) rfl (by kernel_rfl) (by kernel_rfl) (fun hbu => p_pure hτ (by kernel_rfl)), ok_gd (b := ((((x6 != (IntKind.i64.wrap (p0.Epoch + 1))) || x8) || (x7 != 0)) || (x9 != 0))) rfl (by kernel_rfl) (by kernel_rfl) (fun hbu => p_pure hτ (by kernel_rfl)), ok_gd (b := ((((x6 != (IntKind.i64.wrap (p0.Epoch + 1))) || x8) || (x7 != 0)) || (x9 != 0))) rfl (by kernel_rfl) (by kernel_rfl) (fun hbu => p_pure hτ (by kernel_rfl)), trivial⟩ ?_
      intro a w ν h
      have h : St _ [(2, none, .ptr 1101 0), (7, none, .ptr 1103 0), (8, none, .sl (x33.map c_u8)), (9, none, i64 x34), (69, none, bo ((((x6 != (IntKind.i64.wrap (p0.Epoch + 1))) || x8) || (x7 != 0)) || (x9 != 0))), (72, some (69, false), bo (x10 != 0))] [(1103, .blk 24 [i64 x6, i64 x7, bo x8, i64 x9, i64 x10, .v (.slice none 0 0), i64 x11]), (1101, .blk 24 [i64 p0.Epoch, i64 p0.Seen, bo p0.Open, i64 p0.Stamp, i64 p0.Bad, .sl (p0.L.map c_Ver), i64 p0.Junk])] _ w a ν := h.pickG [2, 7, 8, 9, 69, 72] [1103, 1101] (by kernel_rfl) (by kernel_rfl) (by kernel_rfl)
      refine mid_any (fs := [⟨some (73, none, bo (((((x6 != (IntKind.i64.wrap (p0.Epoch + 1))) || x8) || (x7 != 0)) || (x9 != 0)) || (x10 != 0))), [], []⟩, ⟨some (74, none, bo (((((x6 != (IntKind.i64.wrap (p0.Epoch + 1))) || x8) || (x7 != 0)) || (x9 != 0)) || (x10 != 0))), [], []⟩, ⟨some (75, (some (74, false)), .ptr 1103 5), [], []⟩, ⟨some (76, (some (74, false)), .v (.slice none 0 0)), [], []⟩, ⟨some (77, (some (74, false)), i64 0), [], []⟩, ⟨some (78, (some (74, false)), bo false), [], []⟩, ⟨some (79, none, bo ((((((x6 != (IntKind.i64.wrap (p0.Epoch + 1))) || x8) || (x7 != 0)) || (x9 != 0)) || (x10 != 0)) || false)), [], []⟩, ⟨some (80, none, bo ((((((x6 != (IntKind.i64.wrap (p0.Epoch + 1))) || x8) || (x7 != 0)) || (x9 != 0)) || (x10 != 0)) || false)), [], []⟩, ⟨some (81, (some (80, false)), .ptr 1103 6), [], []⟩, ⟨some (82, (some (80, false)), i64 x11), [], []⟩, ⟨some (83, (some (80, false)), .ptr 1101 6), [], []⟩, ⟨some (84, (some (80, false)), i64 p0.Junk), [], []⟩]) 24 [([], []), ([24], []), ([25], []), ([26, 25], [1103]), ([27, 25, 26], []), ([28, 25, 26, 27], []), ([25, 29, 24, 26, 27, 28], []), ([30, 24, 25, 26, 27, 28, 29], []), ([31, 24, 25, 26, 27, 28, 29, 30], []), ([32, 31, 24, 25, 26, 27, 28, 29, 30], [1103]), ([31], []), ([34, 31], [1101])] (by kernel_rfl) h (by kernel_rfl) ⟨ok_plain rfl (p_pure hτ (by kernel_rfl)), ok_plain rfl (p_pure hτ (by kernel_rfl)), ok_gd (b := (((((x6 != (IntKind.i64.wrap (p0.Epoch + 1))) || x8) || (x7 != 0)) || (x9 != 0)) || (x10 != 0))) rfl (by kernel_rfl) (by kernel_rfl) (fun hbu => p_pure hτ (by kernel_rfl)), ok_gd (b := (((((x6 != (IntKind.i64.wrap (p0.Epoch + 1))) || x8) || (x7 != 0)) || (x9 != 0)) || (x10 != 0))) rfl (by kernel_rfl) (by kernel_rfl) (fun hbu => p_pure hτ (by kernel_rfl)), ok_gd (b := (((((x6 != (IntKind.i64.wrap (p0.Epoch + 1))) || x8) || (x7 != 0)) || (x9 != 0)) || (x10 != 0))) rfl (by kernel_rfl) (by kernel_rfl) (fun hbu => p_pure hτ (by kernel_rfl)), ok_gd (b := (((((x6 != (IntKind.i64.wrap (p0.Epoch + 1))) || x8) || (x7 != 0)) || (x9 != 0)) || (x10 != 0))) rfl (by kernel_rfl) (by kernel_rfl) (fun hbu => p_pure hτ (by kernel_rfl)), ok_plain rfl (p_pure hτ (by kernel_rfl)), ok_plain rfl (p_pure hτ (by kernel_rfl)), ok_gd (b := ((((((x6 != (IntKind.i64.wrap (p0.Epoch + 1))) || x8) || (x7 != 0)) || (x9 != 0)) || (x10 != 0)) || false)) rfl (by kernel_rfl) (by kernel_rfl) (fun hbu => p_pure hτ (by kernel_rfl)), ok_gd (b := ((((((x6 != (IntKind.i64.wrap (p0.Epoch + 1))) || x8) || (x7 != 0)) || (x9 != 0)) || (x10 != 0)) || false)) rfl (by kernel_rfl) (by kernel_rfl) (fun hbu => p_pure hτ (by kernel_rfl)), ok_gd (b := ((((((x6 != (IntKind.i64.wrap (p0.Epoch + 1))) || x8) || (x7 != 0)) || (x9 != 0)) || (x10 != 0)) || false)) rfl (by kernel_rfl) (by kernel_rfl) (fun hbu => p_pure hτ (by kernel_rfl)), ok_gd (b := ((((((x6 != (IntKind.i64.wrap (p0.Epoch + 1))) || x8) || (x7 != 0)) || (x9 != 0)) || (x10 != 0)) || false)) rfl (by kernel_rfl) (by kernel_rfl) (fun hbu => p_pure hτ (by kernel_rfl)), trivial⟩ ?_
      intro a w ν h
      obtain ⟨x35, hx35, hH⟩ := bnd hH
      have h : St _ [(2, none, .ptr 1101 0), (7, none, .ptr 1103 0), (8, none, .sl (x33.map c_u8)), (9, none, i64 x34), (80, none, bo ((((((x6 != (IntKind.i64.wrap (p0.Epoch + 1))) || x8) || (x7 != 0)) || (x9 != 0)) || (x10 != 0)) || false)), (82, some (80, false), i64 x11), (84, some (80, false), i64 p0.Junk)] [(1103, .blk 24 [i64 x6, i64 x7, bo x8, i64 x9, i64 x10, .v (.slice none 0 0), i64 x11]), (1101, .blk 24 [i64 p0.Epoch, i64 p0.Seen, bo p0.Open, i64 p0.Stamp, i64 p0.Bad, .sl (p0.L.map c_Ver), i64 p0.Junk])] _ w a ν := h.pickG [2, 7, 8, 9, 80, 82, 84] [1103, 1101] (by kernel_rfl) (by kernel_rfl) (by kernel_rfl)
      refine mid_any (fs := [⟨some (85, (some (80, false)), bo (x11 != p0.Junk)), [], []⟩, ⟨some (86, none, bo (((((((x6 != (IntKind.i64.wrap (p0.Epoch + 1))) || x8) || (x7 != 0)) || (x9 != 0)) || (x10 != 0)) || false) || (x11 != p0.Junk))), [], []⟩, ⟨some (87, none, bo (((((((x6 != (IntKind.i64.wrap (p0.Epoch + 1))) || x8) || (x7 != 0)) || (x9 != 0)) || (x10 != 0)) || false) || (x11 != p0.Junk))), [], []⟩, ⟨some (88, (some (87, false)), .agg [i64 x6, i64 x7, bo x8, i64 x9, i64 x10, .v (.slice none 0 0), i64 x11]), [], []⟩, ⟨some (89, (some (87, false)), .agg [i64 x35.y0, i64 x35.y1, bo x35.y2, i64 x35.y3, i64 x35.y4, .v (.slice none 0 0), i64 x35.y5]), [], []⟩, ⟨some (90, (some (87, false)), i64 x35.y0), [], []⟩, ⟨some (91, (some (87, false)), .ptr 1101 0), [], []⟩, ⟨some (92, (some (87, false)), i64 p0.Epoch), [], []⟩, ⟨some (93, (some (87, false)), i64 (IntKind.i64.wrap (p0.Epoch + 2))), [], []⟩]) 36 [([], []), ([36], []), ([37, 36], []), ([38, 36, 37], [1103]), ([39, 38, 38, 36, 37], []), ([40, 38, 36, 37, 39], []), ([38], []), ([42, 38], [1101]), ([43, 38, 42], [])] (by kernel_rfl) h (by kernel_rfl) ⟨ok_gd (b := ((((((x6 != (IntKind.i64.wrap (p0.Epoch + 1))) || x8) || (x7 != 0)) || (x9 != 0)) || (x10 != 0)) || false)) rfl (by kernel_rfl) (by kernel_rfl) (fun hbu => p_pure hτ (by kernel_rfl)), ok_plain rfl (p_pure hτ (by kernel_rfl)), ok_plain rfl (p_pure hτ (by kernel_rfl)), ok_gd (b := (((((((x6 != (IntKind.i64.wrap (p0.Epoch + 1))) || x8) || (x7 != 0)) || (x9 != 0)) || (x10 != 0)) || false) || (x11 != p0.Junk))) rfl (by kernel_rfl) (by kernel_rfl) (fun hbu => p_pure hτ (by kernel_rfl)), ok_gd (b := (((((((x6 != (IntKind.i64.wrap (p0.Epoch + 1))) || x8) || (x7 != 0)) || (x9 != 0)) || (x10 != 0)) || false) || (x11 != p0.Junk))) rfl (by kernel_rfl) (by kernel_rfl) (fun hbu => p_call1 (ds0 := [.agg [i64 x6, i64 x7, bo x8, i64 x9, i64 x10, .v (.slice none 0 0), i64 x11]]) fn13 (agent_Restart.ok (Switch.mk x6 x7 x8 x9 x10 [] x11) _ ((of_gd hx35).1 (by first | exact hbu | exact nt_ hbu))) [true] (by kernel_rfl) (by kernel_rfl) (by kernel_rfl)), ok_gd (b := (((((((x6 != (IntKind.i64.wrap (p0.Epoch + 1))) || x8) || (x7 != 0)) || (x9 != 0)) || (x10 != 0)) || false) || (x11 != p0.Junk))) rfl (by kernel_rfl) (by kernel_rfl) (fun hbu => p_pure hτ (by kernel_rfl)), ok_gd (b := (((((((x6 != (IntKind.i64.wrap (p0.Epoch + 1))) || x8) || (x7 != 0)) || (x9 != 0)) || (x10 != 0)) || false) || (x11 != p0.Junk))) rfl (by kernel_rfl) (by kernel_rfl) (fun hbu => p_pure hτ (by kernel_rfl)), ok_gd (b := (((((((x6 != (IntKind.i64.wrap (p0.Epoch + 1))) || x8) || (x7 != 0)) || (x9 != 0)) || (x10 != 0)) || false) || (x11 != p0.Junk))) rfl (by kernel_rfl) (by kernel_rfl) (fun hbu => p_pure hτ (by kernel_rfl)), ok_gd (b := (((((((x6 != (IntKind.i64.wrap (p0.Epoch + 1))) || x8) || (x7 != 0)) || (x9 != 0)) || (x10 != 0)) || false) || (x11 != p0.Junk))) rfl (by kernel_rfl) (by kernel_rfl) (fun hbu => p_pure hτ (by kernel_rfl)), trivial⟩ ?_
      intro a w ν h
      have h : St _ [(7, none, .ptr 1103 0), (8, none, .sl (x33.map c_u8)), (9, none, i64 x34), (87, none, bo (((((((x6 != (IntKind.i64.wrap (p0.Epoch + 1))) || x8) || (x7 != 0)) || (x9 != 0)) || (x10 != 0)) || false) || (x11 != p0.Junk))), (90, some (87, false), i64 x35.y0), (93, some (87, false), i64 (IntKind.i64.wrap (p0.Epoch + 2)))] [(1103, .blk 24 [i64 x6, i64 x7, bo x8, i64 x9, i64 x10, .v (.slice none 0 0), i64 x11]), (1101, .blk 24 [i64 p0.Epoch, i64 p0.Seen, bo p0.Open, i64 p0.Stamp, i64 p0.Bad, .sl (p0.L.map c_Ver), i64 p0.Junk])] _ w a ν := h.pickG [7, 8, 9, 87, 90, 93] [1103, 1101] (by kernel_rfl) (by kernel_rfl) (by kernel_rfl)
      refine mid_list 45 (by kernel_rfl) (by kernel_rfl) ?_
      refine pures [1, 0] hτ h rfl ?_
      intro a h
      refine k_end1 ?_
      refine t_then ?_
      refine k_ifH hH h rfl (fun hb hH => ?_) (fun hb hH => ?_)
      · refine k_reg ?_
        refine pures [0] hτ h rfl ?_
        intro a h
        refine k_end ?_
        refine wp_ret ?_
        cases hH
        exact r_ret hτ [] h rfl rfl rfl
      · refine k_skip ?_
        refine t_then ?_
        refine k_seq ?_
        refine k_reg ?_
        refine pures [0, 0] hτ h rfl ?_
        intro a h
        refine k_end ?_
        refine k_ifH hH h rfl (fun hb hH => ?_) (fun hb hH => ?_)
        · refine k_reg ?_
          refine pures [0] hτ h rfl ?_
          intro a h
          refine k_end ?_
          refine wp_ret ?_
          cases hH
          exact r_ret hτ [] h rfl rfl rfl
        · refine k_skip ?_
          refine t_then ?_
          refine k_reg ?_
          refine pures [0, 0] hτ h rfl ?_
          intro a h
          obtain ⟨q36, hq36, hH⟩ := bnd hH
          cases q36 with
          | o0 x37 =>
            refine s_call1 fn15 (agent_Handle.ok (Switch.mk x6 x7 x8 x9 x10 [] x11) x33 40 _ hq36) [true] h (wanted_none rfl) rfl rfl rfl rfl rfl ?_
            intro a w ν h
            refine pures [0, 0, 0] hτ h rfl ?_
            intro a h
            refine s_new h (wanted_none rfl) rfl rfl (e_alloc (r := 1108) hτ h.o rfl rfl) ?_
            intro a w ν h
            refine s_store hτ h (wanted_none rfl) rfl rfl rfl rfl rfl ?_
            intro a w ν h
            refine pures [0] hτ h rfl ?_
            intro a h
            refine k_end ?_
            refine k_reg ?_
            refine pures [0, 0, 0] hτ h rfl ?_
            intro a h
            refine s_store hτ h (wanted_none rfl) rfl rfl rfl rfl rfl ?_
            intro a w ν h
            refine k_end ?_
            refine k_reg ?_
            refine pures [0, 0] hτ h rfl ?_
            intro a h
            obtain ⟨q38, hq38, hH⟩ := bnd hH
            obtain ⟨x39⟩ := q38
            refine s_call1 fn16 (wayfinderref17_Same.ok (Switch.mk x6 x7 x8 x9 x10 [] x11) (Switch.mk x37.Epoch x37.Seen x37.Open x37.Stamp x37.Bad x37.L x11) _ hq38) [true] h (wanted_none rfl) rfl rfl rfl rfl rfl ?_
            intro a w ν h
            refine pures [0] hτ h rfl ?_
            intro a h
            refine k_end ?_
            refine k_reg ?_
            refine pures [0, 0] hτ h rfl ?_
            intro a h
            refine k_end ?_
            refine wp_ret ?_
            cases hH
            exact r_ret hτ [] h rfl rfl rfl
          | o1 x40 x41 =>
            refine s_call1 fn15 (agent_Handle.ok (Switch.mk x6 x7 x8 x9 x10 [] x11) x33 40 _ hq36) [true] h (wanted_none rfl) rfl rfl rfl rfl rfl ?_
            intro a w ν h
            refine pures [0, 0, 0] hτ h rfl ?_
            intro a h
            refine s_new h (wanted_none rfl) rfl rfl (e_alloc (r := 1109) hτ h.o rfl rfl) ?_
            intro a w ν h
            refine s_store hτ h (wanted_none rfl) rfl rfl rfl rfl rfl ?_
            intro a w ν h
            refine pures [0] hτ h rfl ?_
            intro a h
            refine k_end ?_
            refine k_reg ?_
            refine pures [0, 0, 0] hτ h rfl ?_
            intro a h
            refine s_store hτ h (wanted_none rfl) rfl rfl rfl rfl rfl ?_
            intro a w ν h
            refine k_end ?_
            refine k_reg ?_
            refine pures [0, 0] hτ h rfl ?_
            intro a h
            obtain ⟨q42, hq42, hH⟩ := bnd hH
            obtain ⟨x43⟩ := q42
            refine s_call1 fn16 (wayfinderref17_Same.ok (Switch.mk x6 x7 x8 x9 x10 [] x11) (Switch.mk x40.Epoch x40.Seen x40.Open x40.Stamp x40.Bad x40.L x11) _ hq42) [true] h (wanted_none rfl) rfl rfl rfl rfl rfl ?_
            intro a w ν h
            refine pures [0] hτ h rfl ?_
            intro a h
            refine k_end ?_
            refine k_reg ?_
            refine pures [0, 0] hτ h rfl ?_
            intro a h
            refine k_end ?_
            refine wp_ret ?_
            cases hH
            exact r_ret hτ [] h rfl rfl rfl
          | o2 x44 x45 x46 x47 x48 x49 x50 x51 =>
            refine s_call fn15 ((agent_Handle.ok (Switch.mk x6 x7 x8 x9 x10 [] x11) x33 40 _ hq36).sw_ 17900 1110) [] [1110] [true] h (wanted_none rfl) rfl rfl rfl rfl rfl rfl ?_
            intro a w ν h
            refine pures [0, 0, 0] hτ h rfl ?_
            intro a h
            refine s_new h (wanted_none rfl) rfl rfl (e_alloc (r := 1111) hτ h.o rfl rfl) ?_
            intro a w ν h
            refine s_store hτ h (wanted_none rfl) rfl rfl rfl rfl rfl ?_
            intro a w ν h
            refine pures [0] hτ h rfl ?_
            intro a h
            refine k_end ?_
            refine k_reg ?_
            refine pures [0, 0, 0] hτ h rfl ?_
            intro a h
            refine s_store hτ h (wanted_none rfl) rfl rfl rfl rfl rfl ?_
            intro a w ν h
            refine k_end ?_
            refine k_reg ?_
            refine pures [0, 0] hτ h rfl ?_
            intro a h
            have h := h.frzH (q := 1110) rfl (fzn_map (fun _ => rfl))
            obtain ⟨q52, hq52, hH⟩ := bnd hH
            obtain ⟨x53⟩ := q52
            refine s_call1 fn16 (wayfinderref17_Same.ok (Switch.mk x6 x7 x8 x9 x10 [] x11) (Switch.mk x44 x45 x46 x47 x48 x51 x11) _ hq52) [true] h (wanted_none rfl) rfl rfl rfl rfl rfl ?_
            intro a w ν h
            refine pures [0] hτ h rfl ?_
            intro a h
            refine k_end ?_
            refine k_reg ?_
            refine pures [0, 0] hτ h rfl ?_
            intro a h
            refine k_end ?_
            refine wp_ret ?_
            cases hH
            exact r_ret hτ [] h rfl rfl rfl
end Go.Proofs.YtjjmoihpjmojiaaDoor.X
