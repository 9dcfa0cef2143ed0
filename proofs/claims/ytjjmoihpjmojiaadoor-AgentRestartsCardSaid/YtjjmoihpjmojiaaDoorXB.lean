/- Functions of the program beside their code, part 2: each one as a plain function, and that the code does as it says. -/
import Derived.Test.YtjjmoihpjmojiaaDoorXA
set_option maxHeartbeats 16000000
set_option linter.unusedVariables false
set_option linter.unusedSimpArgs false
namespace Go.Proofs.YtjjmoihpjmojiaaDoor.X
open Go.RowKit Go.Proofs.YtjjmoihpjmojiaaDoor.D
/-! ### wayfinder/agent.Handle -/
inductive agent_Handle.R where
  | o0 (y0 : Switch)
  | o1 (y0 : Switch) (y1 : (List (List Int)))
  | o2 (y0 : Int) (y1 : Int) (y2 : Bool) (y3 : Int) (y4 : Int) (y5 : Int) (y6 : (List (List Int))) (y7 : (List Ver))
  deriving Inhabited
def agent_Handle.rd (p0 : Switch) (p1 : (List Int)) (p2 : Int) : agent_Handle.R → DV
  | .o0 y0 => .tup [.agg [i64 y0.Epoch, i64 y0.Seen, bo y0.Open, i64 y0.Stamp, i64 y0.Bad, .sl (y0.L.map c_Ver), i64 y0.Junk], .v (.slice none 0 0)]
  | .o1 y0 y1 => .tup [.agg [i64 y0.Epoch, i64 y0.Seen, bo y0.Open, i64 y0.Stamp, i64 y0.Bad, .sl (y0.L.map c_Ver), i64 y0.Junk], .sl (y1.map (c_L c_u8))]
  | .o2 y0 y1 y2 y3 y4 y5 y6 y7 => .tup [.agg [i64 y0, i64 y1, bo y2, i64 y3, i64 y4, .own 17900, i64 y5], .sl (y6.map (c_L c_u8))]
def agent_Handle.rh (p0 : Switch) (p1 : (List Int)) (p2 : Int) : agent_Handle.R → Hp
  | .o0 y0 => []
  | .o1 y0 y1 => []
  | .o2 y0 y1 y2 y3 y4 y5 y6 y7 => [(17900, .row 58 2 (y7.map c_Ver))]
def agent_Handle (p0 : Switch) (p1 : (List Int)) (p2 : Int) : Option agent_Handle.R := (agent_own p0 >>= fun q1 => match q1 with | .o0 x2 => (frame_Open p1 >>= fun q3 => match q3 with | .o0 x4 x5 => (if (x4.Kind == 2) then (agent_work >>= fun x7 => (if ((x5 != 0) || (!true)) then some (agent_Handle.R.o0 (Switch.mk x2.Epoch x2.Seen x2.Open x2.Stamp x2.Bad x2.L (IntKind.i64.wrap (x2.Junk + 1)))) else (sess_Take x2.Epoch x2.Seen x4 >>= fun q8 => match q8 with | .o0 x9 => (if (x9 == 8) then (agent_Hail p0 >>= fun q10 => match q10 with | .o0 => (agent_frames [] >>= fun x11 => some (agent_Handle.R.o1 x2 x11.y0)) | .o1 x12 => (agent_frames x12 >>= fun x13 => some (agent_Handle.R.o1 x2 x13.y0))) else (if (x9 == 0) then (agent_worker_add x4 (Worker.mk x2 p2) >>= fun q14 => match q14 with | .o0 x15 x16 x17 x18 x19 x20 x21 x22 => (frame_Seal (Msg.mk 1 x15 x4.Seq x19 (Rule.mk (Prefix.mk 0 0) 0 0 (Action.mk 0 0))) >>= fun q23 => match q23 with | .o0 x24 => (agent_frames [] >>= fun x25 => some (agent_Handle.R.o2 x15 x4.Seq x17 x18 x19 x20 x25.y0 x22)) | .o1 x26 x27 => (agent_frames x26 >>= fun x28 => some (agent_Handle.R.o2 x15 x4.Seq x17 x18 x19 x20 x28.y0 x22))) | .o1 x29 => (frame_Seal (Msg.mk 1 x29.Switch.Epoch x4.Seq x29.Switch.Bad (Rule.mk (Prefix.mk 0 0) 0 0 (Action.mk 0 0))) >>= fun q30 => match q30 with | .o0 x31 => (agent_frames [] >>= fun x32 => some (agent_Handle.R.o1 (Switch.mk x29.Switch.Epoch x4.Seq x29.Switch.Open x29.Switch.Stamp x29.Switch.Bad x29.Switch.L x29.Switch.Junk) x32.y0)) | .o1 x33 x34 => (agent_frames x33 >>= fun x35 => some (agent_Handle.R.o1 (Switch.mk x29.Switch.Epoch x4.Seq x29.Switch.Open x29.Switch.Stamp x29.Switch.Bad x29.Switch.L x29.Switch.Junk) x35.y0)))) else (frame_Seal (Msg.mk 1 x2.Epoch x2.Seen x2.Bad (Rule.mk (Prefix.mk 0 0) 0 0 (Action.mk 0 0))) >>= fun q36 => match q36 with | .o0 x37 => (agent_frames [] >>= fun x38 => some (agent_Handle.R.o1 x2 x38.y0)) | .o1 x39 x40 => (agent_frames x39 >>= fun x41 => some (agent_Handle.R.o1 x2 x41.y0)))))))) else (if (x4.Kind == 3) then (agent_work >>= fun x42 => (if ((x5 != 0) || (!true)) then some (agent_Handle.R.o0 (Switch.mk x2.Epoch x2.Seen x2.Open x2.Stamp x2.Bad x2.L (IntKind.i64.wrap (x2.Junk + 1)))) else (sess_Take x2.Epoch x2.Seen x4 >>= fun q43 => match q43 with | .o0 x44 => (if (x44 == 8) then (agent_Hail p0 >>= fun q45 => match q45 with | .o0 => (agent_frames [] >>= fun x46 => some (agent_Handle.R.o1 x2 x46.y0)) | .o1 x47 => (agent_frames x47 >>= fun x48 => some (agent_Handle.R.o1 x2 x48.y0))) else (if (x44 == 0) then (agent_worker_flip x4 (Worker.mk x2 p2) >>= fun q49 => match q49 with | .o0 x50 => (frame_Seal (Msg.mk 1 x50.Switch.Epoch x4.Seq x50.Switch.Bad (Rule.mk (Prefix.mk 0 0) 0 0 (Action.mk 0 0))) >>= fun q51 => match q51 with | .o0 x52 => (agent_frames [] >>= fun x53 => some (agent_Handle.R.o1 (Switch.mk x50.Switch.Epoch x4.Seq x50.Switch.Open x50.Switch.Stamp x50.Switch.Bad x50.Switch.L x50.Switch.Junk) x53.y0)) | .o1 x54 x55 => (agent_frames x54 >>= fun x56 => some (agent_Handle.R.o1 (Switch.mk x50.Switch.Epoch x4.Seq x50.Switch.Open x50.Switch.Stamp x50.Switch.Bad x50.Switch.L x50.Switch.Junk) x56.y0)))) else (frame_Seal (Msg.mk 1 x2.Epoch x2.Seen x2.Bad (Rule.mk (Prefix.mk 0 0) 0 0 (Action.mk 0 0))) >>= fun q57 => match q57 with | .o0 x58 => (agent_frames [] >>= fun x59 => some (agent_Handle.R.o1 x2 x59.y0)) | .o1 x60 x61 => (agent_frames x60 >>= fun x62 => some (agent_Handle.R.o1 x2 x62.y0)))))))) else (if (x4.Kind == 4) then (agent_work >>= fun x63 => (if ((x5 != 0) || (!true)) then some (agent_Handle.R.o0 (Switch.mk x2.Epoch x2.Seen x2.Open x2.Stamp x2.Bad x2.L (IntKind.i64.wrap (x2.Junk + 1)))) else (sess_Take x2.Epoch x2.Seen x4 >>= fun q64 => match q64 with | .o0 x65 => (if (x65 == 8) then (agent_Hail p0 >>= fun q66 => match q66 with | .o0 => (agent_frames [] >>= fun x67 => some (agent_Handle.R.o1 x2 x67.y0)) | .o1 x68 => (agent_frames x68 >>= fun x69 => some (agent_Handle.R.o1 x2 x69.y0))) else (if (x65 == 0) then (agent_worker_collect x4 (Worker.mk x2 p2) >>= fun q70 => match q70 with | .o0 x71 => (frame_Seal (Msg.mk 1 x71.Switch.Epoch x4.Seq x71.Switch.Bad (Rule.mk (Prefix.mk 0 0) 0 0 (Action.mk 0 0))) >>= fun q72 => match q72 with | .o0 x73 => (agent_frames [] >>= fun x74 => some (agent_Handle.R.o1 (Switch.mk x71.Switch.Epoch x4.Seq x71.Switch.Open x71.Switch.Stamp x71.Switch.Bad x71.Switch.L x71.Switch.Junk) x74.y0)) | .o1 x75 x76 => (agent_frames x75 >>= fun x77 => some (agent_Handle.R.o1 (Switch.mk x71.Switch.Epoch x4.Seq x71.Switch.Open x71.Switch.Stamp x71.Switch.Bad x71.Switch.L x71.Switch.Junk) x77.y0)))) else (frame_Seal (Msg.mk 1 x2.Epoch x2.Seen x2.Bad (Rule.mk (Prefix.mk 0 0) 0 0 (Action.mk 0 0))) >>= fun q78 => match q78 with | .o0 x79 => (agent_frames [] >>= fun x80 => some (agent_Handle.R.o1 x2 x80.y0)) | .o1 x81 x82 => (agent_frames x81 >>= fun x83 => some (agent_Handle.R.o1 x2 x83.y0)))))))) else (if (x4.Kind == 5) then (agent_work >>= fun x84 => (if ((x5 != 0) || (!true)) then some (agent_Handle.R.o0 (Switch.mk x2.Epoch x2.Seen x2.Open x2.Stamp x2.Bad x2.L (IntKind.i64.wrap (x2.Junk + 1)))) else (sess_Take x2.Epoch x2.Seen x4 >>= fun q85 => match q85 with | .o0 x86 => (if (x86 == 8) then (agent_Hail p0 >>= fun q87 => match q87 with | .o0 => (agent_frames [] >>= fun x88 => some (agent_Handle.R.o1 x2 x88.y0)) | .o1 x89 => (agent_frames x89 >>= fun x90 => some (agent_Handle.R.o1 x2 x90.y0))) else (if (x86 == 0) then (agent_worker_open x4 (Worker.mk x2 p2) >>= fun q91 => match q91 with | .o0 x92 => (frame_Seal (Msg.mk 1 x92.Switch.Epoch x4.Seq x92.Switch.Bad (Rule.mk (Prefix.mk 0 0) 0 0 (Action.mk 0 0))) >>= fun q93 => match q93 with | .o0 x94 => (agent_frames [] >>= fun x95 => some (agent_Handle.R.o1 (Switch.mk x92.Switch.Epoch x4.Seq x92.Switch.Open x92.Switch.Stamp x92.Switch.Bad x92.Switch.L x92.Switch.Junk) x95.y0)) | .o1 x96 x97 => (agent_frames x96 >>= fun x98 => some (agent_Handle.R.o1 (Switch.mk x92.Switch.Epoch x4.Seq x92.Switch.Open x92.Switch.Stamp x92.Switch.Bad x92.Switch.L x92.Switch.Junk) x98.y0)))) else (frame_Seal (Msg.mk 1 x2.Epoch x2.Seen x2.Bad (Rule.mk (Prefix.mk 0 0) 0 0 (Action.mk 0 0))) >>= fun q99 => match q99 with | .o0 x100 => (agent_frames [] >>= fun x101 => some (agent_Handle.R.o1 x2 x101.y0)) | .o1 x102 x103 => (agent_frames x102 >>= fun x104 => some (agent_Handle.R.o1 x2 x104.y0)))))))) else (agent_work >>= fun x105 => (if ((x5 != 0) || (!false)) then some (agent_Handle.R.o0 (Switch.mk x2.Epoch x2.Seen x2.Open x2.Stamp x2.Bad x2.L (IntKind.i64.wrap (x2.Junk + 1)))) else (sess_Take x2.Epoch x2.Seen x4 >>= fun q106 => match q106 with | .o0 x107 => (if (x107 == 8) then (agent_Hail p0 >>= fun q108 => match q108 with | .o0 => (agent_frames [] >>= fun x109 => some (agent_Handle.R.o1 x2 x109.y0)) | .o1 x110 => (agent_frames x110 >>= fun x111 => some (agent_Handle.R.o1 x2 x111.y0))) else (if (x107 == 0) then none else (frame_Seal (Msg.mk 1 x2.Epoch x2.Seen x2.Bad (Rule.mk (Prefix.mk 0 0) 0 0 (Action.mk 0 0))) >>= fun q112 => match q112 with | .o0 x113 => (agent_frames [] >>= fun x114 => some (agent_Handle.R.o1 x2 x114.y0)) | .o1 x115 x116 => (agent_frames x115 >>= fun x117 => some (agent_Handle.R.o1 x2 x117.y0))))))))))))))
theorem fn15 : Go.Proofs.YtjjmoihpjmojiaaDoor.D.Fn Tryd.prog 15 := ⟨Tryd.f15, Tryd.func15, by kernel_rfl, rfl⟩
set_option maxRecDepth 100000 in
theorem agent_Handle.ok (p0 : Switch) (p1 : (List Int)) (p2 : Int) (r : agent_Handle.R) (hH : agent_Handle p0 p1 p2 = some r) : Con Tryd.prog 15 [.agg [i64 p0.Epoch, i64 p0.Seen, bo p0.Open, i64 p0.Stamp, i64 p0.Bad, .sl (p0.L.map c_Ver), i64 p0.Junk], .sl (p1.map c_u8), i64 p2] [] (agent_Handle.rd p0 p1 p2 r) (agent_Handle.rh p0 p1 p2 r) := by
  refine con_of Tryd.f15 110 (c := _) Tryd.func15 rfl rfl rfl ?_
  intro w a ν X h
  unfold agent_Handle at hH
  refine k_reg ?_
  refine s_new h (wanted_none rfl) rfl rfl (e_box (r := 17101) (g := none) h.f h.o rfl trivial rfl rfl) ?_
  intro a w ν h
  refine s_new h (wanted_none rfl) rfl rfl (e_alloc (r := 17102) hτ h.o rfl rfl) ?_
  intro a w ν h
  refine pures [0] hτ h rfl ?_
  intro a h
  refine k_end ?_
  refine k_reg ?_
  refine pures [0] hτ h rfl ?_
  intro a h
  obtain ⟨q1, hq1, hH⟩ := bnd hH
  obtain ⟨x2⟩ := q1
  refine s_call1 fn38 (agent_own.ok p0 _ hq1) [] h (wanted_none rfl) rfl rfl rfl rfl rfl ?_
  intro a w ν h
  refine pures [0, 0] hτ h rfl ?_
  intro a h
  refine s_new h (wanted_none rfl) rfl rfl (e_box (r := 17103) (g := none) h.f h.o rfl trivial rfl rfl) ?_
  intro a w ν h
  refine pures [0] hτ h rfl ?_
  intro a h
  refine k_end ?_
  refine k_reg ?_
  refine pures [0] hτ h rfl ?_
  intro a h
  obtain ⟨q3, hq3, hH⟩ := bnd hH
  obtain ⟨x4, x5⟩ := q3
  refine s_call1 fn35 (frame_Open.ok p1 _ hq3) [] h (wanted_none rfl) rfl rfl rfl rfl rfl ?_
  intro a w ν h
  refine pures [0, 0, 0] hτ h rfl ?_
  intro a h
  refine s_new h (wanted_none rfl) rfl rfl (e_alloc (r := 17104) hτ h.o rfl rfl) ?_
  intro a w ν h
  refine s_store hτ h (wanted_none rfl) rfl rfl rfl rfl rfl ?_
  intro a w ν h
  refine pures [0] hτ h rfl ?_
  intro a h
  refine k_end ?_
  refine k_seq ?_
  rcases b_if hH with ⟨hk0_2, hH⟩ | ⟨hk0_2, hH⟩
  · refine k_any mixed h ?_
    intro w ν h
    obtain ⟨x7, hx7, hH⟩ := bnd hH
    have h : St _ [(3, none, .ptr 17101 0), (6, none, .ptr 17102 0), (8, none, .ptr 17103 0), (9, none, .ptr 17104 0), (10, none, i64 x5)] [(17104, .blk 32 [i64 x4.Kind, i64 x4.Epoch, i64 x4.Seq, i64 x4.Tag, i64 x4.R.P.Addr, i64 x4.R.P.Len, i64 x4.R.In, i64 x4.R.Prio, i64 x4.R.Act.Kind, i64 x4.R.Act.Port]), (17103, .blk 89 [i64 x2.Epoch, i64 x2.Seen, bo x2.Open, i64 x2.Stamp, i64 x2.Bad, .sl (x2.L.map c_Ver), i64 x2.Junk, i64 p2]), (17102, .blk 24 [i64 0, i64 0, bo false, i64 0, i64 0, .v (.slice none 0 0), i64 0]), (17101, .blk 24 [i64 p0.Epoch, i64 p0.Seen, bo p0.Open, i64 p0.Stamp, i64 p0.Bad, .sl (p0.L.map c_Ver), i64 p0.Junk])] _ w a ν := h.pickG [3, 6, 8, 9, 10] [17104, 17103, 17102, 17101] (by kernel_rfl) (by kernel_rfl) (by kernel_rfl)
    refine mid_any (fs := [⟨some (26, none, .own 17106), [], [(17106, .mp [(.int .i64 2, .v (.func (.func 90) #[] #[])), (.int .i64 3, .v (.func (.func 91) #[] #[])), (.int .i64 4, .v (.func (.func 92) #[] #[])), (.int .i64 5, .v (.func (.func 93) #[] #[]))])]⟩, ⟨some (27, none, .ptr 17104 0), [], []⟩, ⟨some (28, none, i64 x4.Kind), [], []⟩, ⟨some (29, none, .tup [.v (.func (.func 90) #[] #[]), bo true]), [], []⟩, ⟨some (25, none, .tup [.v (.func (.func 90) #[] #[]), bo true]), [], []⟩, ⟨some (30, none, .v (.func (.func 90) #[] #[])), [], []⟩, ⟨some (31, none, bo true), [], []⟩, ⟨some (11, none, .v (.func (.func 90) #[] #[])), [], []⟩]) 0 [([], []), ([], []), ([1], [17104]), ([0, 2], [17106]), ([3], []), ([4], []), ([4], []), ([5, 5], [])] (by kernel_rfl) h (by kernel_rfl) ⟨ok_plain rfl (p_callN (ds0 := []) fn39 ((agent_work.ok _ hx7).sw_ 41900 17106) [] (by kernel_rfl) (by kernel_rfl) (by kernel_rfl) (by kernel_rfl)), ok_plain rfl (p_pure hτ (by kernel_rfl)), ok_plain rfl (p_pure hτ (by kernel_rfl)), ok_plain rfl (p_of0 rfl fun w a ν X hO hF hg => e_lkp1 mapT92 hF hO hg rfl rfl (by simp [lookI, hk0_2]; rfl)), ok_plain rfl (p_pure hτ (by kernel_rfl)), ok_plain rfl (p_pure hτ (by kernel_rfl)), ok_plain rfl (p_pure hτ (by kernel_rfl)), ok_plain rfl (p_pure hτ (by kernel_rfl)), trivial⟩ ?_
    intro a w ν h
    have h : St _ [(3, none, .ptr 17101 0), (6, none, .ptr 17102 0), (8, none, .ptr 17103 0), (9, none, .ptr 17104 0), (10, none, i64 x5), (11, none, .v (.func (.func 90) #[] #[])), (31, none, bo true)] [(17106, .mp [(.int .i64 2, .v (.func (.func 90) #[] #[])), (.int .i64 3, .v (.func (.func 91) #[] #[])), (.int .i64 4, .v (.func (.func 92) #[] #[])), (.int .i64 5, .v (.func (.func 93) #[] #[]))]), (17104, .blk 32 [i64 x4.Kind, i64 x4.Epoch, i64 x4.Seq, i64 x4.Tag, i64 x4.R.P.Addr, i64 x4.R.P.Len, i64 x4.R.In, i64 x4.R.Prio, i64 x4.R.Act.Kind, i64 x4.R.Act.Port]), (17103, .blk 89 [i64 x2.Epoch, i64 x2.Seen, bo x2.Open, i64 x2.Stamp, i64 x2.Bad, .sl (x2.L.map c_Ver), i64 x2.Junk, i64 p2]), (17102, .blk 24 [i64 0, i64 0, bo false, i64 0, i64 0, .v (.slice none 0 0), i64 0]), (17101, .blk 24 [i64 p0.Epoch, i64 p0.Seen, bo p0.Open, i64 p0.Stamp, i64 p0.Bad, .sl (p0.L.map c_Ver), i64 p0.Junk])] _ w a ν := h.pickG [3, 6, 8, 9, 10, 11, 31] [17106, 17104, 17103, 17102, 17101] (by kernel_rfl) (by kernel_rfl) (by kernel_rfl)
    refine mid_list 8 (by kernel_rfl) (by kernel_rfl) ?_
    refine pures [0] hτ h rfl ?_
    intro a h
    refine k_end1 ?_
    refine t_then ?_
    refine k_seq ?_
    refine k_reg ?_
    refine pures [0, 0, 0, 1, 1, 0] hτ h rfl ?_
    intro a h
    refine k_end ?_
    refine k_ifH hH h rfl (fun hb hH => ?_) (fun hb hH => ?_)
    · refine k_reg ?_
      refine pures [0, 0, 0, 0, 0, 0, 0, 0, 0] hτ h rfl ?_
      intro a h
      refine s_store hτ h (wanted_none rfl) rfl rfl rfl rfl rfl ?_
      intro a w ν h
      refine k_end ?_
      refine k_reg ?_
      refine pures [0, 0, 0, 0] hτ h rfl ?_
      intro a h
      refine s_store hτ h (wanted_none rfl) rfl rfl rfl rfl rfl ?_
      intro a w ν h
      refine pures [0] hτ h rfl ?_
      intro a h
      refine k_end ?_
      refine wp_ret ?_
      cases hH
      exact r_ret hτ [] h rfl rfl rfl
    · refine k_skip ?_
      refine t_then ?_
      refine k_seq ?_
      refine k_seq ?_
      refine k_any mixed h ?_
      intro w ν h
      have h : St _ [(3, none, .ptr 17101 0), (6, none, .ptr 17102 0), (8, none, .ptr 17103 0), (9, none, .ptr 17104 0), (11, none, .v (.func (.func 90) #[] #[]))] [(17104, .blk 32 [i64 x4.Kind, i64 x4.Epoch, i64 x4.Seq, i64 x4.Tag, i64 x4.R.P.Addr, i64 x4.R.P.Len, i64 x4.R.In, i64 x4.R.Prio, i64 x4.R.Act.Kind, i64 x4.R.Act.Port]), (17103, .blk 89 [i64 x2.Epoch, i64 x2.Seen, bo x2.Open, i64 x2.Stamp, i64 x2.Bad, .sl (x2.L.map c_Ver), i64 x2.Junk, i64 p2]), (17102, .blk 24 [i64 0, i64 0, bo false, i64 0, i64 0, .v (.slice none 0 0), i64 0]), (17101, .blk 24 [i64 p0.Epoch, i64 p0.Seen, bo p0.Open, i64 p0.Stamp, i64 p0.Bad, .sl (p0.L.map c_Ver), i64 p0.Junk])] _ w a ν := h.pickG [3, 6, 8, 9, 11] [17104, 17103, 17102, 17101] (by kernel_rfl) (by kernel_rfl) (by kernel_rfl)
      refine mid_any (fs := [⟨some (51, none, .ptr 17103 0), [], []⟩, ⟨some (52, none, .ptr 17103 0), [], []⟩, ⟨some (53, none, .ptr 17103 0), [], []⟩, ⟨some (54, none, .ptr 17103 0), [], []⟩, ⟨some (55, none, i64 x2.Epoch), [], []⟩, ⟨some (56, none, .ptr 17103 0), [], []⟩, ⟨some (57, none, .ptr 17103 0), [], []⟩, ⟨some (58, none, .ptr 17103 0), [], []⟩, ⟨some (59, none, .ptr 17103 1), [], []⟩, ⟨some (60, none, i64 x2.Seen), [], []⟩, ⟨some (61, none, .agg [i64 x4.Kind, i64 x4.Epoch, i64 x4.Seq, i64 x4.Tag, i64 x4.R.P.Addr, i64 x4.R.P.Len, i64 x4.R.In, i64 x4.R.Prio, i64 x4.R.Act.Kind, i64 x4.R.Act.Port]), [], []⟩]) 0 [([], []), ([0], []), ([1, 0], []), ([2, 0, 1], []), ([3, 0, 1, 2], [17103]), ([], []), ([5], []), ([6, 5], []), ([7, 5, 6], []), ([8, 5, 6, 7], [17103]), ([], [17104])] (by kernel_rfl) h (by kernel_rfl) ⟨ok_plain rfl (p_pure hτ (by kernel_rfl)), ok_plain rfl (p_pure hτ (by kernel_rfl)), ok_plain rfl (p_pure hτ (by kernel_rfl)), ok_plain rfl (p_pure hτ (by kernel_rfl)), ok_plain rfl (p_pure hτ (by kernel_rfl)), ok_plain rfl (p_pure hτ (by kernel_rfl)), ok_plain rfl (p_pure hτ (by kernel_rfl)), ok_plain rfl (p_pure hτ (by kernel_rfl)), ok_plain rfl (p_pure hτ (by kernel_rfl)), ok_plain rfl (p_pure hτ (by kernel_rfl)), ok_plain rfl (p_pure hτ (by kernel_rfl)), trivial⟩ ?_
      intro a w ν h
      have h : St _ [(3, none, .ptr 17101 0), (6, none, .ptr 17102 0), (8, none, .ptr 17103 0), (9, none, .ptr 17104 0), (11, none, .v (.func (.func 90) #[] #[])), (55, none, i64 x2.Epoch), (60, none, i64 x2.Seen), (61, none, .agg [i64 x4.Kind, i64 x4.Epoch, i64 x4.Seq, i64 x4.Tag, i64 x4.R.P.Addr, i64 x4.R.P.Len, i64 x4.R.In, i64 x4.R.Prio, i64 x4.R.Act.Kind, i64 x4.R.Act.Port])] [(17104, .blk 32 [i64 x4.Kind, i64 x4.Epoch, i64 x4.Seq, i64 x4.Tag, i64 x4.R.P.Addr, i64 x4.R.P.Len, i64 x4.R.In, i64 x4.R.Prio, i64 x4.R.Act.Kind, i64 x4.R.Act.Port]), (17103, .blk 89 [i64 x2.Epoch, i64 x2.Seen, bo x2.Open, i64 x2.Stamp, i64 x2.Bad, .sl (x2.L.map c_Ver), i64 x2.Junk, i64 p2]), (17102, .blk 24 [i64 0, i64 0, bo false, i64 0, i64 0, .v (.slice none 0 0), i64 0]), (17101, .blk 24 [i64 p0.Epoch, i64 p0.Seen, bo p0.Open, i64 p0.Stamp, i64 p0.Bad, .sl (p0.L.map c_Ver), i64 p0.Junk])] _ w a ν := h.pickG [3, 6, 8, 9, 11, 55, 60, 61] [17104, 17103, 17102, 17101] (by kernel_rfl) (by kernel_rfl) (by kernel_rfl)
      refine mid_list 11 (by kernel_rfl) (by kernel_rfl) ?_
      obtain ⟨q8, hq8, hH⟩ := bnd hH
      obtain ⟨x9⟩ := q8
      refine s_call1 fn40 (sess_Take.ok x2.Epoch x2.Seen x4 _ hq8) [] h (wanted_none rfl) rfl rfl rfl rfl rfl ?_
      intro a w ν h
      refine k_end1 ?_
      refine t_then ?_
      refine k_blk ?_
      refine k_reg ?_
      refine pures [0, 0] hτ h rfl ?_
      intro a h
      refine k_end ?_
      refine k_ifH hH h rfl (fun hb hH => ?_) (fun hb hH => ?_)
      · refine k_seq ?_
        obtain ⟨q10, hq10, hH⟩ := bnd hH
        cases q10 with
        | o0 =>
          refine k_any mixed h ?_
          intro w ν h
          obtain ⟨x11, hx11, hH⟩ := bnd hH
          have h : St _ [(3, none, .ptr 17101 0), (6, none, .ptr 17102 0), (8, none, .ptr 17103 0)] [(17103, .blk 89 [i64 x2.Epoch, i64 x2.Seen, bo x2.Open, i64 x2.Stamp, i64 x2.Bad, .sl (x2.L.map c_Ver), i64 x2.Junk, i64 p2]), (17102, .blk 24 [i64 0, i64 0, bo false, i64 0, i64 0, .v (.slice none 0 0), i64 0]), (17101, .blk 24 [i64 p0.Epoch, i64 p0.Seen, bo p0.Open, i64 p0.Stamp, i64 p0.Bad, .sl (p0.L.map c_Ver), i64 p0.Junk])] _ w a ν := h.pickG [3, 6, 8] [17103, 17102, 17101] (by kernel_rfl) (by kernel_rfl) (by kernel_rfl)
          refine mid_any (fs := [⟨some (65, none, .ptr 17103 0), [], []⟩, ⟨some (66, none, .ptr 17103 0), [], []⟩, ⟨some (67, none, .ptr 17103 0), [], []⟩, ⟨some (68, none, .agg [i64 x2.Epoch, i64 x2.Seen, bo x2.Open, i64 x2.Stamp, i64 x2.Bad, .sl (x2.L.map c_Ver), i64 x2.Junk]), [], []⟩, ⟨some (69, none, .agg [i64 p0.Epoch, i64 p0.Seen, bo p0.Open, i64 p0.Stamp, i64 p0.Bad, .sl (p0.L.map c_Ver), i64 p0.Junk]), [], []⟩, ⟨some (70, none, .v (.slice none 0 0)), [], []⟩, ⟨some (71, none, .sl (x11.y0.map (c_L c_u8))), [], []⟩]) 0 [([], []), ([0], []), ([1], []), ([2], [17103]), ([], [17101]), ([4], []), ([5, 5, 4], [])] (by kernel_rfl) h (by kernel_rfl) ⟨ok_plain rfl (p_pure hτ (by kernel_rfl)), ok_plain rfl (p_pure hτ (by kernel_rfl)), ok_plain rfl (p_pure hτ (by kernel_rfl)), ok_plain rfl (p_pure hτ (by kernel_rfl)), ok_plain rfl (p_pure hτ (by kernel_rfl)), ok_plain rfl (p_call1 (ds0 := [.agg [i64 p0.Epoch, i64 p0.Seen, bo p0.Open, i64 p0.Stamp, i64 p0.Bad, .sl (p0.L.map c_Ver), i64 p0.Junk]]) fn42 (agent_Hail.ok p0 _ hq10) [] (by kernel_rfl) (by kernel_rfl) (by kernel_rfl)), ok_plain rfl (p_call1 (ds0 := [.v (.slice none 0 0)]) fn41 (agent_frames.ok [] _ hx11) [true] (by kernel_rfl) (by kernel_rfl) (by kernel_rfl)), trivial⟩ ?_
          intro a w ν h
          have h : St _ [(6, none, .ptr 17102 0), (68, none, .agg [i64 x2.Epoch, i64 x2.Seen, bo x2.Open, i64 x2.Stamp, i64 x2.Bad, .sl (x2.L.map c_Ver), i64 x2.Junk]), (71, none, .sl (x11.y0.map (c_L c_u8)))] [(17103, .blk 89 [i64 x2.Epoch, i64 x2.Seen, bo x2.Open, i64 x2.Stamp, i64 x2.Bad, .sl (x2.L.map c_Ver), i64 x2.Junk, i64 p2]), (17102, .blk 24 [i64 0, i64 0, bo false, i64 0, i64 0, .v (.slice none 0 0), i64 0]), (17101, .blk 24 [i64 p0.Epoch, i64 p0.Seen, bo p0.Open, i64 p0.Stamp, i64 p0.Bad, .sl (p0.L.map c_Ver), i64 p0.Junk])] _ w a ν := h.pickG [6, 68, 71] [17103, 17102, 17101] (by kernel_rfl) (by kernel_rfl) (by kernel_rfl)
          refine mid_list 7 (by kernel_rfl) (by kernel_rfl) ?_
          refine s_store hτ h (wanted_none rfl) rfl rfl rfl rfl rfl ?_
          intro a w ν h
          refine pures [0] hτ h rfl ?_
          intro a h
          refine k_end1 ?_
          refine t_then ?_
          refine wp_ret ?_
          cases hH
          exact r_ret hτ [] h rfl rfl rfl
        | o1 x12 =>
          refine k_any mixed h ?_
          intro w ν h
          obtain ⟨x13, hx13, hH⟩ := bnd hH
          have h : St _ [(3, none, .ptr 17101 0), (6, none, .ptr 17102 0), (8, none, .ptr 17103 0)] [(17103, .blk 89 [i64 x2.Epoch, i64 x2.Seen, bo x2.Open, i64 x2.Stamp, i64 x2.Bad, .sl (x2.L.map c_Ver), i64 x2.Junk, i64 p2]), (17102, .blk 24 [i64 0, i64 0, bo false, i64 0, i64 0, .v (.slice none 0 0), i64 0]), (17101, .blk 24 [i64 p0.Epoch, i64 p0.Seen, bo p0.Open, i64 p0.Stamp, i64 p0.Bad, .sl (p0.L.map c_Ver), i64 p0.Junk])] _ w a ν := h.pickG [3, 6, 8] [17103, 17102, 17101] (by kernel_rfl) (by kernel_rfl) (by kernel_rfl)
          refine mid_any (fs := [⟨some (65, none, .ptr 17103 0), [], []⟩, ⟨some (66, none, .ptr 17103 0), [], []⟩, ⟨some (67, none, .ptr 17103 0), [], []⟩, ⟨some (68, none, .agg [i64 x2.Epoch, i64 x2.Seen, bo x2.Open, i64 x2.Stamp, i64 x2.Bad, .sl (x2.L.map c_Ver), i64 x2.Junk]), [], []⟩, ⟨some (69, none, .agg [i64 p0.Epoch, i64 p0.Seen, bo p0.Open, i64 p0.Stamp, i64 p0.Bad, .sl (p0.L.map c_Ver), i64 p0.Junk]), [], []⟩, ⟨some (70, none, .sl (x12.map c_u8)), [], []⟩, ⟨some (71, none, .sl (x13.y0.map (c_L c_u8))), [], []⟩]) 0 [([], []), ([0], []), ([1], []), ([2], [17103]), ([], [17101]), ([4], []), ([5, 5, 4], [])] (by kernel_rfl) h (by kernel_rfl) ⟨ok_plain rfl (p_pure hτ (by kernel_rfl)), ok_plain rfl (p_pure hτ (by kernel_rfl)), ok_plain rfl (p_pure hτ (by kernel_rfl)), ok_plain rfl (p_pure hτ (by kernel_rfl)), ok_plain rfl (p_pure hτ (by kernel_rfl)), ok_plain rfl (p_call1 (ds0 := [.agg [i64 p0.Epoch, i64 p0.Seen, bo p0.Open, i64 p0.Stamp, i64 p0.Bad, .sl (p0.L.map c_Ver), i64 p0.Junk]]) fn42 (agent_Hail.ok p0 _ hq10) [] (by kernel_rfl) (by kernel_rfl) (by kernel_rfl)), ok_plain rfl (p_call1 (ds0 := [.sl (x12.map c_u8)]) fn41 (agent_frames.ok x12 _ hx13) [] (by kernel_rfl) (by kernel_rfl) (by kernel_rfl)), trivial⟩ ?_
          intro a w ν h
          have h : St _ [(6, none, .ptr 17102 0), (68, none, .agg [i64 x2.Epoch, i64 x2.Seen, bo x2.Open, i64 x2.Stamp, i64 x2.Bad, .sl (x2.L.map c_Ver), i64 x2.Junk]), (71, none, .sl (x13.y0.map (c_L c_u8)))] [(17103, .blk 89 [i64 x2.Epoch, i64 x2.Seen, bo x2.Open, i64 x2.Stamp, i64 x2.Bad, .sl (x2.L.map c_Ver), i64 x2.Junk, i64 p2]), (17102, .blk 24 [i64 0, i64 0, bo false, i64 0, i64 0, .v (.slice none 0 0), i64 0]), (17101, .blk 24 [i64 p0.Epoch, i64 p0.Seen, bo p0.Open, i64 p0.Stamp, i64 p0.Bad, .sl (p0.L.map c_Ver), i64 p0.Junk])] _ w a ν := h.pickG [6, 68, 71] [17103, 17102, 17101] (by kernel_rfl) (by kernel_rfl) (by kernel_rfl)
          refine mid_list 7 (by kernel_rfl) (by kernel_rfl) ?_
          refine s_store hτ h (wanted_none rfl) rfl rfl rfl rfl rfl ?_
          intro a w ν h
          refine pures [0] hτ h rfl ?_
          intro a h
          refine k_end1 ?_
          refine t_then ?_
          refine wp_ret ?_
          cases hH
          exact r_ret hτ [] h rfl rfl rfl
      · refine k_reg ?_
        refine pures [0, 0] hτ h rfl ?_
        intro a h
        refine k_end ?_
        refine k_ifH hH h rfl (fun hb hH => ?_) (fun hb hH => ?_)
        · refine k_reg ?_
          refine pures [0, 0, 0] hτ h rfl ?_
          intro a h
          obtain ⟨q14, hq14, hH⟩ := bnd hH
          cases q14 with
          | o0 x15 x16 x17 x18 x19 x20 x21 x22 =>
            refine s_call fn90 (((agent_worker_add.ok x4 (Worker.mk x2 p2) _ hq14).sw_ 45000 17103).sw_ 45900 17107) [17103] [17107] [] h (wanted_none rfl) rfl rfl rfl rfl rfl rfl ?_
            intro a w ν h
            refine k_end ?_
            refine k_reg1 ?_
            refine pures [0, 0, 0, 0, 0, 0] hτ h rfl ?_
            intro a h
            refine s_store hτ h (wanted_none rfl) rfl rfl rfl rfl rfl ?_
            intro a w ν h
            refine k_end1 ?_
            refine t_blk ?_
            refine t_then ?_
            refine k_seq ?_
            obtain ⟨q23, hq23, hH⟩ := bnd hH
            cases q23 with
            | o0 x24 =>
              refine k_any mixed h ?_
              intro w ν h
              have h : St _ [(6, none, .ptr 17102 0), (8, none, .ptr 17103 0)] [(17103, .blk 89 [i64 x15, i64 x4.Seq, bo x17, i64 x18, i64 x19, .own 17107, i64 x20, i64 x21]), (17107, .row 58 2 (x22.map c_Ver)), (17102, .blk 24 [i64 0, i64 0, bo false, i64 0, i64 0, .v (.slice none 0 0), i64 0])] _ w a ν := h.pickG [6, 8] [17103, 17107, 17102] (by kernel_rfl) (by kernel_rfl) (by kernel_rfl)
              refine mid_any (fs := [⟨some (85, none, .ptr 17103 0), [], []⟩, ⟨some (86, none, .ptr 17103 0), [], []⟩, ⟨some (87, none, .ptr 17103 0), [], []⟩, ⟨some (88, none, .ptr 17103 0), [], []⟩, ⟨some (89, none, i64 x15), [], []⟩, ⟨some (90, none, .ptr 17103 0), [], []⟩, ⟨some (91, none, .ptr 17103 0), [], []⟩, ⟨some (92, none, .ptr 17103 0), [], []⟩, ⟨some (93, none, .ptr 17103 1), [], []⟩, ⟨some (94, none, i64 x4.Seq), [], []⟩, ⟨some (95, none, .ptr 17103 0), [], []⟩, ⟨some (96, none, .ptr 17103 0), [], []⟩, ⟨some (97, none, .ptr 17103 0), [], []⟩, ⟨some (98, none, .ptr 17103 4), [], []⟩, ⟨some (99, none, i64 x19), [], []⟩]) 0 [([], []), ([0], []), ([1, 0], []), ([2, 0, 1], []), ([3, 0, 1, 2], [17103]), ([], []), ([5], []), ([6, 5], []), ([7, 5, 6], []), ([8, 5, 6, 7], [17103]), ([], []), ([10], []), ([11, 10], []), ([12, 10, 11], []), ([13, 10, 11, 12], [17103])] (by kernel_rfl) h (by kernel_rfl) ⟨ok_plain rfl (p_pure hτ (by kernel_rfl)), ok_plain rfl (p_pure hτ (by kernel_rfl)), ok_plain rfl (p_pure hτ (by kernel_rfl)), ok_plain rfl (p_pure hτ (by kernel_rfl)), ok_plain rfl (p_pure hτ (by kernel_rfl)), ok_plain rfl (p_pure hτ (by kernel_rfl)), ok_plain rfl (p_pure hτ (by kernel_rfl)), ok_plain rfl (p_pure hτ (by kernel_rfl)), ok_plain rfl (p_pure hτ (by kernel_rfl)), ok_plain rfl (p_pure hτ (by kernel_rfl)), ok_plain rfl (p_pure hτ (by kernel_rfl)), ok_plain rfl (p_pure hτ (by kernel_rfl)), ok_plain rfl (p_pure hτ (by kernel_rfl)), ok_plain rfl (p_pure hτ (by kernel_rfl)), ok_plain rfl (p_pure hτ (by kernel_rfl)), trivial⟩ ?_
              intro a w ν h
              have h : St _ [(6, none, .ptr 17102 0), (8, none, .ptr 17103 0), (89, none, i64 x15), (94, none, i64 x4.Seq), (99, none, i64 x19)] [(17103, .blk 89 [i64 x15, i64 x4.Seq, bo x17, i64 x18, i64 x19, .own 17107, i64 x20, i64 x21]), (17107, .row 58 2 (x22.map c_Ver)), (17102, .blk 24 [i64 0, i64 0, bo false, i64 0, i64 0, .v (.slice none 0 0), i64 0])] _ w a ν := h.pickG [6, 8, 89, 94, 99] [17103, 17107, 17102] (by kernel_rfl) (by kernel_rfl) (by kernel_rfl)
              refine mid_any (fs := [⟨some (100, none, .agg [i64 1, i64 x15, i64 x4.Seq, i64 x19, i64 0, i64 0, i64 0, i64 0, i64 0, i64 0]), [], []⟩, ⟨some (101, none, .tup [.v (.slice none 0 0), i64 x24]), [], []⟩, ⟨some (84, none, .tup [.v (.slice none 0 0), i64 x24]), [], []⟩, ⟨some (102, none, .v (.slice none 0 0)), [], []⟩, ⟨some (103, none, i64 x24), [], []⟩, ⟨some (13, none, .v (.slice none 0 0)), [], []⟩]) 15 [([], []), ([15], []), ([16], []), ([17], []), ([17], []), ([18, 18], [])] (by kernel_rfl) h (by kernel_rfl) ⟨ok_plain rfl (p_pure hτ (by kernel_rfl)), ok_plain rfl (p_call1 (ds0 := [.agg [i64 1, i64 x15, i64 x4.Seq, i64 x19, i64 0, i64 0, i64 0, i64 0, i64 0, i64 0]]) fn14 (frame_Seal.ok (Msg.mk 1 x15 x4.Seq x19 (Rule.mk (Prefix.mk 0 0) 0 0 (Action.mk 0 0))) _ hq23) [] (by kernel_rfl) (by kernel_rfl) (by kernel_rfl)), ok_plain rfl (p_pure hτ (by kernel_rfl)), ok_plain rfl (p_pure hτ (by kernel_rfl)), ok_plain rfl (p_pure hτ (by kernel_rfl)), ok_plain rfl (p_pure hτ (by kernel_rfl)), trivial⟩ ?_
              intro a w ν h
              have h : St _ [(6, none, .ptr 17102 0), (8, none, .ptr 17103 0), (13, none, .v (.slice none 0 0)), (103, none, i64 x24)] [(17103, .blk 89 [i64 x15, i64 x4.Seq, bo x17, i64 x18, i64 x19, .own 17107, i64 x20, i64 x21]), (17107, .row 58 2 (x22.map c_Ver)), (17102, .blk 24 [i64 0, i64 0, bo false, i64 0, i64 0, .v (.slice none 0 0), i64 0])] _ w a ν := h.pickG [6, 8, 13, 103] [17103, 17107, 17102] (by kernel_rfl) (by kernel_rfl) (by kernel_rfl)
              refine mid_list 21 (by kernel_rfl) (by kernel_rfl) ?_
              refine pures [0] hτ h rfl ?_
              intro a h
              refine k_end1 ?_
              refine t_then ?_
              refine k_seq ?_
              refine k_any mixed h ?_
              intro w ν h
              obtain ⟨x25, hx25, hH⟩ := bnd hH
              have h : St _ [(6, none, .ptr 17102 0), (8, none, .ptr 17103 0), (13, none, .v (.slice none 0 0))] [(17103, .blk 89 [i64 x15, i64 x4.Seq, bo x17, i64 x18, i64 x19, .own 17107, i64 x20, i64 x21]), (17107, .row 58 2 (x22.map c_Ver)), (17102, .blk 24 [i64 0, i64 0, bo false, i64 0, i64 0, .v (.slice none 0 0), i64 0])] _ w a ν := h.pickG [6, 8, 13] [17103, 17107, 17102] (by kernel_rfl) (by kernel_rfl) (by kernel_rfl)
              refine mid_any (fs := [⟨some (104, none, .ptr 17103 0), [], []⟩, ⟨some (105, none, .ptr 17103 0), [], []⟩, ⟨some (106, none, .ptr 17103 0), [], []⟩, ⟨some (107, none, .agg [i64 x15, i64 x4.Seq, bo x17, i64 x18, i64 x19, .own 17107, i64 x20]), [], []⟩, ⟨some (108, none, .v (.slice none 0 0)), [], []⟩, ⟨some (109, none, .sl (x25.y0.map (c_L c_u8))), [], []⟩]) 0 [([], []), ([0], []), ([1], []), ([2], [17103]), ([], []), ([4], [])] (by kernel_rfl) h (by kernel_rfl) ⟨ok_plain rfl (p_pure hτ (by kernel_rfl)), ok_plain rfl (p_pure hτ (by kernel_rfl)), ok_plain rfl (p_pure hτ (by kernel_rfl)), ok_plain rfl (p_pure hτ (by kernel_rfl)), ok_plain rfl (p_pure hτ (by kernel_rfl)), ok_plain rfl (p_call1 (ds0 := [.v (.slice none 0 0)]) fn41 (agent_frames.ok [] _ hx25) [true] (by kernel_rfl) (by kernel_rfl) (by kernel_rfl)), trivial⟩ ?_
              intro a w ν h
              have h : St _ [(6, none, .ptr 17102 0), (107, none, .agg [i64 x15, i64 x4.Seq, bo x17, i64 x18, i64 x19, .own 17107, i64 x20]), (109, none, .sl (x25.y0.map (c_L c_u8)))] [(17103, .blk 89 [i64 x15, i64 x4.Seq, bo x17, i64 x18, i64 x19, .own 17107, i64 x20, i64 x21]), (17107, .row 58 2 (x22.map c_Ver)), (17102, .blk 24 [i64 0, i64 0, bo false, i64 0, i64 0, .v (.slice none 0 0), i64 0])] _ w a ν := h.pickG [6, 107, 109] [17103, 17107, 17102] (by kernel_rfl) (by kernel_rfl) (by kernel_rfl)
              refine mid_list 6 (by kernel_rfl) (by kernel_rfl) ?_
              refine s_store hτ h (wanted_none rfl) rfl rfl rfl rfl rfl ?_
              intro a w ν h
              refine pures [0] hτ h rfl ?_
              intro a h
              refine k_end1 ?_
              refine t_then ?_
              refine wp_ret ?_
              have h := h.sw_ 17107 17900 rfl
              cases hH
              have h := h.pick_ [6, 7] [17900, 17102] rfl rfl rfl
              exact r_ret hτ [17900] h rfl rfl rfl
            | o1 x26 x27 =>
              refine k_any mixed h ?_
              intro w ν h
              have h : St _ [(6, none, .ptr 17102 0), (8, none, .ptr 17103 0)] [(17103, .blk 89 [i64 x15, i64 x4.Seq, bo x17, i64 x18, i64 x19, .own 17107, i64 x20, i64 x21]), (17107, .row 58 2 (x22.map c_Ver)), (17102, .blk 24 [i64 0, i64 0, bo false, i64 0, i64 0, .v (.slice none 0 0), i64 0])] _ w a ν := h.pickG [6, 8] [17103, 17107, 17102] (by kernel_rfl) (by kernel_rfl) (by kernel_rfl)
              refine mid_any (fs := [⟨some (85, none, .ptr 17103 0), [], []⟩, ⟨some (86, none, .ptr 17103 0), [], []⟩, ⟨some (87, none, .ptr 17103 0), [], []⟩, ⟨some (88, none, .ptr 17103 0), [], []⟩, ⟨some (89, none, i64 x15), [], []⟩, ⟨some (90, none, .ptr 17103 0), [], []⟩, ⟨some (91, none, .ptr 17103 0), [], []⟩, ⟨some (92, none, .ptr 17103 0), [], []⟩, ⟨some (93, none, .ptr 17103 1), [], []⟩, ⟨some (94, none, i64 x4.Seq), [], []⟩, ⟨some (95, none, .ptr 17103 0), [], []⟩, ⟨some (96, none, .ptr 17103 0), [], []⟩, ⟨some (97, none, .ptr 17103 0), [], []⟩, ⟨some (98, none, .ptr 17103 4), [], []⟩, ⟨some (99, none, i64 x19), [], []⟩]) 0 [([], []), ([0], []), ([1, 0], []), ([2, 0, 1], []), ([3, 0, 1, 2], [17103]), ([], []), ([5], []), ([6, 5], []), ([7, 5, 6], []), ([8, 5, 6, 7], [17103]), ([], []), ([10], []), ([11, 10], []), ([12, 10, 11], []), ([13, 10, 11, 12], [17103])] (by kernel_rfl) h (by kernel_rfl) ⟨ok_plain rfl (p_pure hτ (by kernel_rfl)), ok_plain rfl (p_pure hτ (by kernel_rfl)), ok_plain rfl (p_pure hτ (by kernel_rfl)), ok_plain rfl (p_pure hτ (by kernel_rfl)), ok_plain rfl (p_pure hτ (by kernel_rfl)), ok_plain rfl (p_pure hτ (by kernel_rfl)), ok_plain rfl (p_pure hτ (by kernel_rfl)), ok_plain rfl (p_pure hτ (by kernel_rfl)), ok_plain rfl (p_pure hτ (by kernel_rfl)), ok_plain rfl (p_pure hτ (by kernel_rfl)), ok_plain rfl (p_pure hτ (by kernel_rfl)), ok_plain rfl (p_pure hτ (by kernel_rfl)), ok_plain rfl (p_pure hτ (by kernel_rfl)), ok_plain rfl (p_pure hτ (by kernel_rfl)), ok_plain rfl (p_pure hτ (by kernel_rfl)), trivial⟩ ?_
              intro a w ν h
              have h : St _ [(6, none, .ptr 17102 0), (8, none, .ptr 17103 0), (89, none, i64 x15), (94, none, i64 x4.Seq), (99, none, i64 x19)] [(17103, .blk 89 [i64 x15, i64 x4.Seq, bo x17, i64 x18, i64 x19, .own 17107, i64 x20, i64 x21]), (17107, .row 58 2 (x22.map c_Ver)), (17102, .blk 24 [i64 0, i64 0, bo false, i64 0, i64 0, .v (.slice none 0 0), i64 0])] _ w a ν := h.pickG [6, 8, 89, 94, 99] [17103, 17107, 17102] (by kernel_rfl) (by kernel_rfl) (by kernel_rfl)
              refine mid_any (fs := [⟨some (100, none, .agg [i64 1, i64 x15, i64 x4.Seq, i64 x19, i64 0, i64 0, i64 0, i64 0, i64 0, i64 0]), [], []⟩, ⟨some (101, none, .tup [.sl (x26.map c_u8), i64 x27]), [], []⟩, ⟨some (84, none, .tup [.sl (x26.map c_u8), i64 x27]), [], []⟩, ⟨some (102, none, .sl (x26.map c_u8)), [], []⟩, ⟨some (103, none, i64 x27), [], []⟩, ⟨some (13, none, .sl (x26.map c_u8)), [], []⟩]) 15 [([], []), ([15], []), ([16], []), ([17], []), ([17], []), ([18, 18], [])] (by kernel_rfl) h (by kernel_rfl) ⟨ok_plain rfl (p_pure hτ (by kernel_rfl)), ok_plain rfl (p_call1 (ds0 := [.agg [i64 1, i64 x15, i64 x4.Seq, i64 x19, i64 0, i64 0, i64 0, i64 0, i64 0, i64 0]]) fn14 (frame_Seal.ok (Msg.mk 1 x15 x4.Seq x19 (Rule.mk (Prefix.mk 0 0) 0 0 (Action.mk 0 0))) _ hq23) [] (by kernel_rfl) (by kernel_rfl) (by kernel_rfl)), ok_plain rfl (p_pure hτ (by kernel_rfl)), ok_plain rfl (p_pure hτ (by kernel_rfl)), ok_plain rfl (p_pure hτ (by kernel_rfl)), ok_plain rfl (p_pure hτ (by kernel_rfl)), trivial⟩ ?_
              intro a w ν h
              have h : St _ [(6, none, .ptr 17102 0), (8, none, .ptr 17103 0), (13, none, .sl (x26.map c_u8)), (103, none, i64 x27)] [(17103, .blk 89 [i64 x15, i64 x4.Seq, bo x17, i64 x18, i64 x19, .own 17107, i64 x20, i64 x21]), (17107, .row 58 2 (x22.map c_Ver)), (17102, .blk 24 [i64 0, i64 0, bo false, i64 0, i64 0, .v (.slice none 0 0), i64 0])] _ w a ν := h.pickG [6, 8, 13, 103] [17103, 17107, 17102] (by kernel_rfl) (by kernel_rfl) (by kernel_rfl)
              refine mid_list 21 (by kernel_rfl) (by kernel_rfl) ?_
              refine pures [0] hτ h rfl ?_
              intro a h
              refine k_end1 ?_
              refine t_then ?_
              refine k_seq ?_
              refine k_any mixed h ?_
              intro w ν h
              obtain ⟨x28, hx28, hH⟩ := bnd hH
              have h : St _ [(6, none, .ptr 17102 0), (8, none, .ptr 17103 0), (13, none, .sl (x26.map c_u8))] [(17103, .blk 89 [i64 x15, i64 x4.Seq, bo x17, i64 x18, i64 x19, .own 17107, i64 x20, i64 x21]), (17107, .row 58 2 (x22.map c_Ver)), (17102, .blk 24 [i64 0, i64 0, bo false, i64 0, i64 0, .v (.slice none 0 0), i64 0])] _ w a ν := h.pickG [6, 8, 13] [17103, 17107, 17102] (by kernel_rfl) (by kernel_rfl) (by kernel_rfl)
              refine mid_any (fs := [⟨some (104, none, .ptr 17103 0), [], []⟩, ⟨some (105, none, .ptr 17103 0), [], []⟩, ⟨some (106, none, .ptr 17103 0), [], []⟩, ⟨some (107, none, .agg [i64 x15, i64 x4.Seq, bo x17, i64 x18, i64 x19, .own 17107, i64 x20]), [], []⟩, ⟨some (108, none, .sl (x26.map c_u8)), [], []⟩, ⟨some (109, none, .sl (x28.y0.map (c_L c_u8))), [], []⟩]) 0 [([], []), ([0], []), ([1], []), ([2], [17103]), ([], []), ([4], [])] (by kernel_rfl) h (by kernel_rfl) ⟨ok_plain rfl (p_pure hτ (by kernel_rfl)), ok_plain rfl (p_pure hτ (by kernel_rfl)), ok_plain rfl (p_pure hτ (by kernel_rfl)), ok_plain rfl (p_pure hτ (by kernel_rfl)), ok_plain rfl (p_pure hτ (by kernel_rfl)), ok_plain rfl (p_call1 (ds0 := [.sl (x26.map c_u8)]) fn41 (agent_frames.ok x26 _ hx28) [] (by kernel_rfl) (by kernel_rfl) (by kernel_rfl)), trivial⟩ ?_
              intro a w ν h
              have h : St _ [(6, none, .ptr 17102 0), (107, none, .agg [i64 x15, i64 x4.Seq, bo x17, i64 x18, i64 x19, .own 17107, i64 x20]), (109, none, .sl (x28.y0.map (c_L c_u8)))] [(17103, .blk 89 [i64 x15, i64 x4.Seq, bo x17, i64 x18, i64 x19, .own 17107, i64 x20, i64 x21]), (17107, .row 58 2 (x22.map c_Ver)), (17102, .blk 24 [i64 0, i64 0, bo false, i64 0, i64 0, .v (.slice none 0 0), i64 0])] _ w a ν := h.pickG [6, 107, 109] [17103, 17107, 17102] (by kernel_rfl) (by kernel_rfl) (by kernel_rfl)
              refine mid_list 6 (by kernel_rfl) (by kernel_rfl) ?_
              refine s_store hτ h (wanted_none rfl) rfl rfl rfl rfl rfl ?_
              intro a w ν h
              refine pures [0] hτ h rfl ?_
              intro a h
              refine k_end1 ?_
              refine t_then ?_
              refine wp_ret ?_
              have h := h.sw_ 17107 17900 rfl
              cases hH
              have h := h.pick_ [6, 7] [17900, 17102] rfl rfl rfl
              exact r_ret hτ [17900] h rfl rfl rfl
          | o1 x29 =>
            refine s_call fn90 ((agent_worker_add.ok x4 (Worker.mk x2 p2) _ hq14).sw_ 45000 17103) [17103] [] [] h (wanted_none rfl) rfl rfl rfl rfl rfl rfl ?_
            intro a w ν h
            refine k_end ?_
            refine k_reg1 ?_
            refine pures [0, 0, 0, 0, 0, 0] hτ h rfl ?_
            intro a h
            refine s_store hτ h (wanted_none rfl) rfl rfl rfl rfl rfl ?_
            intro a w ν h
            refine k_end1 ?_
            refine t_blk ?_
            refine t_then ?_
            refine k_seq ?_
            obtain ⟨q30, hq30, hH⟩ := bnd hH
            cases q30 with
            | o0 x31 =>
              refine k_any mixed h ?_
              intro w ν h
              have h : St _ [(6, none, .ptr 17102 0), (8, none, .ptr 17103 0)] [(17103, .blk 89 [i64 x29.Switch.Epoch, i64 x4.Seq, bo x29.Switch.Open, i64 x29.Switch.Stamp, i64 x29.Switch.Bad, .sl (x29.Switch.L.map c_Ver), i64 x29.Switch.Junk, i64 x29.room]), (17102, .blk 24 [i64 0, i64 0, bo false, i64 0, i64 0, .v (.slice none 0 0), i64 0])] _ w a ν := h.pickG [6, 8] [17103, 17102] (by kernel_rfl) (by kernel_rfl) (by kernel_rfl)
              refine mid_any (fs := [⟨some (85, none, .ptr 17103 0), [], []⟩, ⟨some (86, none, .ptr 17103 0), [], []⟩, ⟨some (87, none, .ptr 17103 0), [], []⟩, ⟨some (88, none, .ptr 17103 0), [], []⟩, ⟨some (89, none, i64 x29.Switch.Epoch), [], []⟩, ⟨some (90, none, .ptr 17103 0), [], []⟩, ⟨some (91, none, .ptr 17103 0), [], []⟩, ⟨some (92, none, .ptr 17103 0), [], []⟩, ⟨some (93, none, .ptr 17103 1), [], []⟩, ⟨some (94, none, i64 x4.Seq), [], []⟩, ⟨some (95, none, .ptr 17103 0), [], []⟩, ⟨some (96, none, .ptr 17103 0), [], []⟩, ⟨some (97, none, .ptr 17103 0), [], []⟩, ⟨some (98, none, .ptr 17103 4), [], []⟩, ⟨some (99, none, i64 x29.Switch.Bad), [], []⟩]) 0 [([], []), ([0], []), ([1, 0], []), ([2, 0, 1], []), ([3, 0, 1, 2], [17103]), ([], []), ([5], []), ([6, 5], []), ([7, 5, 6], []), ([8, 5, 6, 7], [17103]), ([], []), ([10], []), ([11, 10], []), ([12, 10, 11], []), ([13, 10, 11, 12], [17103])] (by kernel_rfl) h (by kernel_rfl) ⟨ok_plain rfl (p_pure hτ (by kernel_rfl)), ok_plain rfl (p_pure hτ (by kernel_rfl)), ok_plain rfl (p_pure hτ (by kernel_rfl)), ok_plain rfl (p_pure hτ (by kernel_rfl)), ok_plain rfl (p_pure hτ (by kernel_rfl)), ok_plain rfl (p_pure hτ (by kernel_rfl)), ok_plain rfl (p_pure hτ (by kernel_rfl)), ok_plain rfl (p_pure hτ (by kernel_rfl)), ok_plain rfl (p_pure hτ (by kernel_rfl)), ok_plain rfl (p_pure hτ (by kernel_rfl)), ok_plain rfl (p_pure hτ (by kernel_rfl)), ok_plain rfl (p_pure hτ (by kernel_rfl)), ok_plain rfl (p_pure hτ (by kernel_rfl)), ok_plain rfl (p_pure hτ (by kernel_rfl)), ok_plain rfl (p_pure hτ (by kernel_rfl)), trivial⟩ ?_
              intro a w ν h
              have h : St _ [(6, none, .ptr 17102 0), (8, none, .ptr 17103 0), (89, none, i64 x29.Switch.Epoch), (94, none, i64 x4.Seq), (99, none, i64 x29.Switch.Bad)] [(17103, .blk 89 [i64 x29.Switch.Epoch, i64 x4.Seq, bo x29.Switch.Open, i64 x29.Switch.Stamp, i64 x29.Switch.Bad, .sl (x29.Switch.L.map c_Ver), i64 x29.Switch.Junk, i64 x29.room]), (17102, .blk 24 [i64 0, i64 0, bo false, i64 0, i64 0, .v (.slice none 0 0), i64 0])] _ w a ν := h.pickG [6, 8, 89, 94, 99] [17103, 17102] (by kernel_rfl) (by kernel_rfl) (by kernel_rfl)
              refine mid_any (fs := [⟨some (100, none, .agg [i64 1, i64 x29.Switch.Epoch, i64 x4.Seq, i64 x29.Switch.Bad, i64 0, i64 0, i64 0, i64 0, i64 0, i64 0]), [], []⟩, ⟨some (101, none, .tup [.v (.slice none 0 0), i64 x31]), [], []⟩, ⟨some (84, none, .tup [.v (.slice none 0 0), i64 x31]), [], []⟩, ⟨some (102, none, .v (.slice none 0 0)), [], []⟩, ⟨some (103, none, i64 x31), [], []⟩, ⟨some (13, none, .v (.slice none 0 0)), [], []⟩]) 15 [([], []), ([15], []), ([16], []), ([17], []), ([17], []), ([18, 18], [])] (by kernel_rfl) h (by kernel_rfl) ⟨ok_plain rfl (p_pure hτ (by kernel_rfl)), ok_plain rfl (p_call1 (ds0 := [.agg [i64 1, i64 x29.Switch.Epoch, i64 x4.Seq, i64 x29.Switch.Bad, i64 0, i64 0, i64 0, i64 0, i64 0, i64 0]]) fn14 (frame_Seal.ok (Msg.mk 1 x29.Switch.Epoch x4.Seq x29.Switch.Bad (Rule.mk (Prefix.mk 0 0) 0 0 (Action.mk 0 0))) _ hq30) [] (by kernel_rfl) (by kernel_rfl) (by kernel_rfl)), ok_plain rfl (p_pure hτ (by kernel_rfl)), ok_plain rfl (p_pure hτ (by kernel_rfl)), ok_plain rfl (p_pure hτ (by kernel_rfl)), ok_plain rfl (p_pure hτ (by kernel_rfl)), trivial⟩ ?_
              intro a w ν h
              have h : St _ [(6, none, .ptr 17102 0), (8, none, .ptr 17103 0), (13, none, .v (.slice none 0 0)), (103, none, i64 x31)] [(17103, .blk 89 [i64 x29.Switch.Epoch, i64 x4.Seq, bo x29.Switch.Open, i64 x29.Switch.Stamp, i64 x29.Switch.Bad, .sl (x29.Switch.L.map c_Ver), i64 x29.Switch.Junk, i64 x29.room]), (17102, .blk 24 [i64 0, i64 0, bo false, i64 0, i64 0, .v (.slice none 0 0), i64 0])] _ w a ν := h.pickG [6, 8, 13, 103] [17103, 17102] (by kernel_rfl) (by kernel_rfl) (by kernel_rfl)
              refine mid_list 21 (by kernel_rfl) (by kernel_rfl) ?_
              refine pures [0] hτ h rfl ?_
              intro a h
              refine k_end1 ?_
              refine t_then ?_
              refine k_seq ?_
              refine k_any mixed h ?_
              intro w ν h
              obtain ⟨x32, hx32, hH⟩ := bnd hH
              have h : St _ [(6, none, .ptr 17102 0), (8, none, .ptr 17103 0), (13, none, .v (.slice none 0 0))] [(17103, .blk 89 [i64 x29.Switch.Epoch, i64 x4.Seq, bo x29.Switch.Open, i64 x29.Switch.Stamp, i64 x29.Switch.Bad, .sl (x29.Switch.L.map c_Ver), i64 x29.Switch.Junk, i64 x29.room]), (17102, .blk 24 [i64 0, i64 0, bo false, i64 0, i64 0, .v (.slice none 0 0), i64 0])] _ w a ν := h.pickG [6, 8, 13] [17103, 17102] (by kernel_rfl) (by kernel_rfl) (by kernel_rfl)
              refine mid_any (fs := [⟨some (104, none, .ptr 17103 0), [], []⟩, ⟨some (105, none, .ptr 17103 0), [], []⟩, ⟨some (106, none, .ptr 17103 0), [], []⟩, ⟨some (107, none, .agg [i64 x29.Switch.Epoch, i64 x4.Seq, bo x29.Switch.Open, i64 x29.Switch.Stamp, i64 x29.Switch.Bad, .sl (x29.Switch.L.map c_Ver), i64 x29.Switch.Junk]), [], []⟩, ⟨some (108, none, .v (.slice none 0 0)), [], []⟩, ⟨some (109, none, .sl (x32.y0.map (c_L c_u8))), [], []⟩]) 0 [([], []), ([0], []), ([1], []), ([2], [17103]), ([], []), ([4], [])] (by kernel_rfl) h (by kernel_rfl) ⟨ok_plain rfl (p_pure hτ (by kernel_rfl)), ok_plain rfl (p_pure hτ (by kernel_rfl)), ok_plain rfl (p_pure hτ (by kernel_rfl)), ok_plain rfl (p_pure hτ (by kernel_rfl)), ok_plain rfl (p_pure hτ (by kernel_rfl)), ok_plain rfl (p_call1 (ds0 := [.v (.slice none 0 0)]) fn41 (agent_frames.ok [] _ hx32) [true] (by kernel_rfl) (by kernel_rfl) (by kernel_rfl)), trivial⟩ ?_
              intro a w ν h
              have h : St _ [(6, none, .ptr 17102 0), (107, none, .agg [i64 x29.Switch.Epoch, i64 x4.Seq, bo x29.Switch.Open, i64 x29.Switch.Stamp, i64 x29.Switch.Bad, .sl (x29.Switch.L.map c_Ver), i64 x29.Switch.Junk]), (109, none, .sl (x32.y0.map (c_L c_u8)))] [(17103, .blk 89 [i64 x29.Switch.Epoch, i64 x4.Seq, bo x29.Switch.Open, i64 x29.Switch.Stamp, i64 x29.Switch.Bad, .sl (x29.Switch.L.map c_Ver), i64 x29.Switch.Junk, i64 x29.room]), (17102, .blk 24 [i64 0, i64 0, bo false, i64 0, i64 0, .v (.slice none 0 0), i64 0])] _ w a ν := h.pickG [6, 107, 109] [17103, 17102] (by kernel_rfl) (by kernel_rfl) (by kernel_rfl)
              refine mid_list 6 (by kernel_rfl) (by kernel_rfl) ?_
              refine s_store hτ h (wanted_none rfl) rfl rfl rfl rfl rfl ?_
              intro a w ν h
              refine pures [0] hτ h rfl ?_
              intro a h
              refine k_end1 ?_
              refine t_then ?_
              refine wp_ret ?_
              cases hH
              exact r_ret hτ [] h rfl rfl rfl
            | o1 x33 x34 =>
              refine k_any mixed h ?_
              intro w ν h
              have h : St _ [(6, none, .ptr 17102 0), (8, none, .ptr 17103 0)] [(17103, .blk 89 [i64 x29.Switch.Epoch, i64 x4.Seq, bo x29.Switch.Open, i64 x29.Switch.Stamp, i64 x29.Switch.Bad, .sl (x29.Switch.L.map c_Ver), i64 x29.Switch.Junk, i64 x29.room]), (17102, .blk 24 [i64 0, i64 0, bo false, i64 0, i64 0, .v (.slice none 0 0), i64 0])] _ w a ν := h.pickG [6, 8] [17103, 17102] (by kernel_rfl) (by kernel_rfl) (by kernel_rfl)
              refine mid_any (fs := [⟨some (85, none, .ptr 17103 0), [], []⟩, ⟨some (86, none, .ptr 17103 0), [], []⟩, ⟨some (87, none, .ptr 17103 0), [], []⟩, ⟨some (88, none, .ptr 17103 0), [], []⟩, ⟨some (89, none, i64 x29.Switch.Epoch), [], []⟩, ⟨some (90, none, .ptr 17103 0), [], []⟩, ⟨some (91, none, .ptr 17103 0), [], []⟩, ⟨some (92, none, .ptr 17103 0), [], []⟩, ⟨some (93, none, .ptr 17103 1), [], []⟩, ⟨some (94, none, i64 x4.Seq), [], []⟩, ⟨some (95, none, .ptr 17103 0), [], []⟩, ⟨some (96, none, .ptr 17103 0), [], []⟩, ⟨some (97, none, .ptr 17103 0), [], []⟩, ⟨some (98, none, .ptr 17103 4), [], []⟩, ⟨some (99, none, i64 x29.Switch.Bad), [], []⟩]) 0 [([], []), ([0], []), ([1, 0], []), ([2, 0, 1], []), ([3, 0, 1, 2], [17103]), ([], []), ([5], []), ([6, 5], []), ([7, 5, 6], []), ([8, 5, 6, 7], [17103]), ([], []), ([10], []), ([11, 10], []), ([12, 10, 11], []), ([13, 10, 11, 12], [17103])] (by kernel_rfl) h (by kernel_rfl) ⟨ok_plain rfl (p_pure hτ (by kernel_rfl)), ok_plain rfl (p_pure hτ (by kernel_rfl)), ok_plain rfl (p_pure hτ (by kernel_rfl)), ok_plain rfl (p_pure hτ (by kernel_rfl)), ok_plain rfl (p_pure hτ (by kernel_rfl)), ok_plain rfl (p_pure hτ (by kernel_rfl)), ok_plain rfl (p_pure hτ (by kernel_rfl)), ok_plain rfl (p_pure hτ (by kernel_rfl)), ok_plain rfl (p_pure hτ (by kernel_rfl)), ok_plain rfl (p_pure hτ (by kernel_rfl)), ok_plain rfl (p_pure hτ (by kernel_rfl)), ok_plain rfl (p_pure hτ (by kernel_rfl)), ok_plain rfl (p_pure hτ (by kernel_rfl)), ok_plain rfl (p_pure hτ (by kernel_rfl)), ok_plain rfl (p_pure hτ (by kernel_rfl)), trivial⟩ ?_
              intro a w ν h
              have h : St _ [(6, none, .ptr 17102 0), (8, none, .ptr 17103 0), (89, none, i64 x29.Switch.Epoch), (94, none, i64 x4.Seq), (99, none, i64 x29.Switch.Bad)] [(17103, .blk 89 [i64 x29.Switch.Epoch, i64 x4.Seq, bo x29.Switch.Open, i64 x29.Switch.Stamp, i64 x29.Switch.Bad, .sl (x29.Switch.L.map c_Ver), i64 x29.Switch.Junk, i64 x29.room]), (17102, .blk 24 [i64 0, i64 0, bo false, i64 0, i64 0, .v (.slice none 0 0), i64 0])] _ w a ν := h.pickG [6, 8, 89, 94, 99] [17103, 17102] (by kernel_rfl) (by kernel_rfl) (by kernel_rfl)
              refine mid_any (fs := [⟨some (100, none, .agg [i64 1, i64 x29.Switch.Epoch, i64 x4.Seq, i64 x29.Switch.Bad, i64 0, i64 0, i64 0, i64 0, i64 0, i64 0]), [], []⟩, ⟨some (101, none, .tup [.sl (x33.map c_u8), i64 x34]), [], []⟩, ⟨some (84, none, .tup [.sl (x33.map c_u8), i64 x34]), [], []⟩, ⟨some (102, none, .sl (x33.map c_u8)), [], []⟩, ⟨some (103, none, i64 x34), [], []⟩, ⟨some (13, none, .sl (x33.map c_u8)), [], []⟩]) 15 [([], []), ([15], []), ([16], []), ([17], []), ([17], []), ([18, 18], [])] (by kernel_rfl) h (by kernel_rfl) ⟨ok_plain rfl (p_pure hτ (by kernel_rfl)), ok_plain rfl (p_call1 (ds0 := [.agg [i64 1, i64 x29.Switch.Epoch, i64 x4.Seq, i64 x29.Switch.Bad, i64 0, i64 0, i64 0, i64 0, i64 0, i64 0]]) fn14 (frame_Seal.ok (Msg.mk 1 x29.Switch.Epoch x4.Seq x29.Switch.Bad (Rule.mk (Prefix.mk 0 0) 0 0 (Action.mk 0 0))) _ hq30) [] (by kernel_rfl) (by kernel_rfl) (by kernel_rfl)), ok_plain rfl (p_pure hτ (by kernel_rfl)), ok_plain rfl (p_pure hτ (by kernel_rfl)), ok_plain rfl (p_pure hτ (by kernel_rfl)), ok_plain rfl (p_pure hτ (by kernel_rfl)), trivial⟩ ?_
              intro a w ν h
              have h : St _ [(6, none, .ptr 17102 0), (8, none, .ptr 17103 0), (13, none, .sl (x33.map c_u8)), (103, none, i64 x34)] [(17103, .blk 89 [i64 x29.Switch.Epoch, i64 x4.Seq, bo x29.Switch.Open, i64 x29.Switch.Stamp, i64 x29.Switch.Bad, .sl (x29.Switch.L.map c_Ver), i64 x29.Switch.Junk, i64 x29.room]), (17102, .blk 24 [i64 0, i64 0, bo false, i64 0, i64 0, .v (.slice none 0 0), i64 0])] _ w a ν := h.pickG [6, 8, 13, 103] [17103, 17102] (by kernel_rfl) (by kernel_rfl) (by kernel_rfl)
              refine mid_list 21 (by kernel_rfl) (by kernel_rfl) ?_
              refine pures [0] hτ h rfl ?_
              intro a h
              refine k_end1 ?_
              refine t_then ?_
              refine k_seq ?_
              refine k_any mixed h ?_
              intro w ν h
              obtain ⟨x35, hx35, hH⟩ := bnd hH
              have h : St _ [(6, none, .ptr 17102 0), (8, none, .ptr 17103 0), (13, none, .sl (x33.map c_u8))] [(17103, .blk 89 [i64 x29.Switch.Epoch, i64 x4.Seq, bo x29.Switch.Open, i64 x29.Switch.Stamp, i64 x29.Switch.Bad, .sl (x29.Switch.L.map c_Ver), i64 x29.Switch.Junk, i64 x29.room]), (17102, .blk 24 [i64 0, i64 0, bo false, i64 0, i64 0, .v (.slice none 0 0), i64 0])] _ w a ν := h.pickG [6, 8, 13] [17103, 17102] (by kernel_rfl) (by kernel_rfl) (by kernel_rfl)
              refine mid_any (fs := [⟨some (104, none, .ptr 17103 0), [], []⟩, ⟨some (105, none, .ptr 17103 0), [], []⟩, ⟨some (106, none, .ptr 17103 0), [], []⟩, ⟨some (107, none, .agg [i64 x29.Switch.Epoch, i64 x4.Seq, bo x29.Switch.Open, i64 x29.Switch.Stamp, i64 x29.Switch.Bad, .sl (x29.Switch.L.map c_Ver), i64 x29.Switch.Junk]), [], []⟩, ⟨some (108, none, .sl (x33.map c_u8)), [], []⟩, ⟨some (109, none, .sl (x35.y0.map (c_L c_u8))), [], []⟩]) 0 [([], []), ([0], []), ([1], []), ([2], [17103]), ([], []), ([4], [])] (by kernel_rfl) h (by kernel_rfl) ⟨ok_plain rfl (p_pure hτ (by kernel_rfl)), ok_plain rfl (p_pure hτ (by kernel_rfl)), ok_plain rfl (p_pure hτ (by kernel_rfl)), ok_plain rfl (p_pure hτ (by kernel_rfl)), ok_plain rfl (p_pure hτ (by kernel_rfl)), ok_plain rfl (p_call1 (ds0 := [.sl (x33.map c_u8)]) fn41 (agent_frames.ok x33 _ hx35) [] (by kernel_rfl) (by kernel_rfl) (by kernel_rfl)), trivial⟩ ?_
              intro a w ν h
              have h : St _ [(6, none, .ptr 17102 0), (107, none, .agg [i64 x29.Switch.Epoch, i64 x4.Seq, bo x29.Switch.Open, i64 x29.Switch.Stamp, i64 x29.Switch.Bad, .sl (x29.Switch.L.map c_Ver), i64 x29.Switch.Junk]), (109, none, .sl (x35.y0.map (c_L c_u8)))] [(17103, .blk 89 [i64 x29.Switch.Epoch, i64 x4.Seq, bo x29.Switch.Open, i64 x29.Switch.Stamp, i64 x29.Switch.Bad, .sl (x29.Switch.L.map c_Ver), i64 x29.Switch.Junk, i64 x29.room]), (17102, .blk 24 [i64 0, i64 0, bo false, i64 0, i64 0, .v (.slice none 0 0), i64 0])] _ w a ν := h.pickG [6, 107, 109] [17103, 17102] (by kernel_rfl) (by kernel_rfl) (by kernel_rfl)
              refine mid_list 6 (by kernel_rfl) (by kernel_rfl) ?_
              refine s_store hτ h (wanted_none rfl) rfl rfl rfl rfl rfl ?_
              intro a w ν h
              refine pures [0] hτ h rfl ?_
              intro a h
              refine k_end1 ?_
              refine t_then ?_
              refine wp_ret ?_
              cases hH
              exact r_ret hτ [] h rfl rfl rfl
        · refine k_skip ?_
          refine t_blk ?_
          refine t_then ?_
          refine k_seq ?_
          obtain ⟨q36, hq36, hH⟩ := bnd hH
          cases q36 with
          | o0 x37 =>
            refine k_any mixed h ?_
            intro w ν h
            have h : St _ [(6, none, .ptr 17102 0), (8, none, .ptr 17103 0)] [(17103, .blk 89 [i64 x2.Epoch, i64 x2.Seen, bo x2.Open, i64 x2.Stamp, i64 x2.Bad, .sl (x2.L.map c_Ver), i64 x2.Junk, i64 p2]), (17102, .blk 24 [i64 0, i64 0, bo false, i64 0, i64 0, .v (.slice none 0 0), i64 0])] _ w a ν := h.pickG [6, 8] [17103, 17102] (by kernel_rfl) (by kernel_rfl) (by kernel_rfl)
            refine mid_any (fs := [⟨some (85, none, .ptr 17103 0), [], []⟩, ⟨some (86, none, .ptr 17103 0), [], []⟩, ⟨some (87, none, .ptr 17103 0), [], []⟩, ⟨some (88, none, .ptr 17103 0), [], []⟩, ⟨some (89, none, i64 x2.Epoch), [], []⟩, ⟨some (90, none, .ptr 17103 0), [], []⟩, ⟨some (91, none, .ptr 17103 0), [], []⟩, ⟨some (92, none, .ptr 17103 0), [], []⟩, ⟨some (93, none, .ptr 17103 1), [], []⟩, ⟨some (94, none, i64 x2.Seen), [], []⟩, ⟨some (95, none, .ptr 17103 0), [], []⟩, ⟨some (96, none, .ptr 17103 0), [], []⟩, ⟨some (97, none, .ptr 17103 0), [], []⟩, ⟨some (98, none, .ptr 17103 4), [], []⟩, ⟨some (99, none, i64 x2.Bad), [], []⟩]) 0 [([], []), ([0], []), ([1, 0], []), ([2, 0, 1], []), ([3, 0, 1, 2], [17103]), ([], []), ([5], []), ([6, 5], []), ([7, 5, 6], []), ([8, 5, 6, 7], [17103]), ([], []), ([10], []), ([11, 10], []), ([12, 10, 11], []), ([13, 10, 11, 12], [17103])] (by kernel_rfl) h (by kernel_rfl) ⟨ok_plain rfl (p_pure hτ (by kernel_rfl)), ok_plain rfl (p_pure hτ (by kernel_rfl)), ok_plain rfl (p_pure hτ (by kernel_rfl)), ok_plain rfl (p_pure hτ (by kernel_rfl)), ok_plain rfl (p_pure hτ (by kernel_rfl)), ok_plain rfl (p_pure hτ (by kernel_rfl)), ok_plain rfl (p_pure hτ (by kernel_rfl)), ok_plain rfl (p_pure hτ (by kernel_rfl)), ok_plain rfl (p_pure hτ (by kernel_rfl)), ok_plain rfl (p_pure hτ (by kernel_rfl)), ok_plain rfl (p_pure hτ (by kernel_rfl)), ok_plain rfl (p_pure hτ (by kernel_rfl)), ok_plain rfl (p_pure hτ (by kernel_rfl)), ok_plain rfl (p_pure hτ (by kernel_rfl)), ok_plain rfl (p_pure hτ (by kernel_rfl)), trivial⟩ ?_
            intro a w ν h
            have h : St _ [(6, none, .ptr 17102 0), (8, none, .ptr 17103 0), (89, none, i64 x2.Epoch), (94, none, i64 x2.Seen), (99, none, i64 x2.Bad)] [(17103, .blk 89 [i64 x2.Epoch, i64 x2.Seen, bo x2.Open, i64 x2.Stamp, i64 x2.Bad, .sl (x2.L.map c_Ver), i64 x2.Junk, i64 p2]), (17102, .blk 24 [i64 0, i64 0, bo false, i64 0, i64 0, .v (.slice none 0 0), i64 0])] _ w a ν := h.pickG [6, 8, 89, 94, 99] [17103, 17102] (by kernel_rfl) (by kernel_rfl) (by kernel_rfl)
            refine mid_any (fs := [⟨some (100, none, .agg [i64 1, i64 x2.Epoch, i64 x2.Seen, i64 x2.Bad, i64 0, i64 0, i64 0, i64 0, i64 0, i64 0]), [], []⟩, ⟨some (101, none, .tup [.v (.slice none 0 0), i64 x37]), [], []⟩, ⟨some (84, none, .tup [.v (.slice none 0 0), i64 x37]), [], []⟩, ⟨some (102, none, .v (.slice none 0 0)), [], []⟩, ⟨some (103, none, i64 x37), [], []⟩, ⟨some (13, none, .v (.slice none 0 0)), [], []⟩]) 15 [([], []), ([15], []), ([16], []), ([17], []), ([17], []), ([18, 18], [])] (by kernel_rfl) h (by kernel_rfl) ⟨ok_plain rfl (p_pure hτ (by kernel_rfl)), ok_plain rfl (p_call1 (ds0 := [.agg [i64 1, i64 x2.Epoch, i64 x2.Seen, i64 x2.Bad, i64 0, i64 0, i64 0, i64 0, i64 0, i64 0]]) fn14 (frame_Seal.ok (Msg.mk 1 x2.Epoch x2.Seen x2.Bad (Rule.mk (Prefix.mk 0 0) 0 0 (Action.mk 0 0))) _ hq36) [] (by kernel_rfl) (by kernel_rfl) (by kernel_rfl)), ok_plain rfl (p_pure hτ (by kernel_rfl)), ok_plain rfl (p_pure hτ (by kernel_rfl)), ok_plain rfl (p_pure hτ (by kernel_rfl)), ok_plain rfl (p_pure hτ (by kernel_rfl)), trivial⟩ ?_
            intro a w ν h
            have h : St _ [(6, none, .ptr 17102 0), (8, none, .ptr 17103 0), (13, none, .v (.slice none 0 0)), (103, none, i64 x37)] [(17103, .blk 89 [i64 x2.Epoch, i64 x2.Seen, bo x2.Open, i64 x2.Stamp, i64 x2.Bad, .sl (x2.L.map c_Ver), i64 x2.Junk, i64 p2]), (17102, .blk 24 [i64 0, i64 0, bo false, i64 0, i64 0, .v (.slice none 0 0), i64 0])] _ w a ν := h.pickG [6, 8, 13, 103] [17103, 17102] (by kernel_rfl) (by kernel_rfl) (by kernel_rfl)
            refine mid_list 21 (by kernel_rfl) (by kernel_rfl) ?_
            refine pures [0] hτ h rfl ?_
            intro a h
            refine k_end1 ?_
            refine t_then ?_
            refine k_seq ?_
            refine k_any mixed h ?_
            intro w ν h
            obtain ⟨x38, hx38, hH⟩ := bnd hH
            have h : St _ [(6, none, .ptr 17102 0), (8, none, .ptr 17103 0), (13, none, .v (.slice none 0 0))] [(17103, .blk 89 [i64 x2.Epoch, i64 x2.Seen, bo x2.Open, i64 x2.Stamp, i64 x2.Bad, .sl (x2.L.map c_Ver), i64 x2.Junk, i64 p2]), (17102, .blk 24 [i64 0, i64 0, bo false, i64 0, i64 0, .v (.slice none 0 0), i64 0])] _ w a ν := h.pickG [6, 8, 13] [17103, 17102] (by kernel_rfl) (by kernel_rfl) (by kernel_rfl)
            refine mid_any (fs := [⟨some (104, none, .ptr 17103 0), [], []⟩, ⟨some (105, none, .ptr 17103 0), [], []⟩, ⟨some (106, none, .ptr 17103 0), [], []⟩, ⟨some (107, none, .agg [i64 x2.Epoch, i64 x2.Seen, bo x2.Open, i64 x2.Stamp, i64 x2.Bad, .sl (x2.L.map c_Ver), i64 x2.Junk]), [], []⟩, ⟨some (108, none, .v (.slice none 0 0)), [], []⟩, ⟨some (109, none, .sl (x38.y0.map (c_L c_u8))), [], []⟩]) 0 [([], []), ([0], []), ([1], []), ([2], [17103]), ([], []), ([4], [])] (by kernel_rfl) h (by kernel_rfl) ⟨ok_plain rfl (p_pure hτ (by kernel_rfl)), ok_plain rfl (p_pure hτ (by kernel_rfl)), ok_plain rfl (p_pure hτ (by kernel_rfl)), ok_plain rfl (p_pure hτ (by kernel_rfl)), ok_plain rfl (p_pure hτ (by kernel_rfl)), ok_plain rfl (p_call1 (ds0 := [.v (.slice none 0 0)]) fn41 (agent_frames.ok [] _ hx38) [true] (by kernel_rfl) (by kernel_rfl) (by kernel_rfl)), trivial⟩ ?_
            intro a w ν h
            have h : St _ [(6, none, .ptr 17102 0), (107, none, .agg [i64 x2.Epoch, i64 x2.Seen, bo x2.Open, i64 x2.Stamp, i64 x2.Bad, .sl (x2.L.map c_Ver), i64 x2.Junk]), (109, none, .sl (x38.y0.map (c_L c_u8)))] [(17103, .blk 89 [i64 x2.Epoch, i64 x2.Seen, bo x2.Open, i64 x2.Stamp, i64 x2.Bad, .sl (x2.L.map c_Ver), i64 x2.Junk, i64 p2]), (17102, .blk 24 [i64 0, i64 0, bo false, i64 0, i64 0, .v (.slice none 0 0), i64 0])] _ w a ν := h.pickG [6, 107, 109] [17103, 17102] (by kernel_rfl) (by kernel_rfl) (by kernel_rfl)
            refine mid_list 6 (by kernel_rfl) (by kernel_rfl) ?_
            refine s_store hτ h (wanted_none rfl) rfl rfl rfl rfl rfl ?_
            intro a w ν h
            refine pures [0] hτ h rfl ?_
            intro a h
            refine k_end1 ?_
            refine t_then ?_
            refine wp_ret ?_
            cases hH
            exact r_ret hτ [] h rfl rfl rfl
          | o1 x39 x40 =>
            refine k_any mixed h ?_
            intro w ν h
            have h : St _ [(6, none, .ptr 17102 0), (8, none, .ptr 17103 0)] [(17103, .blk 89 [i64 x2.Epoch, i64 x2.Seen, bo x2.Open, i64 x2.Stamp, i64 x2.Bad, .sl (x2.L.map c_Ver), i64 x2.Junk, i64 p2]), (17102, .blk 24 [i64 0, i64 0, bo false, i64 0, i64 0, .v (.slice none 0 0), i64 0])] _ w a ν := h.pickG [6, 8] [17103, 17102] (by kernel_rfl) (by kernel_rfl) (by kernel_rfl)
            refine mid_any (fs := [⟨some (85, none, .ptr 17103 0), [], []⟩, ⟨some (86, none, .ptr 17103 0), [], []⟩, ⟨some (87, none, .ptr 17103 0), [], []⟩, ⟨some (88, none, .ptr 17103 0), [], []⟩, ⟨some (89, none, i64 x2.Epoch), [], []⟩, ⟨some (90, none, .ptr 17103 0), [], []⟩, ⟨some (91, none, .ptr 17103 0), [], []⟩, ⟨some (92, none, .ptr 17103 0), [], []⟩, ⟨some (93, none, .ptr 17103 1), [], []⟩, ⟨some (94, none, i64 x2.Seen), [], []⟩, ⟨some (95, none, .ptr 17103 0), [], []⟩, ⟨some (96, none, .ptr 17103 0), [], []⟩, ⟨some (97, none, .ptr 17103 0), [], []⟩, ⟨some (98, none, .ptr 17103 4), [], []⟩, ⟨some (99, none, i64 x2.Bad), [], []⟩]) 0 [([], []), ([0], []), ([1, 0], []), ([2, 0, 1], []), ([3, 0, 1, 2], [17103]), ([], []), ([5], []), ([6, 5], []), ([7, 5, 6], []), ([8, 5, 6, 7], [17103]), ([], []), ([10], []), ([11, 10], []), ([12, 10, 11], []), ([13, 10, 11, 12], [17103])] (by kernel_rfl) h (by kernel_rfl) ⟨ok_plain rfl (p_pure hτ (by kernel_rfl)), ok_plain rfl (p_pure hτ (by kernel_rfl)), ok_plain rfl (p_pure hτ (by kernel_rfl)), ok_plain rfl (p_pure hτ (by kernel_rfl)), ok_plain rfl (p_pure hτ (by kernel_rfl)), ok_plain rfl (p_pure hτ (by kernel_rfl)), ok_plain rfl (p_pure hτ (by kernel_rfl)), ok_plain rfl (p_pure hτ (by kernel_rfl)), ok_plain rfl (p_pure hτ (by kernel_rfl)), ok_plain rfl (p_pure hτ (by kernel_rfl)), ok_plain rfl (p_pure hτ (by kernel_rfl)), ok_plain rfl (p_pure hτ (by kernel_rfl)), ok_plain rfl (p_pure hτ (by kernel_rfl)), ok_plain rfl (p_pure hτ (by kernel_rfl)), ok_plain rfl (p_pure hτ (by kernel_rfl)), trivial⟩ ?_
            intro a w ν h
            have h : St _ [(6, none, .ptr 17102 0), (8, none, .ptr 17103 0), (89, none, i64 x2.Epoch), (94, none, i64 x2.Seen), (99, none, i64 x2.Bad)] [(17103, .blk 89 [i64 x2.Epoch, i64 x2.Seen, bo x2.Open, i64 x2.Stamp, i64 x2.Bad, .sl (x2.L.map c_Ver), i64 x2.Junk, i64 p2]), (17102, .blk 24 [i64 0, i64 0, bo false, i64 0, i64 0, .v (.slice none 0 0), i64 0])] _ w a ν := h.pickG [6, 8, 89, 94, 99] [17103, 17102] (by kernel_rfl) (by kernel_rfl) (by kernel_rfl)
            refine mid_any (fs := [⟨some (100, none, .agg [i64 1, i64 x2.Epoch, i64 x2.Seen, i64 x2.Bad, i64 0, i64 0, i64 0, i64 0, i64 0, i64 0]), [], []⟩, ⟨some (101, none, .tup [.sl (x39.map c_u8), i64 x40]), [], []⟩, ⟨some (84, none, .tup [.sl (x39.map c_u8), i64 x40]), [], []⟩, ⟨some (102, none, .sl (x39.map c_u8)), [], []⟩, ⟨some (103, none, i64 x40), [], []⟩, ⟨some (13, none, .sl (x39.map c_u8)), [], []⟩]) 15 [([], []), ([15], []), ([16], []), ([17], []), ([17], []), ([18, 18], [])] (by kernel_rfl) h (by kernel_rfl) ⟨ok_plain rfl (p_pure hτ (by kernel_rfl)), ok_plain rfl (p_call1 (ds0 := [.agg [i64 1, i64 x2.Epoch, i64 x2.Seen, i64 x2.Bad, i64 0, i64 0, i64 0, i64 0, i64 0, i64 0]]) fn14 (frame_Seal.ok (Msg.mk 1 x2.Epoch x2.Seen x2.Bad (Rule.mk (Prefix.mk 0 0) 0 0 (Action.mk 0 0))) _ hq36) [] (by kernel_rfl) (by kernel_rfl) (by kernel_rfl)), ok_plain rfl (p_pure hτ (by kernel_rfl)), ok_plain rfl (p_pure hτ (by kernel_rfl)), ok_plain rfl (p_pure hτ (by kernel_rfl)), ok_plain rfl (p_pure hτ (by kernel_rfl)), trivial⟩ ?_
            intro a w ν h
            have h : St _ [(6, none, .ptr 17102 0), (8, none, .ptr 17103 0), (13, none, .sl (x39.map c_u8)), (103, none, i64 x40)] [(17103, .blk 89 [i64 x2.Epoch, i64 x2.Seen, bo x2.Open, i64 x2.Stamp, i64 x2.Bad, .sl (x2.L.map c_Ver), i64 x2.Junk, i64 p2]), (17102, .blk 24 [i64 0, i64 0, bo false, i64 0, i64 0, .v (.slice none 0 0), i64 0])] _ w a ν := h.pickG [6, 8, 13, 103] [17103, 17102] (by kernel_rfl) (by kernel_rfl) (by kernel_rfl)
            refine mid_list 21 (by kernel_rfl) (by kernel_rfl) ?_
            refine pures [0] hτ h rfl ?_
            intro a h
            refine k_end1 ?_
            refine t_then ?_
            refine k_seq ?_
            refine k_any mixed h ?_
            intro w ν h
            obtain ⟨x41, hx41, hH⟩ := bnd hH
            have h : St _ [(6, none, .ptr 17102 0), (8, none, .ptr 17103 0), (13, none, .sl (x39.map c_u8))] [(17103, .blk 89 [i64 x2.Epoch, i64 x2.Seen, bo x2.Open, i64 x2.Stamp, i64 x2.Bad, .sl (x2.L.map c_Ver), i64 x2.Junk, i64 p2]), (17102, .blk 24 [i64 0, i64 0, bo false, i64 0, i64 0, .v (.slice none 0 0), i64 0])] _ w a ν := h.pickG [6, 8, 13] [17103, 17102] (by kernel_rfl) (by kernel_rfl) (by kernel_rfl)
            refine mid_any (fs := [⟨some (104, none, .ptr 17103 0), [], []⟩, ⟨some (105, none, .ptr 17103 0), [], []⟩, ⟨some (106, none, .ptr 17103 0), [], []⟩, ⟨some (107, none, .agg [i64 x2.Epoch, i64 x2.Seen, bo x2.Open, i64 x2.Stamp, i64 x2.Bad, .sl (x2.L.map c_Ver), i64 x2.Junk]), [], []⟩, ⟨some (108, none, .sl (x39.map c_u8)), [], []⟩, ⟨some (109, none, .sl (x41.y0.map (c_L c_u8))), [], []⟩]) 0 [([], []), ([0], []), ([1], []), ([2], [17103]), ([], []), ([4], [])] (by kernel_rfl) h (by kernel_rfl) ⟨ok_plain rfl (p_pure hτ (by kernel_rfl)), ok_plain rfl (p_pure hτ (by kernel_rfl)), ok_plain rfl (p_pure hτ (by kernel_rfl)), ok_plain rfl (p_pure hτ (by kernel_rfl)), ok_plain rfl (p_pure hτ (by kernel_rfl)), ok_plain rfl (p_call1 (ds0 := [.sl (x39.map c_u8)]) fn41 (agent_frames.ok x39 _ hx41) [] (by kernel_rfl) (by kernel_rfl) (by kernel_rfl)), trivial⟩ ?_
            intro a w ν h
            have h : St _ [(6, none, .ptr 17102 0), (107, none, .agg [i64 x2.Epoch, i64 x2.Seen, bo x2.Open, i64 x2.Stamp, i64 x2.Bad, .sl (x2.L.map c_Ver), i64 x2.Junk]), (109, none, .sl (x41.y0.map (c_L c_u8)))] [(17103, .blk 89 [i64 x2.Epoch, i64 x2.Seen, bo x2.Open, i64 x2.Stamp, i64 x2.Bad, .sl (x2.L.map c_Ver), i64 x2.Junk, i64 p2]), (17102, .blk 24 [i64 0, i64 0, bo false, i64 0, i64 0, .v (.slice none 0 0), i64 0])] _ w a ν := h.pickG [6, 107, 109] [17103, 17102] (by kernel_rfl) (by kernel_rfl) (by kernel_rfl)
            refine mid_list 6 (by kernel_rfl) (by kernel_rfl) ?_
            refine s_store hτ h (wanted_none rfl) rfl rfl rfl rfl rfl ?_
            intro a w ν h
            refine pures [0] hτ h rfl ?_
            intro a h
            refine k_end1 ?_
            refine t_then ?_
            refine wp_ret ?_
            cases hH
            exact r_ret hτ [] h rfl rfl rfl
  · rcases b_if hH with ⟨hk0_3, hH⟩ | ⟨hk0_3, hH⟩
    · refine k_any mixed h ?_
      intro w ν h
      obtain ⟨x42, hx42, hH⟩ := bnd hH
      have h : St _ [(3, none, .ptr 17101 0), (6, none, .ptr 17102 0), (8, none, .ptr 17103 0), (9, none, .ptr 17104 0), (10, none, i64 x5)] [(17104, .blk 32 [i64 x4.Kind, i64 x4.Epoch, i64 x4.Seq, i64 x4.Tag, i64 x4.R.P.Addr, i64 x4.R.P.Len, i64 x4.R.In, i64 x4.R.Prio, i64 x4.R.Act.Kind, i64 x4.R.Act.Port]), (17103, .blk 89 [i64 x2.Epoch, i64 x2.Seen, bo x2.Open, i64 x2.Stamp, i64 x2.Bad, .sl (x2.L.map c_Ver), i64 x2.Junk, i64 p2]), (17102, .blk 24 [i64 0, i64 0, bo false, i64 0, i64 0, .v (.slice none 0 0), i64 0]), (17101, .blk 24 [i64 p0.Epoch, i64 p0.Seen, bo p0.Open, i64 p0.Stamp, i64 p0.Bad, .sl (p0.L.map c_Ver), i64 p0.Junk])] _ w a ν := h.pickG [3, 6, 8, 9, 10] [17104, 17103, 17102, 17101] (by kernel_rfl) (by kernel_rfl) (by kernel_rfl)
      refine mid_any (fs := [⟨some (26, none, .own 17108), [], [(17108, .mp [(.int .i64 2, .v (.func (.func 90) #[] #[])), (.int .i64 3, .v (.func (.func 91) #[] #[])), (.int .i64 4, .v (.func (.func 92) #[] #[])), (.int .i64 5, .v (.func (.func 93) #[] #[]))])]⟩, ⟨some (27, none, .ptr 17104 0), [], []⟩, ⟨some (28, none, i64 x4.Kind), [], []⟩, ⟨some (29, none, .tup [.v (.func (.func 91) #[] #[]), bo true]), [], []⟩, ⟨some (25, none, .tup [.v (.func (.func 91) #[] #[]), bo true]), [], []⟩, ⟨some (30, none, .v (.func (.func 91) #[] #[])), [], []⟩, ⟨some (31, none, bo true), [], []⟩, ⟨some (11, none, .v (.func (.func 91) #[] #[])), [], []⟩]) 0 [([], []), ([], []), ([1], [17104]), ([0, 2], [17108]), ([3], []), ([4], []), ([4], []), ([5, 5], [])] (by kernel_rfl) h (by kernel_rfl) ⟨ok_plain rfl (p_callN (ds0 := []) fn39 ((agent_work.ok _ hx42).sw_ 41900 17108) [] (by kernel_rfl) (by kernel_rfl) (by kernel_rfl) (by kernel_rfl)), ok_plain rfl (p_pure hτ (by kernel_rfl)), ok_plain rfl (p_pure hτ (by kernel_rfl)), ok_plain rfl (p_of0 rfl fun w a ν X hO hF hg => e_lkp1 mapT92 hF hO hg rfl rfl (by simp [lookI, hk0_2, hk0_3]; rfl)), ok_plain rfl (p_pure hτ (by kernel_rfl)), ok_plain rfl (p_pure hτ (by kernel_rfl)), ok_plain rfl (p_pure hτ (by kernel_rfl)), ok_plain rfl (p_pure hτ (by kernel_rfl)), trivial⟩ ?_
      intro a w ν h
      have h : St _ [(3, none, .ptr 17101 0), (6, none, .ptr 17102 0), (8, none, .ptr 17103 0), (9, none, .ptr 17104 0), (10, none, i64 x5), (11, none, .v (.func (.func 91) #[] #[])), (31, none, bo true)] [(17108, .mp [(.int .i64 2, .v (.func (.func 90) #[] #[])), (.int .i64 3, .v (.func (.func 91) #[] #[])), (.int .i64 4, .v (.func (.func 92) #[] #[])), (.int .i64 5, .v (.func (.func 93) #[] #[]))]), (17104, .blk 32 [i64 x4.Kind, i64 x4.Epoch, i64 x4.Seq, i64 x4.Tag, i64 x4.R.P.Addr, i64 x4.R.P.Len, i64 x4.R.In, i64 x4.R.Prio, i64 x4.R.Act.Kind, i64 x4.R.Act.Port]), (17103, .blk 89 [i64 x2.Epoch, i64 x2.Seen, bo x2.Open, i64 x2.Stamp, i64 x2.Bad, .sl (x2.L.map c_Ver), i64 x2.Junk, i64 p2]), (17102, .blk 24 [i64 0, i64 0, bo false, i64 0, i64 0, .v (.slice none 0 0), i64 0]), (17101, .blk 24 [i64 p0.Epoch, i64 p0.Seen, bo p0.Open, i64 p0.Stamp, i64 p0.Bad, .sl (p0.L.map c_Ver), i64 p0.Junk])] _ w a ν := h.pickG [3, 6, 8, 9, 10, 11, 31] [17108, 17104, 17103, 17102, 17101] (by kernel_rfl) (by kernel_rfl) (by kernel_rfl)
      refine mid_list 8 (by kernel_rfl) (by kernel_rfl) ?_
      refine pures [0] hτ h rfl ?_
      intro a h
      refine k_end1 ?_
      refine t_then ?_
      refine k_seq ?_
      refine k_reg ?_
      refine pures [0, 0, 0, 1, 1, 0] hτ h rfl ?_
      intro a h
      refine k_end ?_
      refine k_ifH hH h rfl (fun hb hH => ?_) (fun hb hH => ?_)
      · refine k_reg ?_
        refine pures [0, 0, 0, 0, 0, 0, 0, 0, 0] hτ h rfl ?_
        intro a h
        refine s_store hτ h (wanted_none rfl) rfl rfl rfl rfl rfl ?_
        intro a w ν h
        refine k_end ?_
        refine k_reg ?_
        refine pures [0, 0, 0, 0] hτ h rfl ?_
        intro a h
        refine s_store hτ h (wanted_none rfl) rfl rfl rfl rfl rfl ?_
        intro a w ν h
        refine pures [0] hτ h rfl ?_
        intro a h
        refine k_end ?_
        refine wp_ret ?_
        cases hH
        exact r_ret hτ [] h rfl rfl rfl
      · refine k_skip ?_
        refine t_then ?_
        refine k_seq ?_
        refine k_seq ?_
        refine k_any mixed h ?_
        intro w ν h
        have h : St _ [(3, none, .ptr 17101 0), (6, none, .ptr 17102 0), (8, none, .ptr 17103 0), (9, none, .ptr 17104 0), (11, none, .v (.func (.func 91) #[] #[]))] [(17104, .blk 32 [i64 x4.Kind, i64 x4.Epoch, i64 x4.Seq, i64 x4.Tag, i64 x4.R.P.Addr, i64 x4.R.P.Len, i64 x4.R.In, i64 x4.R.Prio, i64 x4.R.Act.Kind, i64 x4.R.Act.Port]), (17103, .blk 89 [i64 x2.Epoch, i64 x2.Seen, bo x2.Open, i64 x2.Stamp, i64 x2.Bad, .sl (x2.L.map c_Ver), i64 x2.Junk, i64 p2]), (17102, .blk 24 [i64 0, i64 0, bo false, i64 0, i64 0, .v (.slice none 0 0), i64 0]), (17101, .blk 24 [i64 p0.Epoch, i64 p0.Seen, bo p0.Open, i64 p0.Stamp, i64 p0.Bad, .sl (p0.L.map c_Ver), i64 p0.Junk])] _ w a ν := h.pickG [3, 6, 8, 9, 11] [17104, 17103, 17102, 17101] (by kernel_rfl) (by kernel_rfl) (by kernel_rfl)
        refine mid_any (fs := [⟨some (51, none, .ptr 17103 0), [], []⟩, ⟨some (52, none, .ptr 17103 0), [], []⟩, ⟨some (53, none, .ptr 17103 0), [], []⟩, ⟨some (54, none, .ptr 17103 0), [], []⟩, ⟨some (55, none, i64 x2.Epoch), [], []⟩, ⟨some (56, none, .ptr 17103 0), [], []⟩, ⟨some (57, none, .ptr 17103 0), [], []⟩, ⟨some (58, none, .ptr 17103 0), [], []⟩, ⟨some (59, none, .ptr 17103 1), [], []⟩, ⟨some (60, none, i64 x2.Seen), [], []⟩, ⟨some (61, none, .agg [i64 x4.Kind, i64 x4.Epoch, i64 x4.Seq, i64 x4.Tag, i64 x4.R.P.Addr, i64 x4.R.P.Len, i64 x4.R.In, i64 x4.R.Prio, i64 x4.R.Act.Kind, i64 x4.R.Act.Port]), [], []⟩]) 0 [([], []), ([0], []), ([1, 0], []), ([2, 0, 1], []), ([3, 0, 1, 2], [17103]), ([], []), ([5], []), ([6, 5], []), ([7, 5, 6], []), ([8, 5, 6, 7], [17103]), ([], [17104])] (by kernel_rfl) h (by kernel_rfl) ⟨ok_plain rfl (p_pure hτ (by kernel_rfl)), ok_plain rfl (p_pure hτ (by kernel_rfl)), ok_plain rfl (p_pure hτ (by kernel_rfl)), ok_plain rfl (p_pure hτ (by kernel_rfl)), ok_plain rfl (p_pure hτ (by kernel_rfl)), ok_plain rfl (p_pure hτ (by kernel_rfl)), ok_plain rfl (p_pure hτ (by kernel_rfl)), ok_plain rfl (p_pure hτ (by kernel_rfl)), ok_plain rfl (p_pure hτ (by kernel_rfl)), ok_plain rfl (p_pure hτ (by kernel_rfl)), ok_plain rfl (p_pure hτ (by kernel_rfl)), trivial⟩ ?_
        intro a w ν h
        have h : St _ [(3, none, .ptr 17101 0), (6, none, .ptr 17102 0), (8, none, .ptr 17103 0), (9, none, .ptr 17104 0), (11, none, .v (.func (.func 91) #[] #[])), (55, none, i64 x2.Epoch), (60, none, i64 x2.Seen), (61, none, .agg [i64 x4.Kind, i64 x4.Epoch, i64 x4.Seq, i64 x4.Tag, i64 x4.R.P.Addr, i64 x4.R.P.Len, i64 x4.R.In, i64 x4.R.Prio, i64 x4.R.Act.Kind, i64 x4.R.Act.Port])] [(17104, .blk 32 [i64 x4.Kind, i64 x4.Epoch, i64 x4.Seq, i64 x4.Tag, i64 x4.R.P.Addr, i64 x4.R.P.Len, i64 x4.R.In, i64 x4.R.Prio, i64 x4.R.Act.Kind, i64 x4.R.Act.Port]), (17103, .blk 89 [i64 x2.Epoch, i64 x2.Seen, bo x2.Open, i64 x2.Stamp, i64 x2.Bad, .sl (x2.L.map c_Ver), i64 x2.Junk, i64 p2]), (17102, .blk 24 [i64 0, i64 0, bo false, i64 0, i64 0, .v (.slice none 0 0), i64 0]), (17101, .blk 24 [i64 p0.Epoch, i64 p0.Seen, bo p0.Open, i64 p0.Stamp, i64 p0.Bad, .sl (p0.L.map c_Ver), i64 p0.Junk])] _ w a ν := h.pickG [3, 6, 8, 9, 11, 55, 60, 61] [17104, 17103, 17102, 17101] (by kernel_rfl) (by kernel_rfl) (by kernel_rfl)
        refine mid_list 11 (by kernel_rfl) (by kernel_rfl) ?_
        obtain ⟨q43, hq43, hH⟩ := bnd hH
        obtain ⟨x44⟩ := q43
        refine s_call1 fn40 (sess_Take.ok x2.Epoch x2.Seen x4 _ hq43) [] h (wanted_none rfl) rfl rfl rfl rfl rfl ?_
        intro a w ν h
        refine k_end1 ?_
        refine t_then ?_
        refine k_blk ?_
        refine k_reg ?_
        refine pures [0, 0] hτ h rfl ?_
        intro a h
        refine k_end ?_
        refine k_ifH hH h rfl (fun hb hH => ?_) (fun hb hH => ?_)
        · refine k_seq ?_
          obtain ⟨q45, hq45, hH⟩ := bnd hH
          cases q45 with
          | o0 =>
            refine k_any mixed h ?_
            intro w ν h
            obtain ⟨x46, hx46, hH⟩ := bnd hH
            have h : St _ [(3, none, .ptr 17101 0), (6, none, .ptr 17102 0), (8, none, .ptr 17103 0)] [(17103, .blk 89 [i64 x2.Epoch, i64 x2.Seen, bo x2.Open, i64 x2.Stamp, i64 x2.Bad, .sl (x2.L.map c_Ver), i64 x2.Junk, i64 p2]), (17102, .blk 24 [i64 0, i64 0, bo false, i64 0, i64 0, .v (.slice none 0 0), i64 0]), (17101, .blk 24 [i64 p0.Epoch, i64 p0.Seen, bo p0.Open, i64 p0.Stamp, i64 p0.Bad, .sl (p0.L.map c_Ver), i64 p0.Junk])] _ w a ν := h.pickG [3, 6, 8] [17103, 17102, 17101] (by kernel_rfl) (by kernel_rfl) (by kernel_rfl)
            refine mid_any (fs := [⟨some (65, none, .ptr 17103 0), [], []⟩, ⟨some (66, none, .ptr 17103 0), [], []⟩, ⟨some (67, none, .ptr 17103 0), [], []⟩, ⟨some (68, none, .agg [i64 x2.Epoch, i64 x2.Seen, bo x2.Open, i64 x2.Stamp, i64 x2.Bad, .sl (x2.L.map c_Ver), i64 x2.Junk]), [], []⟩, ⟨some (69, none, .agg [i64 p0.Epoch, i64 p0.Seen, bo p0.Open, i64 p0.Stamp, i64 p0.Bad, .sl (p0.L.map c_Ver), i64 p0.Junk]), [], []⟩, ⟨some (70, none, .v (.slice none 0 0)), [], []⟩, ⟨some (71, none, .sl (x46.y0.map (c_L c_u8))), [], []⟩]) 0 [([], []), ([0], []), ([1], []), ([2], [17103]), ([], [17101]), ([4], []), ([5, 5, 4], [])] (by kernel_rfl) h (by kernel_rfl) ⟨ok_plain rfl (p_pure hτ (by kernel_rfl)), ok_plain rfl (p_pure hτ (by kernel_rfl)), ok_plain rfl (p_pure hτ (by kernel_rfl)), ok_plain rfl (p_pure hτ (by kernel_rfl)), ok_plain rfl (p_pure hτ (by kernel_rfl)), ok_plain rfl (p_call1 (ds0 := [.agg [i64 p0.Epoch, i64 p0.Seen, bo p0.Open, i64 p0.Stamp, i64 p0.Bad, .sl (p0.L.map c_Ver), i64 p0.Junk]]) fn42 (agent_Hail.ok p0 _ hq45) [] (by kernel_rfl) (by kernel_rfl) (by kernel_rfl)), ok_plain rfl (p_call1 (ds0 := [.v (.slice none 0 0)]) fn41 (agent_frames.ok [] _ hx46) [true] (by kernel_rfl) (by kernel_rfl) (by kernel_rfl)), trivial⟩ ?_
            intro a w ν h
            have h : St _ [(6, none, .ptr 17102 0), (68, none, .agg [i64 x2.Epoch, i64 x2.Seen, bo x2.Open, i64 x2.Stamp, i64 x2.Bad, .sl (x2.L.map c_Ver), i64 x2.Junk]), (71, none, .sl (x46.y0.map (c_L c_u8)))] [(17103, .blk 89 [i64 x2.Epoch, i64 x2.Seen, bo x2.Open, i64 x2.Stamp, i64 x2.Bad, .sl (x2.L.map c_Ver), i64 x2.Junk, i64 p2]), (17102, .blk 24 [i64 0, i64 0, bo false, i64 0, i64 0, .v (.slice none 0 0), i64 0]), (17101, .blk 24 [i64 p0.Epoch, i64 p0.Seen, bo p0.Open, i64 p0.Stamp, i64 p0.Bad, .sl (p0.L.map c_Ver), i64 p0.Junk])] _ w a ν := h.pickG [6, 68, 71] [17103, 17102, 17101] (by kernel_rfl) (by kernel_rfl) (by kernel_rfl)
            refine mid_list 7 (by kernel_rfl) (by kernel_rfl) ?_
            refine s_store hτ h (wanted_none rfl) rfl rfl rfl rfl rfl ?_
            intro a w ν h
            refine pures [0] hτ h rfl ?_
            intro a h
            refine k_end1 ?_
            refine t_then ?_
            refine wp_ret ?_
            cases hH
            exact r_ret hτ [] h rfl rfl rfl
          | o1 x47 =>
            refine k_any mixed h ?_
            intro w ν h
            obtain ⟨x48, hx48, hH⟩ := bnd hH
            have h : St _ [(3, none, .ptr 17101 0), (6, none, .ptr 17102 0), (8, none, .ptr 17103 0)] [(17103, .blk 89 [i64 x2.Epoch, i64 x2.Seen, bo x2.Open, i64 x2.Stamp, i64 x2.Bad, .sl (x2.L.map c_Ver), i64 x2.Junk, i64 p2]), (17102, .blk 24 [i64 0, i64 0, bo false, i64 0, i64 0, .v (.slice none 0 0), i64 0]), (17101, .blk 24 [i64 p0.Epoch, i64 p0.Seen, bo p0.Open, i64 p0.Stamp, i64 p0.Bad, .sl (p0.L.map c_Ver), i64 p0.Junk])] _ w a ν := h.pickG [3, 6, 8] [17103, 17102, 17101] (by kernel_rfl) (by kernel_rfl) (by kernel_rfl)
            refine mid_any (fs := [⟨some (65, none, .ptr 17103 0), [], []⟩, ⟨some (66, none, .ptr 17103 0), [], []⟩, ⟨some (67, none, .ptr 17103 0), [], []⟩, ⟨some (68, none, .agg [i64 x2.Epoch, i64 x2.Seen, bo x2.Open, i64 x2.Stamp, i64 x2.Bad, .sl (x2.L.map c_Ver), i64 x2.Junk]), [], []⟩, ⟨some (69, none, .agg [i64 p0.Epoch, i64 p0.Seen, bo p0.Open, i64 p0.Stamp, i64 p0.Bad, .sl (p0.L.map c_Ver), i64 p0.Junk]), [], []⟩, ⟨some (70, none, .sl (x47.map c_u8)), [], []⟩, ⟨some (71, none, .sl (x48.y0.map (c_L c_u8))), [], []⟩]) 0 [([], []), ([0], []), ([1], []), ([2], [17103]), ([], [17101]), ([4], []), ([5, 5, 4], [])] (by kernel_rfl) h (by kernel_rfl) ⟨ok_plain rfl (p_pure hτ (by kernel_rfl)), ok_plain rfl (p_pure hτ (by kernel_rfl)), ok_plain rfl (p_pure hτ (by kernel_rfl)), ok_plain rfl (p_pure hτ (by kernel_rfl)), ok_plain rfl (p_pure hτ (by kernel_rfl)), ok_plain rfl (p_call1 (ds0 := [.agg [i64 p0.Epoch, i64 p0.Seen, bo p0.Open, i64 p0.Stamp, i64 p0.Bad, .sl (p0.L.map c_Ver), i64 p0.Junk]]) fn42 (agent_Hail.ok p0 _ hq45) [] (by kernel_rfl) (by kernel_rfl) (by kernel_rfl)), ok_plain rfl (p_call1 (ds0 := [.sl (x47.map c_u8)]) fn41 (agent_frames.ok x47 _ hx48) [] (by kernel_rfl) (by kernel_rfl) (by kernel_rfl)), trivial⟩ ?_
            intro a w ν h
            have h : St _ [(6, none, .ptr 17102 0), (68, none, .agg [i64 x2.Epoch, i64 x2.Seen, bo x2.Open, i64 x2.Stamp, i64 x2.Bad, .sl (x2.L.map c_Ver), i64 x2.Junk]), (71, none, .sl (x48.y0.map (c_L c_u8)))] [(17103, .blk 89 [i64 x2.Epoch, i64 x2.Seen, bo x2.Open, i64 x2.Stamp, i64 x2.Bad, .sl (x2.L.map c_Ver), i64 x2.Junk, i64 p2]), (17102, .blk 24 [i64 0, i64 0, bo false, i64 0, i64 0, .v (.slice none 0 0), i64 0]), (17101, .blk 24 [i64 p0.Epoch, i64 p0.Seen, bo p0.Open, i64 p0.Stamp, i64 p0.Bad, .sl (p0.L.map c_Ver), i64 p0.Junk])] _ w a ν := h.pickG [6, 68, 71] [17103, 17102, 17101] (by kernel_rfl) (by kernel_rfl) (by kernel_rfl)
            refine mid_list 7 (by kernel_rfl) (by kernel_rfl) ?_
            refine s_store hτ h (wanted_none rfl) rfl rfl rfl rfl rfl ?_
            intro a w ν h
            refine pures [0] hτ h rfl ?_
            intro a h
            refine k_end1 ?_
            refine t_then ?_
            refine wp_ret ?_
            cases hH
            exact r_ret hτ [] h rfl rfl rfl
        · refine k_reg ?_
          refine pures [0, 0] hτ h rfl ?_
          intro a h
          refine k_end ?_
          refine k_ifH hH h rfl (fun hb hH => ?_) (fun hb hH => ?_)
          · refine k_reg ?_
            refine pures [0, 0, 0] hτ h rfl ?_
            intro a h
            obtain ⟨q49, hq49, hH⟩ := bnd hH
            obtain ⟨x50⟩ := q49
            refine s_call fn91 ((agent_worker_flip.ok x4 (Worker.mk x2 p2) _ hq49).sw_ 56000 17103) [17103] [] [] h (wanted_none rfl) rfl rfl rfl rfl rfl rfl ?_
            intro a w ν h
            refine k_end ?_
            refine k_reg1 ?_
            refine pures [0, 0, 0, 0, 0, 0] hτ h rfl ?_
            intro a h
            refine s_store hτ h (wanted_none rfl) rfl rfl rfl rfl rfl ?_
            intro a w ν h
            refine k_end1 ?_
            refine t_blk ?_
            refine t_then ?_
            refine k_seq ?_
            obtain ⟨q51, hq51, hH⟩ := bnd hH
            cases q51 with
            | o0 x52 =>
              refine k_any mixed h ?_
              intro w ν h
              have h : St _ [(6, none, .ptr 17102 0), (8, none, .ptr 17103 0)] [(17103, .blk 89 [i64 x50.Switch.Epoch, i64 x4.Seq, bo x50.Switch.Open, i64 x50.Switch.Stamp, i64 x50.Switch.Bad, .sl (x50.Switch.L.map c_Ver), i64 x50.Switch.Junk, i64 x50.room]), (17102, .blk 24 [i64 0, i64 0, bo false, i64 0, i64 0, .v (.slice none 0 0), i64 0])] _ w a ν := h.pickG [6, 8] [17103, 17102] (by kernel_rfl) (by kernel_rfl) (by kernel_rfl)
              refine mid_any (fs := [⟨some (85, none, .ptr 17103 0), [], []⟩, ⟨some (86, none, .ptr 17103 0), [], []⟩, ⟨some (87, none, .ptr 17103 0), [], []⟩, ⟨some (88, none, .ptr 17103 0), [], []⟩, ⟨some (89, none, i64 x50.Switch.Epoch), [], []⟩, ⟨some (90, none, .ptr 17103 0), [], []⟩, ⟨some (91, none, .ptr 17103 0), [], []⟩, ⟨some (92, none, .ptr 17103 0), [], []⟩, ⟨some (93, none, .ptr 17103 1), [], []⟩, ⟨some (94, none, i64 x4.Seq), [], []⟩, ⟨some (95, none, .ptr 17103 0), [], []⟩, ⟨some (96, none, .ptr 17103 0), [], []⟩, ⟨some (97, none, .ptr 17103 0), [], []⟩, ⟨some (98, none, .ptr 17103 4), [], []⟩, ⟨some (99, none, i64 x50.Switch.Bad), [], []⟩]) 0 [([], []), ([0], []), ([1, 0], []), ([2, 0, 1], []), ([3, 0, 1, 2], [17103]), ([], []), ([5], []), ([6, 5], []), ([7, 5, 6], []), ([8, 5, 6, 7], [17103]), ([], []), ([10], []), ([11, 10], []), ([12, 10, 11], []), ([13, 10, 11, 12], [17103])] (by kernel_rfl) h (by kernel_rfl) ⟨ok_plain rfl (p_pure hτ (by kernel_rfl)), ok_plain rfl (p_pure hτ (by kernel_rfl)), ok_plain rfl (p_pure hτ (by kernel_rfl)), ok_plain rfl (p_pure hτ (by kernel_rfl)), ok_plain rfl (p_pure hτ (by kernel_rfl)), ok_plain rfl (p_pure hτ (by kernel_rfl)), ok_plain rfl (p_pure hτ (by kernel_rfl)), ok_plain rfl (p_pure hτ (by kernel_rfl)), ok_plain rfl (p_pure hτ (by kernel_rfl)), ok_plain rfl (p_pure hτ (by kernel_rfl)), ok_plain rfl (p_pure hτ (by kernel_rfl)), ok_plain rfl (p_pure hτ (by kernel_rfl)), ok_plain rfl (p_pure hτ (by kernel_rfl)), ok_plain rfl (p_pure hτ (by kernel_rfl)), ok_plain rfl (p_pure hτ (by kernel_rfl)), trivial⟩ ?_
              intro a w ν h
              have h : St _ [(6, none, .ptr 17102 0), (8, none, .ptr 17103 0), (89, none, i64 x50.Switch.Epoch), (94, none, i64 x4.Seq), (99, none, i64 x50.Switch.Bad)] [(17103, .blk 89 [i64 x50.Switch.Epoch, i64 x4.Seq, bo x50.Switch.Open, i64 x50.Switch.Stamp, i64 x50.Switch.Bad, .sl (x50.Switch.L.map c_Ver), i64 x50.Switch.Junk, i64 x50.room]), (17102, .blk 24 [i64 0, i64 0, bo false, i64 0, i64 0, .v (.slice none 0 0), i64 0])] _ w a ν := h.pickG [6, 8, 89, 94, 99] [17103, 17102] (by kernel_rfl) (by kernel_rfl) (by kernel_rfl)
              refine mid_any (fs := [⟨some (100, none, .agg [i64 1, i64 x50.Switch.Epoch, i64 x4.Seq, i64 x50.Switch.Bad, i64 0, i64 0, i64 0, i64 0, i64 0, i64 0]), [], []⟩, ⟨some (101, none, .tup [.v (.slice none 0 0), i64 x52]), [], []⟩, ⟨some (84, none, .tup [.v (.slice none 0 0), i64 x52]), [], []⟩, ⟨some (102, none, .v (.slice none 0 0)), [], []⟩, ⟨some (103, none, i64 x52), [], []⟩, ⟨some (13, none, .v (.slice none 0 0)), [], []⟩]) 15 [([], []), ([15], []), ([16], []), ([17], []), ([17], []), ([18, 18], [])] (by kernel_rfl) h (by kernel_rfl) ⟨ok_plain rfl (p_pure hτ (by kernel_rfl)), ok_plain rfl (p_call1 (ds0 := [.agg [i64 1, i64 x50.Switch.Epoch, i64 x4.Seq, i64 x50.Switch.Bad, i64 0, i64 0, i64 0, i64 0, i64 0, i64 0]]) fn14 (frame_Seal.ok (Msg.mk 1 x50.Switch.Epoch x4.Seq x50.Switch.Bad (Rule.mk (Prefix.mk 0 0) 0 0 (Action.mk 0 0))) _ hq51) [] (by kernel_rfl) (by kernel_rfl) (by kernel_rfl)), ok_plain rfl (p_pure hτ (by kernel_rfl)), ok_plain rfl (p_pure hτ (by kernel_rfl)), ok_plain rfl (p_pure hτ (by kernel_rfl)), ok_plain rfl (p_pure hτ (by kernel_rfl)), trivial⟩ ?_
              intro a w ν h
              have h : St _ [(6, none, .ptr 17102 0), (8, none, .ptr 17103 0), (13, none, .v (.slice none 0 0)), (103, none, i64 x52)] [(17103, .blk 89 [i64 x50.Switch.Epoch, i64 x4.Seq, bo x50.Switch.Open, i64 x50.Switch.Stamp, i64 x50.Switch.Bad, .sl (x50.Switch.L.map c_Ver), i64 x50.Switch.Junk, i64 x50.room]), (17102, .blk 24 [i64 0, i64 0, bo false, i64 0, i64 0, .v (.slice none 0 0), i64 0])] _ w a ν := h.pickG [6, 8, 13, 103] [17103, 17102] (by kernel_rfl) (by kernel_rfl) (by kernel_rfl)
              refine mid_list 21 (by kernel_rfl) (by kernel_rfl) ?_
              refine pures [0] hτ h rfl ?_
              intro a h
              refine k_end1 ?_
              refine t_then ?_
              refine k_seq ?_
              refine k_any mixed h ?_
              intro w ν h
              obtain ⟨x53, hx53, hH⟩ := bnd hH
              have h : St _ [(6, none, .ptr 17102 0), (8, none, .ptr 17103 0), (13, none, .v (.slice none 0 0))] [(17103, .blk 89 [i64 x50.Switch.Epoch, i64 x4.Seq, bo x50.Switch.Open, i64 x50.Switch.Stamp, i64 x50.Switch.Bad, .sl (x50.Switch.L.map c_Ver), i64 x50.Switch.Junk, i64 x50.room]), (17102, .blk 24 [i64 0, i64 0, bo false, i64 0, i64 0, .v (.slice none 0 0), i64 0])] _ w a ν := h.pickG [6, 8, 13] [17103, 17102] (by kernel_rfl) (by kernel_rfl) (by kernel_rfl)
              refine mid_any (fs := [⟨some (104, none, .ptr 17103 0), [], []⟩, ⟨some (105, none, .ptr 17103 0), [], []⟩, ⟨some (106, none, .ptr 17103 0), [], []⟩, ⟨some (107, none, .agg [i64 x50.Switch.Epoch, i64 x4.Seq, bo x50.Switch.Open, i64 x50.Switch.Stamp, i64 x50.Switch.Bad, .sl (x50.Switch.L.map c_Ver), i64 x50.Switch.Junk]), [], []⟩, ⟨some (108, none, .v (.slice none 0 0)), [], []⟩, ⟨some (109, none, .sl (x53.y0.map (c_L c_u8))), [], []⟩]) 0 [([], []), ([0], []), ([1], []), ([2], [17103]), ([], []), ([4], [])] (by kernel_rfl) h (by kernel_rfl) ⟨ok_plain rfl (p_pure hτ (by kernel_rfl)), ok_plain rfl (p_pure hτ (by kernel_rfl)), ok_plain rfl (p_pure hτ (by kernel_rfl)), ok_plain rfl (p_pure hτ (by kernel_rfl)), ok_plain rfl (p_pure hτ (by kernel_rfl)), ok_plain rfl (p_call1 (ds0 := [.v (.slice none 0 0)]) fn41 (agent_frames.ok [] _ hx53) [true] (by kernel_rfl) (by kernel_rfl) (by kernel_rfl)), trivial⟩ ?_
              intro a w ν h
              have h : St _ [(6, none, .ptr 17102 0), (107, none, .agg [i64 x50.Switch.Epoch, i64 x4.Seq, bo x50.Switch.Open, i64 x50.Switch.Stamp, i64 x50.Switch.Bad, .sl (x50.Switch.L.map c_Ver), i64 x50.Switch.Junk]), (109, none, .sl (x53.y0.map (c_L c_u8)))] [(17103, .blk 89 [i64 x50.Switch.Epoch, i64 x4.Seq, bo x50.Switch.Open, i64 x50.Switch.Stamp, i64 x50.Switch.Bad, .sl (x50.Switch.L.map c_Ver), i64 x50.Switch.Junk, i64 x50.room]), (17102, .blk 24 [i64 0, i64 0, bo false, i64 0, i64 0, .v (.slice none 0 0), i64 0])] _ w a ν := h.pickG [6, 107, 109] [17103, 17102] (by kernel_rfl) (by kernel_rfl) (by kernel_rfl)
              refine mid_list 6 (by kernel_rfl) (by kernel_rfl) ?_
              refine s_store hτ h (wanted_none rfl) rfl rfl rfl rfl rfl ?_
              intro a w ν h
              refine pures [0] hτ h rfl ?_
              intro a h
              refine k_end1 ?_
              refine t_then ?_
              refine wp_ret ?_
              cases hH
              exact r_ret hτ [] h rfl rfl rfl
            | o1 x54 x55 =>
              refine k_any mixed h ?_
              intro w ν h
              have h : St _ [(6, none, .ptr 17102 0), (8, none, .ptr 17103 0)] [(17103, .blk 89 [i64 x50.Switch.Epoch, i64 x4.Seq, bo x50.Switch.Open, i64 x50.Switch.Stamp, i64 x50.Switch.Bad, .sl (x50.Switch.L.map c_Ver), i64 x50.Switch.Junk, i64 x50.room]), (17102, .blk 24 [i64 0, i64 0, bo false, i64 0, i64 0, .v (.slice none 0 0), i64 0])] _ w a ν := h.pickG [6, 8] [17103, 17102] (by kernel_rfl) (by kernel_rfl) (by kernel_rfl)
              refine mid_any (fs := [⟨some (85, none, .ptr 17103 0), [], []⟩, ⟨some (86, none, .ptr 17103 0), [], []⟩, ⟨some (87, none, .ptr 17103 0), [], []⟩, ⟨some (88, none, .ptr 17103 0), [], []⟩, ⟨some (89, none, i64 x50.Switch.Epoch), [], []⟩, ⟨some (90, none, .ptr 17103 0), [], []⟩, ⟨some (91, none, .ptr 17103 0), [], []⟩, ⟨some (92, none, .ptr 17103 0), [], []⟩, ⟨some (93, none, .ptr 17103 1), [], []⟩, ⟨some (94, none, i64 x4.Seq), [], []⟩, ⟨some (95, none, .ptr 17103 0), [], []⟩, ⟨some (96, none, .ptr 17103 0), [], []⟩, ⟨some (97, none, .ptr 17103 0), [], []⟩, ⟨some (98, none, .ptr 17103 4), [], []⟩, ⟨some (99, none, i64 x50.Switch.Bad), [], []⟩]) 0 [([], []), ([0], []), ([1, 0], []), ([2, 0, 1], []), ([3, 0, 1, 2], [17103]), ([], []), ([5], []), ([6, 5], []), ([7, 5, 6], []), ([8, 5, 6, 7], [17103]), ([], []), ([10], []), ([11, 10], []), ([12, 10, 11], []), ([13, 10, 11, 12], [17103])] (by kernel_rfl) h (by kernel_rfl) ⟨ok_plain rfl (p_pure hτ (by kernel_rfl)), ok_plain rfl (p_pure hτ (by kernel_rfl)), ok_plain rfl (p_pure hτ (by kernel_rfl)), ok_plain rfl (p_pure hτ (by kernel_rfl)), ok_plain rfl (p_pure hτ (by kernel_rfl)), ok_plain rfl (p_pure hτ (by kernel_rfl)), ok_plain rfl (p_pure hτ (by kernel_rfl)), ok_plain rfl (p_pure hτ (by kernel_rfl)), ok_plain rfl (p_pure hτ (by kernel_rfl)), ok_plain rfl (p_pure hτ (by kernel_rfl)), ok_plain rfl (p_pure hτ (by kernel_rfl)), ok_plain rfl (p_pure hτ (by kernel_rfl)), ok_plain rfl (p_pure hτ (by kernel_rfl)), ok_plain rfl (p_pure hτ (by kernel_rfl)), ok_plain rfl (p_pure hτ (by kernel_rfl)), trivial⟩ ?_
              intro a w ν h
              have h : St _ [(6, none, .ptr 17102 0), (8, none, .ptr 17103 0), (89, none, i64 x50.Switch.Epoch), (94, none, i64 x4.Seq), (99, none, i64 x50.Switch.Bad)] [(17103, .blk 89 [i64 x50.Switch.Epoch, i64 x4.Seq, bo x50.Switch.Open, i64 x50.Switch.Stamp, i64 x50.Switch.Bad, .sl (x50.Switch.L.map c_Ver), i64 x50.Switch.Junk, i64 x50.room]), (17102, .blk 24 [i64 0, i64 0, bo false, i64 0, i64 0, .v (.slice none 0 0), i64 0])] _ w a ν := h.pickG [6, 8, 89, 94, 99] [17103, 17102] (by kernel_rfl) (by kernel_rfl) (by kernel_rfl)
              refine mid_any (fs := [⟨some (100, none, .agg [i64 1, i64 x50.Switch.Epoch, i64 x4.Seq, i64 x50.Switch.Bad, i64 0, i64 0, i64 0, i64 0, i64 0, i64 0]), [], []⟩, ⟨some (101, none, .tup [.sl (x54.map c_u8), i64 x55]), [], []⟩, ⟨some (84, none, .tup [.sl (x54.map c_u8), i64 x55]), [], []⟩, ⟨some (102, none, .sl (x54.map c_u8)), [], []⟩, ⟨some (103, none, i64 x55), [], []⟩, ⟨some (13, none, .sl (x54.map c_u8)), [], []⟩]) 15 [([], []), ([15], []), ([16], []), ([17], []), ([17], []), ([18, 18], [])] (by kernel_rfl) h (by kernel_rfl) ⟨ok_plain rfl (p_pure hτ (by kernel_rfl)), ok_plain rfl (p_call1 (ds0 := [.agg [i64 1, i64 x50.Switch.Epoch, i64 x4.Seq, i64 x50.Switch.Bad, i64 0, i64 0, i64 0, i64 0, i64 0, i64 0]]) fn14 (frame_Seal.ok (Msg.mk 1 x50.Switch.Epoch x4.Seq x50.Switch.Bad (Rule.mk (Prefix.mk 0 0) 0 0 (Action.mk 0 0))) _ hq51) [] (by kernel_rfl) (by kernel_rfl) (by kernel_rfl)), ok_plain rfl (p_pure hτ (by kernel_rfl)), ok_plain rfl (p_pure hτ (by kernel_rfl)), ok_plain rfl (p_pure hτ (by kernel_rfl)), ok_plain rfl (p_pure hτ (by kernel_rfl)), trivial⟩ ?_
              intro a w ν h
              have h : St _ [(6, none, .ptr 17102 0), (8, none, .ptr 17103 0), (13, none, .sl (x54.map c_u8)), (103, none, i64 x55)] [(17103, .blk 89 [i64 x50.Switch.Epoch, i64 x4.Seq, bo x50.Switch.Open, i64 x50.Switch.Stamp, i64 x50.Switch.Bad, .sl (x50.Switch.L.map c_Ver), i64 x50.Switch.Junk, i64 x50.room]), (17102, .blk 24 [i64 0, i64 0, bo false, i64 0, i64 0, .v (.slice none 0 0), i64 0])] _ w a ν := h.pickG [6, 8, 13, 103] [17103, 17102] (by kernel_rfl) (by kernel_rfl) (by kernel_rfl)
              refine mid_list 21 (by kernel_rfl) (by kernel_rfl) ?_
              refine pures [0] hτ h rfl ?_
              intro a h
              refine k_end1 ?_
              refine t_then ?_
              refine k_seq ?_
              refine k_any mixed h ?_
              intro w ν h
              obtain ⟨x56, hx56, hH⟩ := bnd hH
              have h : St _ [(6, none, .ptr 17102 0), (8, none, .ptr 17103 0), (13, none, .sl (x54.map c_u8))] [(17103, .blk 89 [i64 x50.Switch.Epoch, i64 x4.Seq, bo x50.Switch.Open, i64 x50.Switch.Stamp, i64 x50.Switch.Bad, .sl (x50.Switch.L.map c_Ver), i64 x50.Switch.Junk, i64 x50.room]), (17102, .blk 24 [i64 0, i64 0, bo false, i64 0, i64 0, .v (.slice none 0 0), i64 0])] _ w a ν := h.pickG [6, 8, 13] [17103, 17102] (by kernel_rfl) (by kernel_rfl) (by kernel_rfl)
              refine mid_any (fs := [⟨some (104, none, .ptr 17103 0), [], []⟩, ⟨some (105, none, .ptr 17103 0), [], []⟩, ⟨some (106, none, .ptr 17103 0), [], []⟩, ⟨some (107, none, .agg [i64 x50.Switch.Epoch, i64 x4.Seq, bo x50.Switch.Open, i64 x50.Switch.Stamp, i64 x50.Switch.Bad, .sl (x50.Switch.L.map c_Ver), i64 x50.Switch.Junk]), [], []⟩, ⟨some (108, none, .sl (x54.map c_u8)), [], []⟩, ⟨some (109, none, .sl (x56.y0.map (c_L c_u8))), [], []⟩]) 0 [([], []), ([0], []), ([1], []), ([2], [17103]), ([], []), ([4], [])] (by kernel_rfl) h (by kernel_rfl) ⟨ok_plain rfl (p_pure hτ (by kernel_rfl)), ok_plain rfl (p_pure hτ (by kernel_rfl)), ok_plain rfl (p_pure hτ (by kernel_rfl)), ok_plain rfl (p_pure hτ (by kernel_rfl)), ok_plain rfl (p_pure hτ (by kernel_rfl)), ok_plain rfl (p_call1 (ds0 := [.sl (x54.map c_u8)]) fn41 (agent_frames.ok x54 _ hx56) [] (by kernel_rfl) (by kernel_rfl) (by kernel_rfl)), trivial⟩ ?_
              intro a w ν h
              have h : St _ [(6, none, .ptr 17102 0), (107, none, .agg [i64 x50.Switch.Epoch, i64 x4.Seq, bo x50.Switch.Open, i64 x50.Switch.Stamp, i64 x50.Switch.Bad, .sl (x50.Switch.L.map c_Ver), i64 x50.Switch.Junk]), (109, none, .sl (x56.y0.map (c_L c_u8)))] [(17103, .blk 89 [i64 x50.Switch.Epoch, i64 x4.Seq, bo x50.Switch.Open, i64 x50.Switch.Stamp, i64 x50.Switch.Bad, .sl (x50.Switch.L.map c_Ver), i64 x50.Switch.Junk, i64 x50.room]), (17102, .blk 24 [i64 0, i64 0, bo false, i64 0, i64 0, .v (.slice none 0 0), i64 0])] _ w a ν := h.pickG [6, 107, 109] [17103, 17102] (by kernel_rfl) (by kernel_rfl) (by kernel_rfl)
              refine mid_list 6 (by kernel_rfl) (by kernel_rfl) ?_
              refine s_store hτ h (wanted_none rfl) rfl rfl rfl rfl rfl ?_
              intro a w ν h
              refine pures [0] hτ h rfl ?_
              intro a h
              refine k_end1 ?_
              refine t_then ?_
              refine wp_ret ?_
              cases hH
              exact r_ret hτ [] h rfl rfl rfl
          · refine k_skip ?_
            refine t_blk ?_
            refine t_then ?_
            refine k_seq ?_
            obtain ⟨q57, hq57, hH⟩ := bnd hH
            cases q57 with
            | o0 x58 =>
              refine k_any mixed h ?_
              intro w ν h
              have h : St _ [(6, none, .ptr 17102 0), (8, none, .ptr 17103 0)] [(17103, .blk 89 [i64 x2.Epoch, i64 x2.Seen, bo x2.Open, i64 x2.Stamp, i64 x2.Bad, .sl (x2.L.map c_Ver), i64 x2.Junk, i64 p2]), (17102, .blk 24 [i64 0, i64 0, bo false, i64 0, i64 0, .v (.slice none 0 0), i64 0])] _ w a ν := h.pickG [6, 8] [17103, 17102] (by kernel_rfl) (by kernel_rfl) (by kernel_rfl)
              refine mid_any (fs := [⟨some (85, none, .ptr 17103 0), [], []⟩, ⟨some (86, none, .ptr 17103 0), [], []⟩, ⟨some (87, none, .ptr 17103 0), [], []⟩, ⟨some (88, none, .ptr 17103 0), [], []⟩, ⟨some (89, none, i64 x2.Epoch), [], []⟩, ⟨some (90, none, .ptr 17103 0), [], []⟩, ⟨some (91, none, .ptr 17103 0), [], []⟩, ⟨some (92, none, .ptr 17103 0), [], []⟩, ⟨some (93, none, .ptr 17103 1), [], []⟩, ⟨some (94, none, i64 x2.Seen), [], []⟩, ⟨some (95, none, .ptr 17103 0), [], []⟩, ⟨some (96, none, .ptr 17103 0), [], []⟩, ⟨some (97, none, .ptr 17103 0), [], []⟩, ⟨some (98, none, .ptr 17103 4), [], []⟩, ⟨some (99, none, i64 x2.Bad), [], []⟩]) 0 [([], []), ([0], []), ([1, 0], []), ([2, 0, 1], []), ([3, 0, 1, 2], [17103]), ([], []), ([5], []), ([6, 5], []), ([7, 5, 6], []), ([8, 5, 6, 7], [17103]), ([], []), ([10], []), ([11, 10], []), ([12, 10, 11], []), ([13, 10, 11, 12], [17103])] (by kernel_rfl) h (by kernel_rfl) ⟨ok_plain rfl (p_pure hτ (by kernel_rfl)), ok_plain rfl (p_pure hτ (by kernel_rfl)), ok_plain rfl (p_pure hτ (by kernel_rfl)), ok_plain rfl (p_pure hτ (by kernel_rfl)), ok_plain rfl (p_pure hτ (by kernel_rfl)), ok_plain rfl (p_pure hτ (by kernel_rfl)), ok_plain rfl (p_pure hτ (by kernel_rfl)), ok_plain rfl (p_pure hτ (by kernel_rfl)), ok_plain rfl (p_pure hτ (by kernel_rfl)), ok_plain rfl (p_pure hτ (by kernel_rfl)), ok_plain rfl (p_pure hτ (by kernel_rfl)), ok_plain rfl (p_pure hτ (by kernel_rfl)), ok_plain rfl (p_pure hτ (by kernel_rfl)), ok_plain rfl (p_pure hτ (by kernel_rfl)), ok_plain rfl (p_pure hτ (by kernel_rfl)), trivial⟩ ?_
              intro a w ν h
              have h : St _ [(6, none, .ptr 17102 0), (8, none, .ptr 17103 0), (89, none, i64 x2.Epoch), (94, none, i64 x2.Seen), (99, none, i64 x2.Bad)] [(17103, .blk 89 [i64 x2.Epoch, i64 x2.Seen, bo x2.Open, i64 x2.Stamp, i64 x2.Bad, .sl (x2.L.map c_Ver), i64 x2.Junk, i64 p2]), (17102, .blk 24 [i64 0, i64 0, bo false, i64 0, i64 0, .v (.slice none 0 0), i64 0])] _ w a ν := h.pickG [6, 8, 89, 94, 99] [17103, 17102] (by kernel_rfl) (by kernel_rfl) (by kernel_rfl)
              refine mid_any (fs := [⟨some (100, none, .agg [i64 1, i64 x2.Epoch, i64 x2.Seen, i64 x2.Bad, i64 0, i64 0, i64 0, i64 0, i64 0, i64 0]), [], []⟩, ⟨some (101, none, .tup [.v (.slice none 0 0), i64 x58]), [], []⟩, ⟨some (84, none, .tup [.v (.slice none 0 0), i64 x58]), [], []⟩, ⟨some (102, none, .v (.slice none 0 0)), [], []⟩, ⟨some (103, none, i64 x58), [], []⟩, ⟨some (13, none, .v (.slice none 0 0)), [], []⟩]) 15 [([], []), ([15], []), ([16], []), ([17], []), ([17], []), ([18, 18], [])] (by kernel_rfl) h (by kernel_rfl) ⟨ok_plain rfl (p_pure hτ (by kernel_rfl)), ok_plain rfl (p_call1 (ds0 := [.agg [i64 1, i64 x2.Epoch, i64 x2.Seen, i64 x2.Bad, i64 0, i64 0, i64 0, i64 0, i64 0, i64 0]]) fn14 (frame_Seal.ok (Msg.mk 1 x2.Epoch x2.Seen x2.Bad (Rule.mk (Prefix.mk 0 0) 0 0 (Action.mk 0 0))) _ hq57) [] (by kernel_rfl) (by kernel_rfl) (by kernel_rfl)), ok_plain rfl (p_pure hτ (by kernel_rfl)), ok_plain rfl (p_pure hτ (by kernel_rfl)), ok_plain rfl (p_pure hτ (by kernel_rfl)), ok_plain rfl (p_pure hτ (by kernel_rfl)), trivial⟩ ?_
              intro a w ν h
              have h : St _ [(6, none, .ptr 17102 0), (8, none, .ptr 17103 0), (13, none, .v (.slice none 0 0)), (103, none, i64 x58)] [(17103, .blk 89 [i64 x2.Epoch, i64 x2.Seen, bo x2.Open, i64 x2.Stamp, i64 x2.Bad, .sl (x2.L.map c_Ver), i64 x2.Junk, i64 p2]), (17102, .blk 24 [i64 0, i64 0, bo false, i64 0, i64 0, .v (.slice none 0 0), i64 0])] _ w a ν := h.pickG [6, 8, 13, 103] [17103, 17102] (by kernel_rfl) (by kernel_rfl) (by kernel_rfl)
              refine mid_list 21 (by kernel_rfl) (by kernel_rfl) ?_
              refine pures [0] hτ h rfl ?_
              intro a h
              refine k_end1 ?_
              refine t_then ?_
              refine k_seq ?_
              refine k_any mixed h ?_
              intro w ν h
              obtain ⟨x59, hx59, hH⟩ := bnd hH
              have h : St _ [(6, none, .ptr 17102 0), (8, none, .ptr 17103 0), (13, none, .v (.slice none 0 0))] [(17103, .blk 89 [i64 x2.Epoch, i64 x2.Seen, bo x2.Open, i64 x2.Stamp, i64 x2.Bad, .sl (x2.L.map c_Ver), i64 x2.Junk, i64 p2]), (17102, .blk 24 [i64 0, i64 0, bo false, i64 0, i64 0, .v (.slice none 0 0), i64 0])] _ w a ν := h.pickG [6, 8, 13] [17103, 17102] (by kernel_rfl) (by kernel_rfl) (by kernel_rfl)
              refine mid_any (fs := [⟨some (104, none, .ptr 17103 0), [], []⟩, ⟨some (105, none, .ptr 17103 0), [], []⟩, ⟨some (106, none, .ptr 17103 0), [], []⟩, ⟨some (107, none, .agg [i64 x2.Epoch, i64 x2.Seen, bo x2.Open, i64 x2.Stamp, i64 x2.Bad, .sl (x2.L.map c_Ver), i64 x2.Junk]), [], []⟩, ⟨some (108, none, .v (.slice none 0 0)), [], []⟩, ⟨some (109, none, .sl (x59.y0.map (c_L c_u8))), [], []⟩]) 0 [([], []), ([0], []), ([1], []), ([2], [17103]), ([], []), ([4], [])] (by kernel_rfl) h (by kernel_rfl) ⟨ok_plain rfl (p_pure hτ (by kernel_rfl)), ok_plain rfl (p_pure hτ (by kernel_rfl)), ok_plain rfl (p_pure hτ (by kernel_rfl)), ok_plain rfl (p_pure hτ (by kernel_rfl)), ok_plain rfl (p_pure hτ (by kernel_rfl)), ok_plain rfl (p_call1 (ds0 := [.v (.slice none 0 0)]) fn41 (agent_frames.ok [] _ hx59) [true] (by kernel_rfl) (by kernel_rfl) (by kernel_rfl)), trivial⟩ ?_
              intro a w ν h
              have h : St _ [(6, none, .ptr 17102 0), (107, none, .agg [i64 x2.Epoch, i64 x2.Seen, bo x2.Open, i64 x2.Stamp, i64 x2.Bad, .sl (x2.L.map c_Ver), i64 x2.Junk]), (109, none, .sl (x59.y0.map (c_L c_u8)))] [(17103, .blk 89 [i64 x2.Epoch, i64 x2.Seen, bo x2.Open, i64 x2.Stamp, i64 x2.Bad, .sl (x2.L.map c_Ver), i64 x2.Junk, i64 p2]), (17102, .blk 24 [i64 0, i64 0, bo false, i64 0, i64 0, .v (.slice none 0 0), i64 0])] _ w a ν := h.pickG [6, 107, 109] [17103, 17102] (by kernel_rfl) (by kernel_rfl) (by kernel_rfl)
              refine mid_list 6 (by kernel_rfl) (by kernel_rfl) ?_
              refine s_store hτ h (wanted_none rfl) rfl rfl rfl rfl rfl ?_
              intro a w ν h
              refine pures [0] hτ h rfl ?_
              intro a h
              refine k_end1 ?_
              refine t_then ?_
              refine wp_ret ?_
              cases hH
              exact r_ret hτ [] h rfl rfl rfl
            | o1 x60 x61 =>
              refine k_any mixed h ?_
              intro w ν h
              have h : St _ [(6, none, .ptr 17102 0), (8, none, .ptr 17103 0)] [(17103, .blk 89 [i64 x2.Epoch, i64 x2.Seen, bo x2.Open, i64 x2.Stamp, i64 x2.Bad, .sl (x2.L.map c_Ver), i64 x2.Junk, i64 p2]), (17102, .blk 24 [i64 0, i64 0, bo false, i64 0, i64 0, .v (.slice none 0 0), i64 0])] _ w a ν := h.pickG [6, 8] [17103, 17102] (by kernel_rfl) (by kernel_rfl) (by kernel_rfl)
              refine mid_any (fs := [⟨some (85, none, .ptr 17103 0), [], []⟩, ⟨some (86, none, .ptr 17103 0), [], []⟩, ⟨some (87, none, .ptr 17103 0), [], []⟩, ⟨some (88, none, .ptr 17103 0), [], []⟩, ⟨some (89, none, i64 x2.Epoch), [], []⟩, ⟨some (90, none, .ptr 17103 0), [], []⟩, ⟨some (91, none, .ptr 17103 0), [], []⟩, ⟨some (92, none, .ptr 17103 0), [], []⟩, ⟨some (93, none, .ptr 17103 1), [], []⟩, ⟨some (94, none, i64 x2.Seen), [], []⟩, ⟨some (95, none, .ptr 17103 0), [], []⟩, ⟨some (96, none, .ptr 17103 0), [], []⟩, ⟨some (97, none, .ptr 17103 0), [], []⟩, ⟨some (98, none, .ptr 17103 4), [], []⟩, ⟨some (99, none, i64 x2.Bad), [], []⟩]) 0 [([], []), ([0], []), ([1, 0], []), ([2, 0, 1], []), ([3, 0, 1, 2], [17103]), ([], []), ([5], []), ([6, 5], []), ([7, 5, 6], []), ([8, 5, 6, 7], [17103]), ([], []), ([10], []), ([11, 10], []), ([12, 10, 11], []), ([13, 10, 11, 12], [17103])] (by kernel_rfl) h (by kernel_rfl) ⟨ok_plain rfl (p_pure hτ (by kernel_rfl)), ok_plain rfl (p_pure hτ (by kernel_rfl)), ok_plain rfl (p_pure hτ (by kernel_rfl)), ok_plain rfl (p_pure hτ (by kernel_rfl)), ok_plain rfl (p_pure hτ (by kernel_rfl)), ok_plain rfl (p_pure hτ (by kernel_rfl)), ok_plain rfl (p_pure hτ (by kernel_rfl)), ok_plain rfl (p_pure hτ (by kernel_rfl)), ok_plain rfl (p_pure hτ (by kernel_rfl)), ok_plain rfl (p_pure hτ (by kernel_rfl)), ok_plain rfl (p_pure hτ (by kernel_rfl)), ok_plain rfl (p_pure hτ (by kernel_rfl)), ok_plain rfl (p_pure hτ (by kernel_rfl)), ok_plain rfl (p_pure hτ (by kernel_rfl)), ok_plain rfl (p_pure hτ (by kernel_rfl)), trivial⟩ ?_
              intro a w ν h
              have h : St _ [(6, none, .ptr 17102 0), (8, none, .ptr 17103 0), (89, none, i64 x2.Epoch), (94, none, i64 x2.Seen), (99, none, i64 x2.Bad)] [(17103, .blk 89 [i64 x2.Epoch, i64 x2.Seen, bo x2.Open, i64 x2.Stamp, i64 x2.Bad, .sl (x2.L.map c_Ver), i64 x2.Junk, i64 p2]), (17102, .blk 24 [i64 0, i64 0, bo false, i64 0, i64 0, .v (.slice none 0 0), i64 0])] _ w a ν := h.pickG [6, 8, 89, 94, 99] [17103, 17102] (by kernel_rfl) (by kernel_rfl) (by kernel_rfl)
              refine mid_any (fs := [⟨some (100, none, .agg [i64 1, i64 x2.Epoch, i64 x2.Seen, i64 x2.Bad, i64 0, i64 0, i64 0, i64 0, i64 0, i64 0]), [], []⟩, ⟨some (101, none, .tup [.sl (x60.map c_u8), i64 x61]), [], []⟩, ⟨some (84, none, .tup [.sl (x60.map c_u8), i64 x61]), [], []⟩, ⟨some (102, none, .sl (x60.map c_u8)), [], []⟩, ⟨some (103, none, i64 x61), [], []⟩, ⟨some (13, none, .sl (x60.map c_u8)), [], []⟩]) 15 [([], []), ([15], []), ([16], []), ([17], []), ([17], []), ([18, 18], [])] (by kernel_rfl) h (by kernel_rfl) ⟨ok_plain rfl (p_pure hτ (by kernel_rfl)), ok_plain rfl (p_call1 (ds0 := [.agg [i64 1, i64 x2.Epoch, i64 x2.Seen, i64 x2.Bad, i64 0, i64 0, i64 0, i64 0, i64 0, i64 0]]) fn14 (frame_Seal.ok (Msg.mk 1 x2.Epoch x2.Seen x2.Bad (Rule.mk (Prefix.mk 0 0) 0 0 (Action.mk 0 0))) _ hq57) [] (by kernel_rfl) (by kernel_rfl) (by kernel_rfl)), ok_plain rfl (p_pure hτ (by kernel_rfl)), ok_plain rfl (p_pure hτ (by kernel_rfl)), ok_plain rfl (p_pure hτ (by kernel_rfl)), ok_plain rfl (p_pure hτ (by kernel_rfl)), trivial⟩ ?_
              intro a w ν h
              have h : St _ [(6, none, .ptr 17102 0), (8, none, .ptr 17103 0), (13, none, .sl (x60.map c_u8)), (103, none, i64 x61)] [(17103, .blk 89 [i64 x2.Epoch, i64 x2.Seen, bo x2.Open, i64 x2.Stamp, i64 x2.Bad, .sl (x2.L.map c_Ver), i64 x2.Junk, i64 p2]), (17102, .blk 24 [i64 0, i64 0, bo false, i64 0, i64 0, .v (.slice none 0 0), i64 0])] _ w a ν := h.pickG [6, 8, 13, 103] [17103, 17102] (by kernel_rfl) (by kernel_rfl) (by kernel_rfl)
              refine mid_list 21 (by kernel_rfl) (by kernel_rfl) ?_
              refine pures [0] hτ h rfl ?_
              intro a h
              refine k_end1 ?_
              refine t_then ?_
              refine k_seq ?_
              refine k_any mixed h ?_
              intro w ν h
              obtain ⟨x62, hx62, hH⟩ := bnd hH
              have h : St _ [(6, none, .ptr 17102 0), (8, none, .ptr 17103 0), (13, none, .sl (x60.map c_u8))] [(17103, .blk 89 [i64 x2.Epoch, i64 x2.Seen, bo x2.Open, i64 x2.Stamp, i64 x2.Bad, .sl (x2.L.map c_Ver), i64 x2.Junk, i64 p2]), (17102, .blk 24 [i64 0, i64 0, bo false, i64 0, i64 0, .v (.slice none 0 0), i64 0])] _ w a ν := h.pickG [6, 8, 13] [17103, 17102] (by kernel_rfl) (by kernel_rfl) (by kernel_rfl)
              refine mid_any (fs := [⟨some (104, none, .ptr 17103 0), [], []⟩, ⟨some (105, none, .ptr 17103 0), [], []⟩, ⟨some (106, none, .ptr 17103 0), [], []⟩, ⟨some (107, none, .agg [i64 x2.Epoch, i64 x2.Seen, bo x2.Open, i64 x2.Stamp, i64 x2.Bad, .sl (x2.L.map c_Ver), i64 x2.Junk]), [], []⟩, ⟨some (108, none, .sl (x60.map c_u8)), [], []⟩, ⟨some (109, none, .sl (x62.y0.map (c_L c_u8))), [], []⟩]) 0 [([], []), ([0], []), ([1], []), ([2], [17103]), ([], []), ([4], [])] (by kernel_rfl) h (by kernel_rfl) ⟨ok_plain rfl (p_pure hτ (by kernel_rfl)), ok_plain rfl (p_pure hτ (by kernel_rfl)), ok_plain rfl (p_pure hτ (by kernel_rfl)), ok_plain rfl (p_pure hτ (by kernel_rfl)), ok_plain rfl (p_pure hτ (by kernel_rfl)), ok_plain rfl (p_call1 (ds0 := [.sl (x60.map c_u8)]) fn41 (agent_frames.ok x60 _ hx62) [] (by kernel_rfl) (by kernel_rfl) (by kernel_rfl)), trivial⟩ ?_
              intro a w ν h
              have h : St _ [(6, none, .ptr 17102 0), (107, none, .agg [i64 x2.Epoch, i64 x2.Seen, bo x2.Open, i64 x2.Stamp, i64 x2.Bad, .sl (x2.L.map c_Ver), i64 x2.Junk]), (109, none, .sl (x62.y0.map (c_L c_u8)))] [(17103, .blk 89 [i64 x2.Epoch, i64 x2.Seen, bo x2.Open, i64 x2.Stamp, i64 x2.Bad, .sl (x2.L.map c_Ver), i64 x2.Junk, i64 p2]), (17102, .blk 24 [i64 0, i64 0, bo false, i64 0, i64 0, .v (.slice none 0 0), i64 0])] _ w a ν := h.pickG [6, 107, 109] [17103, 17102] (by kernel_rfl) (by kernel_rfl) (by kernel_rfl)
              refine mid_list 6 (by kernel_rfl) (by kernel_rfl) ?_
              refine s_store hτ h (wanted_none rfl) rfl rfl rfl rfl rfl ?_
              intro a w ν h
              refine pures [0] hτ h rfl ?_
              intro a h
              refine k_end1 ?_
              refine t_then ?_
              refine wp_ret ?_
              cases hH
              exact r_ret hτ [] h rfl rfl rfl
    · rcases b_if hH with ⟨hk0_4, hH⟩ | ⟨hk0_4, hH⟩
      · refine k_any mixed h ?_
        intro w ν h
        obtain ⟨x63, hx63, hH⟩ := bnd hH
        have h : St _ [(3, none, .ptr 17101 0), (6, none, .ptr 17102 0), (8, none, .ptr 17103 0), (9, none, .ptr 17104 0), (10, none, i64 x5)] [(17104, .blk 32 [i64 x4.Kind, i64 x4.Epoch, i64 x4.Seq, i64 x4.Tag, i64 x4.R.P.Addr, i64 x4.R.P.Len, i64 x4.R.In, i64 x4.R.Prio, i64 x4.R.Act.Kind, i64 x4.R.Act.Port]), (17103, .blk 89 [i64 x2.Epoch, i64 x2.Seen, bo x2.Open, i64 x2.Stamp, i64 x2.Bad, .sl (x2.L.map c_Ver), i64 x2.Junk, i64 p2]), (17102, .blk 24 [i64 0, i64 0, bo false, i64 0, i64 0, .v (.slice none 0 0), i64 0]), (17101, .blk 24 [i64 p0.Epoch, i64 p0.Seen, bo p0.Open, i64 p0.Stamp, i64 p0.Bad, .sl (p0.L.map c_Ver), i64 p0.Junk])] _ w a ν := h.pickG [3, 6, 8, 9, 10] [17104, 17103, 17102, 17101] (by kernel_rfl) (by kernel_rfl) (by kernel_rfl)
        refine mid_any (fs := [⟨some (26, none, .own 17109), [], [(17109, .mp [(.int .i64 2, .v (.func (.func 90) #[] #[])), (.int .i64 3, .v (.func (.func 91) #[] #[])), (.int .i64 4, .v (.func (.func 92) #[] #[])), (.int .i64 5, .v (.func (.func 93) #[] #[]))])]⟩, ⟨some (27, none, .ptr 17104 0), [], []⟩, ⟨some (28, none, i64 x4.Kind), [], []⟩, ⟨some (29, none, .tup [.v (.func (.func 92) #[] #[]), bo true]), [], []⟩, ⟨some (25, none, .tup [.v (.func (.func 92) #[] #[]), bo true]), [], []⟩, ⟨some (30, none, .v (.func (.func 92) #[] #[])), [], []⟩, ⟨some (31, none, bo true), [], []⟩, ⟨some (11, none, .v (.func (.func 92) #[] #[])), [], []⟩]) 0 [([], []), ([], []), ([1], [17104]), ([0, 2], [17109]), ([3], []), ([4], []), ([4], []), ([5, 5], [])] (by kernel_rfl) h (by kernel_rfl) ⟨ok_plain rfl (p_callN (ds0 := []) fn39 ((agent_work.ok _ hx63).sw_ 41900 17109) [] (by kernel_rfl) (by kernel_rfl) (by kernel_rfl) (by kernel_rfl)), ok_plain rfl (p_pure hτ (by kernel_rfl)), ok_plain rfl (p_pure hτ (by kernel_rfl)), ok_plain rfl (p_of0 rfl fun w a ν X hO hF hg => e_lkp1 mapT92 hF hO hg rfl rfl (by simp [lookI, hk0_2, hk0_3, hk0_4]; rfl)), ok_plain rfl (p_pure hτ (by kernel_rfl)), ok_plain rfl (p_pure hτ (by kernel_rfl)), ok_plain rfl (p_pure hτ (by kernel_rfl)), ok_plain rfl (p_pure hτ (by kernel_rfl)), trivial⟩ ?_
        intro a w ν h
        have h : St _ [(3, none, .ptr 17101 0), (6, none, .ptr 17102 0), (8, none, .ptr 17103 0), (9, none, .ptr 17104 0), (10, none, i64 x5), (11, none, .v (.func (.func 92) #[] #[])), (31, none, bo true)] [(17109, .mp [(.int .i64 2, .v (.func (.func 90) #[] #[])), (.int .i64 3, .v (.func (.func 91) #[] #[])), (.int .i64 4, .v (.func (.func 92) #[] #[])), (.int .i64 5, .v (.func (.func 93) #[] #[]))]), (17104, .blk 32 [i64 x4.Kind, i64 x4.Epoch, i64 x4.Seq, i64 x4.Tag, i64 x4.R.P.Addr, i64 x4.R.P.Len, i64 x4.R.In, i64 x4.R.Prio, i64 x4.R.Act.Kind, i64 x4.R.Act.Port]), (17103, .blk 89 [i64 x2.Epoch, i64 x2.Seen, bo x2.Open, i64 x2.Stamp, i64 x2.Bad, .sl (x2.L.map c_Ver), i64 x2.Junk, i64 p2]), (17102, .blk 24 [i64 0, i64 0, bo false, i64 0, i64 0, .v (.slice none 0 0), i64 0]), (17101, .blk 24 [i64 p0.Epoch, i64 p0.Seen, bo p0.Open, i64 p0.Stamp, i64 p0.Bad, .sl (p0.L.map c_Ver), i64 p0.Junk])] _ w a ν := h.pickG [3, 6, 8, 9, 10, 11, 31] [17109, 17104, 17103, 17102, 17101] (by kernel_rfl) (by kernel_rfl) (by kernel_rfl)
        refine mid_list 8 (by kernel_rfl) (by kernel_rfl) ?_
        refine pures [0] hτ h rfl ?_
        intro a h
        refine k_end1 ?_
        refine t_then ?_
        refine k_seq ?_
        refine k_reg ?_
        refine pures [0, 0, 0, 1, 1, 0] hτ h rfl ?_
        intro a h
        refine k_end ?_
        refine k_ifH hH h rfl (fun hb hH => ?_) (fun hb hH => ?_)
        · refine k_reg ?_
          refine pures [0, 0, 0, 0, 0, 0, 0, 0, 0] hτ h rfl ?_
          intro a h
          refine s_store hτ h (wanted_none rfl) rfl rfl rfl rfl rfl ?_
          intro a w ν h
          refine k_end ?_
          refine k_reg ?_
          refine pures [0, 0, 0, 0] hτ h rfl ?_
          intro a h
          refine s_store hτ h (wanted_none rfl) rfl rfl rfl rfl rfl ?_
          intro a w ν h
          refine pures [0] hτ h rfl ?_
          intro a h
          refine k_end ?_
          refine wp_ret ?_
          cases hH
          exact r_ret hτ [] h rfl rfl rfl
        · refine k_skip ?_
          refine t_then ?_
          refine k_seq ?_
          refine k_seq ?_
          refine k_any mixed h ?_
          intro w ν h
          have h : St _ [(3, none, .ptr 17101 0), (6, none, .ptr 17102 0), (8, none, .ptr 17103 0), (9, none, .ptr 17104 0), (11, none, .v (.func (.func 92) #[] #[]))] [(17104, .blk 32 [i64 x4.Kind, i64 x4.Epoch, i64 x4.Seq, i64 x4.Tag, i64 x4.R.P.Addr, i64 x4.R.P.Len, i64 x4.R.In, i64 x4.R.Prio, i64 x4.R.Act.Kind, i64 x4.R.Act.Port]), (17103, .blk 89 [i64 x2.Epoch, i64 x2.Seen, bo x2.Open, i64 x2.Stamp, i64 x2.Bad, .sl (x2.L.map c_Ver), i64 x2.Junk, i64 p2]), (17102, .blk 24 [i64 0, i64 0, bo false, i64 0, i64 0, .v (.slice none 0 0), i64 0]), (17101, .blk 24 [i64 p0.Epoch, i64 p0.Seen, bo p0.Open, i64 p0.Stamp, i64 p0.Bad, .sl (p0.L.map c_Ver), i64 p0.Junk])] _ w a ν := h.pickG [3, 6, 8, 9, 11] [17104, 17103, 17102, 17101] (by kernel_rfl) (by kernel_rfl) (by kernel_rfl)
          refine mid_any (fs := [⟨some (51, none, .ptr 17103 0), [], []⟩, ⟨some (52, none, .ptr 17103 0), [], []⟩, ⟨some (53, none, .ptr 17103 0), [], []⟩, ⟨some (54, none, .ptr 17103 0), [], []⟩, ⟨some (55, none, i64 x2.Epoch), [], []⟩, ⟨some (56, none, .ptr 17103 0), [], []⟩, ⟨some (57, none, .ptr 17103 0), [], []⟩, ⟨some (58, none, .ptr 17103 0), [], []⟩, ⟨some (59, none, .ptr 17103 1), [], []⟩, ⟨some (60, none, i64 x2.Seen), [], []⟩, ⟨some (61, none, .agg [i64 x4.Kind, i64 x4.Epoch, i64 x4.Seq, i64 x4.Tag, i64 x4.R.P.Addr, i64 x4.R.P.Len, i64 x4.R.In, i64 x4.R.Prio, i64 x4.R.Act.Kind, i64 x4.R.Act.Port]), [], []⟩]) 0 [([], []), ([0], []), ([1, 0], []), ([2, 0, 1], []), ([3, 0, 1, 2], [17103]), ([], []), ([5], []), ([6, 5], []), ([7, 5, 6], []), ([8, 5, 6, 7], [17103]), ([], [17104])] (by kernel_rfl) h (by kernel_rfl) ⟨ok_plain rfl (p_pure hτ (by kernel_rfl)), ok_plain rfl (p_pure hτ (by kernel_rfl)), ok_plain rfl (p_pure hτ (by kernel_rfl)), ok_plain rfl (p_pure hτ (by kernel_rfl)), ok_plain rfl (p_pure hτ (by kernel_rfl)), ok_plain rfl (p_pure hτ (by kernel_rfl)), ok_plain rfl (p_pure hτ (by kernel_rfl)), ok_plain rfl (p_pure hτ (by kernel_rfl)), ok_plain rfl (p_pure hτ (by kernel_rfl)), ok_plain rfl (p_pure hτ (by kernel_rfl)), ok_plain rfl (p_pure hτ (by kernel_rfl)), trivial⟩ ?_
          intro a w ν h
          have h : St _ [(3, none, .ptr 17101 0), (6, none, .ptr 17102 0), (8, none, .ptr 17103 0), (9, none, .ptr 17104 0), (11, none, .v (.func (.func 92) #[] #[])), (55, none, i64 x2.Epoch), (60, none, i64 x2.Seen), (61, none, .agg [i64 x4.Kind, i64 x4.Epoch, i64 x4.Seq, i64 x4.Tag, i64 x4.R.P.Addr, i64 x4.R.P.Len, i64 x4.R.In, i64 x4.R.Prio, i64 x4.R.Act.Kind, i64 x4.R.Act.Port])] [(17104, .blk 32 [i64 x4.Kind, i64 x4.Epoch, i64 x4.Seq, i64 x4.Tag, i64 x4.R.P.Addr, i64 x4.R.P.Len, i64 x4.R.In, i64 x4.R.Prio, i64 x4.R.Act.Kind, i64 x4.R.Act.Port]), (17103, .blk 89 [i64 x2.Epoch, i64 x2.Seen, bo x2.Open, i64 x2.Stamp, i64 x2.Bad, .sl (x2.L.map c_Ver), i64 x2.Junk, i64 p2]), (17102, .blk 24 [i64 0, i64 0, bo false, i64 0, i64 0, .v (.slice none 0 0), i64 0]), (17101, .blk 24 [i64 p0.Epoch, i64 p0.Seen, bo p0.Open, i64 p0.Stamp, i64 p0.Bad, .sl (p0.L.map c_Ver), i64 p0.Junk])] _ w a ν := h.pickG [3, 6, 8, 9, 11, 55, 60, 61] [17104, 17103, 17102, 17101] (by kernel_rfl) (by kernel_rfl) (by kernel_rfl)
          refine mid_list 11 (by kernel_rfl) (by kernel_rfl) ?_
          obtain ⟨q64, hq64, hH⟩ := bnd hH
          obtain ⟨x65⟩ := q64
          refine s_call1 fn40 (sess_Take.ok x2.Epoch x2.Seen x4 _ hq64) [] h (wanted_none rfl) rfl rfl rfl rfl rfl ?_
          intro a w ν h
          refine k_end1 ?_
          refine t_then ?_
          refine k_blk ?_
          refine k_reg ?_
          refine pures [0, 0] hτ h rfl ?_
          intro a h
          refine k_end ?_
          refine k_ifH hH h rfl (fun hb hH => ?_) (fun hb hH => ?_)
          · refine k_seq ?_
            obtain ⟨q66, hq66, hH⟩ := bnd hH
            cases q66 with
            | o0 =>
              refine k_any mixed h ?_
              intro w ν h
              obtain ⟨x67, hx67, hH⟩ := bnd hH
              have h : St _ [(3, none, .ptr 17101 0), (6, none, .ptr 17102 0), (8, none, .ptr 17103 0)] [(17103, .blk 89 [i64 x2.Epoch, i64 x2.Seen, bo x2.Open, i64 x2.Stamp, i64 x2.Bad, .sl (x2.L.map c_Ver), i64 x2.Junk, i64 p2]), (17102, .blk 24 [i64 0, i64 0, bo false, i64 0, i64 0, .v (.slice none 0 0), i64 0]), (17101, .blk 24 [i64 p0.Epoch, i64 p0.Seen, bo p0.Open, i64 p0.Stamp, i64 p0.Bad, .sl (p0.L.map c_Ver), i64 p0.Junk])] _ w a ν := h.pickG [3, 6, 8] [17103, 17102, 17101] (by kernel_rfl) (by kernel_rfl) (by kernel_rfl)
              refine mid_any (fs := [⟨some (65, none, .ptr 17103 0), [], []⟩, ⟨some (66, none, .ptr 17103 0), [], []⟩, ⟨some (67, none, .ptr 17103 0), [], []⟩, ⟨some (68, none, .agg [i64 x2.Epoch, i64 x2.Seen, bo x2.Open, i64 x2.Stamp, i64 x2.Bad, .sl (x2.L.map c_Ver), i64 x2.Junk]), [], []⟩, ⟨some (69, none, .agg [i64 p0.Epoch, i64 p0.Seen, bo p0.Open, i64 p0.Stamp, i64 p0.Bad, .sl (p0.L.map c_Ver), i64 p0.Junk]), [], []⟩, ⟨some (70, none, .v (.slice none 0 0)), [], []⟩, ⟨some (71, none, .sl (x67.y0.map (c_L c_u8))), [], []⟩]) 0 [([], []), ([0], []), ([1], []), ([2], [17103]), ([], [17101]), ([4], []), ([5, 5, 4], [])] (by kernel_rfl) h (by kernel_rfl) ⟨ok_plain rfl (p_pure hτ (by kernel_rfl)), ok_plain rfl (p_pure hτ (by kernel_rfl)), ok_plain rfl (p_pure hτ (by kernel_rfl)), ok_plain rfl (p_pure hτ (by kernel_rfl)), ok_plain rfl (p_pure hτ (by kernel_rfl)), ok_plain rfl (p_call1 (ds0 := [.agg [i64 p0.Epoch, i64 p0.Seen, bo p0.Open, i64 p0.Stamp, i64 p0.Bad, .sl (p0.L.map c_Ver), i64 p0.Junk]]) fn42 (agent_Hail.ok p0 _ hq66) [] (by kernel_rfl) (by kernel_rfl) (by kernel_rfl)), ok_plain rfl (p_call1 (ds0 := [.v (.slice none 0 0)]) fn41 (agent_frames.ok [] _ hx67) [true] (by kernel_rfl) (by kernel_rfl) (by kernel_rfl)), trivial⟩ ?_
              intro a w ν h
              have h : St _ [(6, none, .ptr 17102 0), (68, none, .agg [i64 x2.Epoch, i64 x2.Seen, bo x2.Open, i64 x2.Stamp, i64 x2.Bad, .sl (x2.L.map c_Ver), i64 x2.Junk]), (71, none, .sl (x67.y0.map (c_L c_u8)))] [(17103, .blk 89 [i64 x2.Epoch, i64 x2.Seen, bo x2.Open, i64 x2.Stamp, i64 x2.Bad, .sl (x2.L.map c_Ver), i64 x2.Junk, i64 p2]), (17102, .blk 24 [i64 0, i64 0, bo false, i64 0, i64 0, .v (.slice none 0 0), i64 0]), (17101, .blk 24 [i64 p0.Epoch, i64 p0.Seen, bo p0.Open, i64 p0.Stamp, i64 p0.Bad, .sl (p0.L.map c_Ver), i64 p0.Junk])] _ w a ν := h.pickG [6, 68, 71] [17103, 17102, 17101] (by kernel_rfl) (by kernel_rfl) (by kernel_rfl)
              refine mid_list 7 (by kernel_rfl) (by kernel_rfl) ?_
              refine s_store hτ h (wanted_none rfl) rfl rfl rfl rfl rfl ?_
              intro a w ν h
              refine pures [0] hτ h rfl ?_
              intro a h
              refine k_end1 ?_
              refine t_then ?_
              refine wp_ret ?_
              cases hH
              exact r_ret hτ [] h rfl rfl rfl
            | o1 x68 =>
              refine k_any mixed h ?_
              intro w ν h
              obtain ⟨x69, hx69, hH⟩ := bnd hH
              have h : St _ [(3, none, .ptr 17101 0), (6, none, .ptr 17102 0), (8, none, .ptr 17103 0)] [(17103, .blk 89 [i64 x2.Epoch, i64 x2.Seen, bo x2.Open, i64 x2.Stamp, i64 x2.Bad, .sl (x2.L.map c_Ver), i64 x2.Junk, i64 p2]), (17102, .blk 24 [i64 0, i64 0, bo false, i64 0, i64 0, .v (.slice none 0 0), i64 0]), (17101, .blk 24 [i64 p0.Epoch, i64 p0.Seen, bo p0.Open, i64 p0.Stamp, i64 p0.Bad, .sl (p0.L.map c_Ver), i64 p0.Junk])] _ w a ν := h.pickG [3, 6, 8] [17103, 17102, 17101] (by kernel_rfl) (by kernel_rfl) (by kernel_rfl)
              refine mid_any (fs := [⟨some (65, none, .ptr 17103 0), [], []⟩, ⟨some (66, none, .ptr 17103 0), [], []⟩, ⟨some (67, none, .ptr 17103 0), [], []⟩, ⟨some (68, none, .agg [i64 x2.Epoch, i64 x2.Seen, bo x2.Open, i64 x2.Stamp, i64 x2.Bad, .sl (x2.L.map c_Ver), i64 x2.Junk]), [], []⟩, ⟨some (69, none, .agg [i64 p0.Epoch, i64 p0.Seen, bo p0.Open, i64 p0.Stamp, i64 p0.Bad, .sl (p0.L.map c_Ver), i64 p0.Junk]), [], []⟩, ⟨some (70, none, .sl (x68.map c_u8)), [], []⟩, ⟨some (71, none, .sl (x69.y0.map (c_L c_u8))), [], []⟩]) 0 [([], []), ([0], []), ([1], []), ([2], [17103]), ([], [17101]), ([4], []), ([5, 5, 4], [])] (by kernel_rfl) h (by kernel_rfl) ⟨ok_plain rfl (p_pure hτ (by kernel_rfl)), ok_plain rfl (p_pure hτ (by kernel_rfl)), ok_plain rfl (p_pure hτ (by kernel_rfl)), ok_plain rfl (p_pure hτ (by kernel_rfl)), ok_plain rfl (p_pure hτ (by kernel_rfl)), ok_plain rfl (p_call1 (ds0 := [.agg [i64 p0.Epoch, i64 p0.Seen, bo p0.Open, i64 p0.Stamp, i64 p0.Bad, .sl (p0.L.map c_Ver), i64 p0.Junk]]) fn42 (agent_Hail.ok p0 _ hq66) [] (by kernel_rfl) (by kernel_rfl) (by kernel_rfl)), ok_plain rfl (p_call1 (ds0 := [.sl (x68.map c_u8)]) fn41 (agent_frames.ok x68 _ hx69) [] (by kernel_rfl) (by kernel_rfl) (by kernel_rfl)), trivial⟩ ?_
              intro a w ν h
              have h : St _ [(6, none, .ptr 17102 0), (68, none, .agg [i64 x2.Epoch, i64 x2.Seen, bo x2.Open, i64 x2.Stamp, i64 x2.Bad, .sl (x2.L.map c_Ver), i64 x2.Junk]), (71, none, .sl (x69.y0.map (c_L c_u8)))] [(17103, .blk 89 [i64 x2.Epoch, i64 x2.Seen, bo x2.Open, i64 x2.Stamp, i64 x2.Bad, .sl (x2.L.map c_Ver), i64 x2.Junk, i64 p2]), (17102, .blk 24 [i64 0, i64 0, bo false, i64 0, i64 0, .v (.slice none 0 0), i64 0]), (17101, .blk 24 [i64 p0.Epoch, i64 p0.Seen, bo p0.Open, i64 p0.Stamp, i64 p0.Bad, .sl (p0.L.map c_Ver), i64 p0.Junk])] _ w a ν := h.pickG [6, 68, 71] [17103, 17102, 17101] (by kernel_rfl) (by kernel_rfl) (by kernel_rfl)
              refine mid_list 7 (by kernel_rfl) (by kernel_rfl) ?_
              refine s_store hτ h (wanted_none rfl) rfl rfl rfl rfl rfl ?_
              intro a w ν h
              refine pures [0] hτ h rfl ?_
              intro a h
              refine k_end1 ?_
              refine t_then ?_
              refine wp_ret ?_
              cases hH
              exact r_ret hτ [] h rfl rfl rfl
          · refine k_reg ?_
            refine pures [0, 0] hτ h rfl ?_
            intro a h
            refine k_end ?_
            refine k_ifH hH h rfl (fun hb hH => ?_) (fun hb hH => ?_)
            · refine k_reg ?_
              refine pures [0, 0, 0] hτ h rfl ?_
              intro a h
              obtain ⟨q70, hq70, hH⟩ := bnd hH
              obtain ⟨x71⟩ := q70
              refine s_call fn92 ((agent_worker_collect.ok x4 (Worker.mk x2 p2) _ hq70).sw_ 57000 17103) [17103] [] [] h (wanted_none rfl) rfl rfl rfl rfl rfl rfl ?_
              intro a w ν h
              refine k_end ?_
              refine k_reg1 ?_
              refine pures [0, 0, 0, 0, 0, 0] hτ h rfl ?_
              intro a h
              refine s_store hτ h (wanted_none rfl) rfl rfl rfl rfl rfl ?_
              intro a w ν h
              refine k_end1 ?_
              refine t_blk ?_
              refine t_then ?_
              refine k_seq ?_
              obtain ⟨q72, hq72, hH⟩ := bnd hH
              cases q72 with
              | o0 x73 =>
                refine k_any mixed h ?_
                intro w ν h
                have h : St _ [(6, none, .ptr 17102 0), (8, none, .ptr 17103 0)] [(17103, .blk 89 [i64 x71.Switch.Epoch, i64 x4.Seq, bo x71.Switch.Open, i64 x71.Switch.Stamp, i64 x71.Switch.Bad, .sl (x71.Switch.L.map c_Ver), i64 x71.Switch.Junk, i64 x71.room]), (17102, .blk 24 [i64 0, i64 0, bo false, i64 0, i64 0, .v (.slice none 0 0), i64 0])] _ w a ν := h.pickG [6, 8] [17103, 17102] (by kernel_rfl) (by kernel_rfl) (by kernel_rfl)
                refine mid_any (fs := [⟨some (85, none, .ptr 17103 0), [], []⟩, ⟨some (86, none, .ptr 17103 0), [], []⟩, ⟨some (87, none, .ptr 17103 0), [], []⟩, ⟨some (88, none, .ptr 17103 0), [], []⟩, ⟨some (89, none, i64 x71.Switch.Epoch), [], []⟩, ⟨some (90, none, .ptr 17103 0), [], []⟩, ⟨some (91, none, .ptr 17103 0), [], []⟩, ⟨some (92, none, .ptr 17103 0), [], []⟩, ⟨some (93, none, .ptr 17103 1), [], []⟩, ⟨some (94, none, i64 x4.Seq), [], []⟩, ⟨some (95, none, .ptr 17103 0), [], []⟩, ⟨some (96, none, .ptr 17103 0), [], []⟩, ⟨some (97, none, .ptr 17103 0), [], []⟩, ⟨some (98, none, .ptr 17103 4), [], []⟩, ⟨some (99, none, i64 x71.Switch.Bad), [], []⟩]) 0 [([], []), ([0], []), ([1, 0], []), ([2, 0, 1], []), ([3, 0, 1, 2], [17103]), ([], []), ([5], []), ([6, 5], []), ([7, 5, 6], []), ([8, 5, 6, 7], [17103]), ([], []), ([10], []), ([11, 10], []), ([12, 10, 11], []), ([13, 10, 11, 12], [17103])] (by kernel_rfl) h (by kernel_rfl) ⟨ok_plain rfl (p_pure hτ (by kernel_rfl)), ok_plain rfl (p_pure hτ (by kernel_rfl)), ok_plain rfl (p_pure hτ (by kernel_rfl)), ok_plain rfl (p_pure hτ (by kernel_rfl)), ok_plain rfl (p_pure hτ (by kernel_rfl)), ok_plain rfl (p_pure hτ (by kernel_rfl)), ok_plain rfl (p_pure hτ (by kernel_rfl)), ok_plain rfl (p_pure hτ (by kernel_rfl)), ok_plain rfl (p_pure hτ (by kernel_rfl)), ok_plain rfl (p_pure hτ (by kernel_rfl)), ok_plain rfl (p_pure hτ (by kernel_rfl)), ok_plain rfl (p_pure hτ (by kernel_rfl)), ok_plain rfl (p_pure hτ (by kernel_rfl)), ok_plain rfl (p_pure hτ (by kernel_rfl)), ok_plain rfl (p_pure hτ (by kernel_rfl)), trivial⟩ ?_
                intro a w ν h
                have h : St _ [(6, none, .ptr 17102 0), (8, none, .ptr 17103 0), (89, none, i64 x71.Switch.Epoch), (94, none, i64 x4.Seq), (99, none, i64 x71.Switch.Bad)] [(17103, .blk 89 [i64 x71.Switch.Epoch, i64 x4.Seq, bo x71.Switch.Open, i64 x71.Switch.Stamp, i64 x71.Switch.Bad, .sl (x71.Switch.L.map c_Ver), i64 x71.Switch.Junk, i64 x71.room]), (17102, .blk 24 [i64 0, i64 0, bo false, i64 0, i64 0, .v (.slice none 0 0), i64 0])] _ w a ν := h.pickG [6, 8, 89, 94, 99] [17103, 17102] (by kernel_rfl) (by kernel_rfl) (by kernel_rfl)
                refine mid_any (fs := [⟨some (100, none, .agg [i64 1, i64 x71.Switch.Epoch, i64 x4.Seq, i64 x71.Switch.Bad, i64 0, i64 0, i64 0, i64 0, i64 0, i64 0]), [], []⟩, ⟨some (101, none, .tup [.v (.slice none 0 0), i64 x73]), [], []⟩, ⟨some (84, none, .tup [.v (.slice none 0 0), i64 x73]), [], []⟩, ⟨some (102, none, .v (.slice none 0 0)), [], []⟩, ⟨some (103, none, i64 x73), [], []⟩, ⟨some (13, none, .v (.slice none 0 0)), [], []⟩]) 15 [([], []), ([15], []), ([16], []), ([17], []), ([17], []), ([18, 18], [])] (by kernel_rfl) h (by kernel_rfl) ⟨ok_plain rfl (p_pure hτ (by kernel_rfl)), ok_plain rfl (p_call1 (ds0 := [.agg [i64 1, i64 x71.Switch.Epoch, i64 x4.Seq, i64 x71.Switch.Bad, i64 0, i64 0, i64 0, i64 0, i64 0, i64 0]]) fn14 (frame_Seal.ok (Msg.mk 1 x71.Switch.Epoch x4.Seq x71.Switch.Bad (Rule.mk (Prefix.mk 0 0) 0 0 (Action.mk 0 0))) _ hq72) [] (by kernel_rfl) (by kernel_rfl) (by kernel_rfl)), ok_plain rfl (p_pure hτ (by kernel_rfl)), ok_plain rfl (p_pure hτ (by kernel_rfl)), ok_plain rfl (p_pure hτ (by kernel_rfl)), ok_plain rfl (p_pure hτ (by kernel_rfl)), trivial⟩ ?_
                intro a w ν h
                have h : St _ [(6, none, .ptr 17102 0), (8, none, .ptr 17103 0), (13, none, .v (.slice none 0 0)), (103, none, i64 x73)] [(17103, .blk 89 [i64 x71.Switch.Epoch, i64 x4.Seq, bo x71.Switch.Open, i64 x71.Switch.Stamp, i64 x71.Switch.Bad, .sl (x71.Switch.L.map c_Ver), i64 x71.Switch.Junk, i64 x71.room]), (17102, .blk 24 [i64 0, i64 0, bo false, i64 0, i64 0, .v (.slice none 0 0), i64 0])] _ w a ν := h.pickG [6, 8, 13, 103] [17103, 17102] (by kernel_rfl) (by kernel_rfl) (by kernel_rfl)
                refine mid_list 21 (by kernel_rfl) (by kernel_rfl) ?_
                refine pures [0] hτ h rfl ?_
                intro a h
                refine k_end1 ?_
                refine t_then ?_
                refine k_seq ?_
                refine k_any mixed h ?_
                intro w ν h
                obtain ⟨x74, hx74, hH⟩ := bnd hH
                have h : St _ [(6, none, .ptr 17102 0), (8, none, .ptr 17103 0), (13, none, .v (.slice none 0 0))] [(17103, .blk 89 [i64 x71.Switch.Epoch, i64 x4.Seq, bo x71.Switch.Open, i64 x71.Switch.Stamp, i64 x71.Switch.Bad, .sl (x71.Switch.L.map c_Ver), i64 x71.Switch.Junk, i64 x71.room]), (17102, .blk 24 [i64 0, i64 0, bo false, i64 0, i64 0, .v (.slice none 0 0), i64 0])] _ w a ν := h.pickG [6, 8, 13] [17103, 17102] (by kernel_rfl) (by kernel_rfl) (by kernel_rfl)
                refine mid_any (fs := [⟨some (104, none, .ptr 17103 0), [], []⟩, ⟨some (105, none, .ptr 17103 0), [], []⟩, ⟨some (106, none, .ptr 17103 0), [], []⟩, ⟨some (107, none, .agg [i64 x71.Switch.Epoch, i64 x4.Seq, bo x71.Switch.Open, i64 x71.Switch.Stamp, i64 x71.Switch.Bad, .sl (x71.Switch.L.map c_Ver), i64 x71.Switch.Junk]), [], []⟩, ⟨some (108, none, .v (.slice none 0 0)), [], []⟩, ⟨some (109, none, .sl (x74.y0.map (c_L c_u8))), [], []⟩]) 0 [([], []), ([0], []), ([1], []), ([2], [17103]), ([], []), ([4], [])] (by kernel_rfl) h (by kernel_rfl) ⟨ok_plain rfl (p_pure hτ (by kernel_rfl)), ok_plain rfl (p_pure hτ (by kernel_rfl)), ok_plain rfl (p_pure hτ (by kernel_rfl)), ok_plain rfl (p_pure hτ (by kernel_rfl)), ok_plain rfl (p_pure hτ (by kernel_rfl)), ok_plain rfl (p_call1 (ds0 := [.v (.slice none 0 0)]) fn41 (agent_frames.ok [] _ hx74) [true] (by kernel_rfl) (by kernel_rfl) (by kernel_rfl)), trivial⟩ ?_
                intro a w ν h
                have h : St _ [(6, none, .ptr 17102 0), (107, none, .agg [i64 x71.Switch.Epoch, i64 x4.Seq, bo x71.Switch.Open, i64 x71.Switch.Stamp, i64 x71.Switch.Bad, .sl (x71.Switch.L.map c_Ver), i64 x71.Switch.Junk]), (109, none, .sl (x74.y0.map (c_L c_u8)))] [(17103, .blk 89 [i64 x71.Switch.Epoch, i64 x4.Seq, bo x71.Switch.Open, i64 x71.Switch.Stamp, i64 x71.Switch.Bad, .sl (x71.Switch.L.map c_Ver), i64 x71.Switch.Junk, i64 x71.room]), (17102, .blk 24 [i64 0, i64 0, bo false, i64 0, i64 0, .v (.slice none 0 0), i64 0])] _ w a ν := h.pickG [6, 107, 109] [17103, 17102] (by kernel_rfl) (by kernel_rfl) (by kernel_rfl)
                refine mid_list 6 (by kernel_rfl) (by kernel_rfl) ?_
                refine s_store hτ h (wanted_none rfl) rfl rfl rfl rfl rfl ?_
                intro a w ν h
                refine pures [0] hτ h rfl ?_
                intro a h
                refine k_end1 ?_
                refine t_then ?_
                refine wp_ret ?_
                cases hH
                exact r_ret hτ [] h rfl rfl rfl
              | o1 x75 x76 =>
                refine k_any mixed h ?_
                intro w ν h
                have h : St _ [(6, none, .ptr 17102 0), (8, none, .ptr 17103 0)] [(17103, .blk 89 [i64 x71.Switch.Epoch, i64 x4.Seq, bo x71.Switch.Open, i64 x71.Switch.Stamp, i64 x71.Switch.Bad, .sl (x71.Switch.L.map c_Ver), i64 x71.Switch.Junk, i64 x71.room]), (17102, .blk 24 [i64 0, i64 0, bo false, i64 0, i64 0, .v (.slice none 0 0), i64 0])] _ w a ν := h.pickG [6, 8] [17103, 17102] (by kernel_rfl) (by kernel_rfl) (by kernel_rfl)
                refine mid_any (fs := [⟨some (85, none, .ptr 17103 0), [], []⟩, ⟨some (86, none, .ptr 17103 0), [], []⟩, ⟨some (87, none, .ptr 17103 0), [], []⟩, ⟨some (88, none, .ptr 17103 0), [], []⟩, ⟨some (89, none, i64 x71.Switch.Epoch), [], []⟩, ⟨some (90, none, .ptr 17103 0), [], []⟩, ⟨some (91, none, .ptr 17103 0), [], []⟩, ⟨some (92, none, .ptr 17103 0), [], []⟩, ⟨some (93, none, .ptr 17103 1), [], []⟩, ⟨some (94, none, i64 x4.Seq), [], []⟩, ⟨some (95, none, .ptr 17103 0), [], []⟩, ⟨some (96, none, .ptr 17103 0), [], []⟩, ⟨some (97, none, .ptr 17103 0), [], []⟩, ⟨some (98, none, .ptr 17103 4), [], []⟩, ⟨some (99, none, i64 x71.Switch.Bad), [], []⟩]) 0 [([], []), ([0], []), ([1, 0], []), ([2, 0, 1], []), ([3, 0, 1, 2], [17103]), ([], []), ([5], []), ([6, 5], []), ([7, 5, 6], []), ([8, 5, 6, 7], [17103]), ([], []), ([10], []), ([11, 10], []), ([12, 10, 11], []), ([13, 10, 11, 12], [17103])] (by kernel_rfl) h (by kernel_rfl) ⟨ok_plain rfl (p_pure hτ (by kernel_rfl)), ok_plain rfl (p_pure hτ (by kernel_rfl)), ok_plain rfl (p_pure hτ (by kernel_rfl)), ok_plain rfl (p_pure hτ (by kernel_rfl)), ok_plain rfl (p_pure hτ (by kernel_rfl)), ok_plain rfl (p_pure hτ (by kernel_rfl)), ok_plain rfl (p_pure hτ (by kernel_rfl)), ok_plain rfl (p_pure hτ (by kernel_rfl)), ok_plain rfl (p_pure hτ (by kernel_rfl)), ok_plain rfl (p_pure hτ (by kernel_rfl)), ok_plain rfl (p_pure hτ (by kernel_rfl)), ok_plain rfl (p_pure hτ (by kernel_rfl)), ok_plain rfl (p_pure hτ (by kernel_rfl)), ok_plain rfl (p_pure hτ (by kernel_rfl)), ok_plain rfl (p_pure hτ (by kernel_rfl)), trivial⟩ ?_
                intro a w ν h
                have h : St _ [(6, none, .ptr 17102 0), (8, none, .ptr 17103 0), (89, none, i64 x71.Switch.Epoch), (94, none, i64 x4.Seq), (99, none, i64 x71.Switch.Bad)] [(17103, .blk 89 [i64 x71.Switch.Epoch, i64 x4.Seq, bo x71.Switch.Open, i64 x71.Switch.Stamp, i64 x71.Switch.Bad, .sl (x71.Switch.L.map c_Ver), i64 x71.Switch.Junk, i64 x71.room]), (17102, .blk 24 [i64 0, i64 0, bo false, i64 0, i64 0, .v (.slice none 0 0), i64 0])] _ w a ν := h.pickG [6, 8, 89, 94, 99] [17103, 17102] (by kernel_rfl) (by kernel_rfl) (by kernel_rfl)
                refine mid_any (fs := [⟨some (100, none, .agg [i64 1, i64 x71.Switch.Epoch, i64 x4.Seq, i64 x71.Switch.Bad, i64 0, i64 0, i64 0, i64 0, i64 0, i64 0]), [], []⟩, ⟨some (101, none, .tup [.sl (x75.map c_u8), i64 x76]), [], []⟩, ⟨some (84, none, .tup [.sl (x75.map c_u8), i64 x76]), [], []⟩, ⟨some (102, none, .sl (x75.map c_u8)), [], []⟩, ⟨some (103, none, i64 x76), [], []⟩, ⟨some (13, none, .sl (x75.map c_u8)), [], []⟩]) 15 [([], []), ([15], []), ([16], []), ([17], []), ([17], []), ([18, 18], [])] (by kernel_rfl) h (by kernel_rfl) ⟨ok_plain rfl (p_pure hτ (by kernel_rfl)), ok_plain rfl (p_call1 (ds0 := [.agg [i64 1, i64 x71.Switch.Epoch, i64 x4.Seq, i64 x71.Switch.Bad, i64 0, i64 0, i64 0, i64 0, i64 0, i64 0]]) fn14 (frame_Seal.ok (Msg.mk 1 x71.Switch.Epoch x4.Seq x71.Switch.Bad (Rule.mk (Prefix.mk 0 0) 0 0 (Action.mk 0 0))) _ hq72) [] (by kernel_rfl) (by kernel_rfl) (by kernel_rfl)), ok_plain rfl (p_pure hτ (by kernel_rfl)), ok_plain rfl (p_pure hτ (by kernel_rfl)), ok_plain rfl (p_pure hτ (by kernel_rfl)), ok_plain rfl (p_pure hτ (by kernel_rfl)), trivial⟩ ?_
                intro a w ν h
                have h : St _ [(6, none, .ptr 17102 0), (8, none, .ptr 17103 0), (13, none, .sl (x75.map c_u8)), (103, none, i64 x76)] [(17103, .blk 89 [i64 x71.Switch.Epoch, i64 x4.Seq, bo x71.Switch.Open, i64 x71.Switch.Stamp, i64 x71.Switch.Bad, .sl (x71.Switch.L.map c_Ver), i64 x71.Switch.Junk, i64 x71.room]), (17102, .blk 24 [i64 0, i64 0, bo false, i64 0, i64 0, .v (.slice none 0 0), i64 0])] _ w a ν := h.pickG [6, 8, 13, 103] [17103, 17102] (by kernel_rfl) (by kernel_rfl) (by kernel_rfl)
                refine mid_list 21 (by kernel_rfl) (by kernel_rfl) ?_
                refine pures [0] hτ h rfl ?_
                intro a h
                refine k_end1 ?_
                refine t_then ?_
                refine k_seq ?_
                refine k_any mixed h ?_
                intro w ν h
                obtain ⟨x77, hx77, hH⟩ := bnd hH
                have h : St _ [(6, none, .ptr 17102 0), (8, none, .ptr 17103 0), (13, none, .sl (x75.map c_u8))] [(17103, .blk 89 [i64 x71.Switch.Epoch, i64 x4.Seq, bo x71.Switch.Open, i64 x71.Switch.Stamp, i64 x71.Switch.Bad, .sl (x71.Switch.L.map c_Ver), i64 x71.Switch.Junk, i64 x71.room]), (17102, .blk 24 [i64 0, i64 0, bo false, i64 0, i64 0, .v (.slice none 0 0), i64 0])] _ w a ν := h.pickG [6, 8, 13] [17103, 17102] (by kernel_rfl) (by kernel_rfl) (by kernel_rfl)
                refine mid_any (fs := [⟨some (104, none, .ptr 17103 0), [], []⟩, ⟨some (105, none, .ptr 17103 0), [], []⟩, ⟨some (106, none, .ptr 17103 0), [], []⟩, ⟨some (107, none, .agg [i64 x71.Switch.Epoch, i64 x4.Seq, bo x71.Switch.Open, i64 x71.Switch.Stamp, i64 x71.Switch.Bad, .sl (x71.Switch.L.map c_Ver), i64 x71.Switch.Junk]), [], []⟩, ⟨some (108, none, .sl (x75.map c_u8)), [], []⟩, ⟨some (109, none, .sl (x77.y0.map (c_L c_u8))), [], []⟩]) 0 [([], []), ([0], []), ([1], []), ([2], [17103]), ([], []), ([4], [])] (by kernel_rfl) h (by kernel_rfl) ⟨ok_plain rfl (p_pure hτ (by kernel_rfl)), ok_plain rfl (p_pure hτ (by kernel_rfl)), ok_plain rfl (p_pure hτ (by kernel_rfl)), ok_plain rfl (p_pure hτ (by kernel_rfl)), ok_plain rfl (p_pure hτ (by kernel_rfl)), ok_plain rfl (p_call1 (ds0 := [.sl (x75.map c_u8)]) fn41 (agent_frames.ok x75 _ hx77) [] (by kernel_rfl) (by kernel_rfl) (by kernel_rfl)), trivial⟩ ?_
                intro a w ν h
                have h : St _ [(6, none, .ptr 17102 0), (107, none, .agg [i64 x71.Switch.Epoch, i64 x4.Seq, bo x71.Switch.Open, i64 x71.Switch.Stamp, i64 x71.Switch.Bad, .sl (x71.Switch.L.map c_Ver), i64 x71.Switch.Junk]), (109, none, .sl (x77.y0.map (c_L c_u8)))] [(17103, .blk 89 [i64 x71.Switch.Epoch, i64 x4.Seq, bo x71.Switch.Open, i64 x71.Switch.Stamp, i64 x71.Switch.Bad, .sl (x71.Switch.L.map c_Ver), i64 x71.Switch.Junk, i64 x71.room]), (17102, .blk 24 [i64 0, i64 0, bo false, i64 0, i64 0, .v (.slice none 0 0), i64 0])] _ w a ν := h.pickG [6, 107, 109] [17103, 17102] (by kernel_rfl) (by kernel_rfl) (by kernel_rfl)
                refine mid_list 6 (by kernel_rfl) (by kernel_rfl) ?_
                refine s_store hτ h (wanted_none rfl) rfl rfl rfl rfl rfl ?_
                intro a w ν h
                refine pures [0] hτ h rfl ?_
                intro a h
                refine k_end1 ?_
                refine t_then ?_
                refine wp_ret ?_
                cases hH
                exact r_ret hτ [] h rfl rfl rfl
            · refine k_skip ?_
              refine t_blk ?_
              refine t_then ?_
              refine k_seq ?_
              obtain ⟨q78, hq78, hH⟩ := bnd hH
              cases q78 with
              | o0 x79 =>
                refine k_any mixed h ?_
                intro w ν h
                have h : St _ [(6, none, .ptr 17102 0), (8, none, .ptr 17103 0)] [(17103, .blk 89 [i64 x2.Epoch, i64 x2.Seen, bo x2.Open, i64 x2.Stamp, i64 x2.Bad, .sl (x2.L.map c_Ver), i64 x2.Junk, i64 p2]), (17102, .blk 24 [i64 0, i64 0, bo false, i64 0, i64 0, .v (.slice none 0 0), i64 0])] _ w a ν := h.pickG [6, 8] [17103, 17102] (by kernel_rfl) (by kernel_rfl) (by kernel_rfl)
                refine mid_any (fs := [⟨some (85, none, .ptr 17103 0), [], []⟩, ⟨some (86, none, .ptr 17103 0), [], []⟩, ⟨some (87, none, .ptr 17103 0), [], []⟩, ⟨some (88, none, .ptr 17103 0), [], []⟩, ⟨some (89, none, i64 x2.Epoch), [], []⟩, ⟨some (90, none, .ptr 17103 0), [], []⟩, ⟨some (91, none, .ptr 17103 0), [], []⟩, ⟨some (92, none, .ptr 17103 0), [], []⟩, ⟨some (93, none, .ptr 17103 1), [], []⟩, ⟨some (94, none, i64 x2.Seen), [], []⟩, ⟨some (95, none, .ptr 17103 0), [], []⟩, ⟨some (96, none, .ptr 17103 0), [], []⟩, ⟨some (97, none, .ptr 17103 0), [], []⟩, ⟨some (98, none, .ptr 17103 4), [], []⟩, ⟨some (99, none, i64 x2.Bad), [], []⟩]) 0 [([], []), ([0], []), ([1, 0], []), ([2, 0, 1], []), ([3, 0, 1, 2], [17103]), ([], []), ([5], []), ([6, 5], []), ([7, 5, 6], []), ([8, 5, 6, 7], [17103]), ([], []), ([10], []), ([11, 10], []), ([12, 10, 11], []), ([13, 10, 11, 12], [17103])] (by kernel_rfl) h (by kernel_rfl) ⟨ok_plain rfl (p_pure hτ (by kernel_rfl)), ok_plain rfl (p_pure hτ (by kernel_rfl)), ok_plain rfl (p_pure hτ (by kernel_rfl)), ok_plain rfl (p_pure hτ (by kernel_rfl)), ok_plain rfl (p_pure hτ (by kernel_rfl)), ok_plain rfl (p_pure hτ (by kernel_rfl)), ok_plain rfl (p_pure hτ (by kernel_rfl)), ok_plain rfl (p_pure hτ (by kernel_rfl)), ok_plain rfl (p_pure hτ (by kernel_rfl)), ok_plain rfl (p_pure hτ (by kernel_rfl)), ok_plain rfl (p_pure hτ (by kernel_rfl)), ok_plain rfl (p_pure hτ (by kernel_rfl)), ok_plain rfl (p_pure hτ (by kernel_rfl)), ok_plain rfl (p_pure hτ (by kernel_rfl)), ok_plain rfl (p_pure hτ (by kernel_rfl)), trivial⟩ ?_
                intro a w ν h
                have h : St _ [(6, none, .ptr 17102 0), (8, none, .ptr 17103 0), (89, none, i64 x2.Epoch), (94, none, i64 x2.Seen), (99, none, i64 x2.Bad)] [(17103, .blk 89 [i64 x2.Epoch, i64 x2.Seen, bo x2.Open, i64 x2.Stamp, i64 x2.Bad, .sl (x2.L.map c_Ver), i64 x2.Junk, i64 p2]), (17102, .blk 24 [i64 0, i64 0, bo false, i64 0, i64 0, .v (.slice none 0 0), i64 0])] _ w a ν := h.pickG [6, 8, 89, 94, 99] [17103, 17102] (by kernel_rfl) (by kernel_rfl) (by kernel_rfl)
                refine mid_any (fs := [⟨some (100, none, .agg [i64 1, i64 x2.Epoch, i64 x2.Seen, i64 x2.Bad, i64 0, i64 0, i64 0, i64 0, i64 0, i64 0]), [], []⟩, ⟨some (101, none, .tup [.v (.slice none 0 0), i64 x79]), [], []⟩, ⟨some (84, none, .tup [.v (.slice none 0 0), i64 x79]), [], []⟩, ⟨some (102, none, .v (.slice none 0 0)), [], []⟩, ⟨some (103, none, i64 x79), [], []⟩, ⟨some (13, none, .v (.slice none 0 0)), [], []⟩]) 15 [([], []), ([15], []), ([16], []), ([17], []), ([17], []), ([18, 18], [])] (by kernel_rfl) h (by kernel_rfl) ⟨ok_plain rfl (p_pure hτ (by kernel_rfl)), ok_plain rfl (p_call1 (ds0 := [.agg [i64 1, i64 x2.Epoch, i64 x2.Seen, i64 x2.Bad, i64 0, i64 0, i64 0, i64 0, i64 0, i64 0]]) fn14 (frame_Seal.ok (Msg.mk 1 x2.Epoch x2.Seen x2.Bad (Rule.mk (Prefix.mk 0 0) 0 0 (Action.mk 0 0))) _ hq78) [] (by kernel_rfl) (by kernel_rfl) (by kernel_rfl)), ok_plain rfl (p_pure hτ (by kernel_rfl)), ok_plain rfl (p_pure hτ (by kernel_rfl)), ok_plain rfl (p_pure hτ (by kernel_rfl)), ok_plain rfl (p_pure hτ (by kernel_rfl)), trivial⟩ ?_
                intro a w ν h
                have h : St _ [(6, none, .ptr 17102 0), (8, none, .ptr 17103 0), (13, none, .v (.slice none 0 0)), (103, none, i64 x79)] [(17103, .blk 89 [i64 x2.Epoch, i64 x2.Seen, bo x2.Open, i64 x2.Stamp, i64 x2.Bad, .sl (x2.L.map c_Ver), i64 x2.Junk, i64 p2]), (17102, .blk 24 [i64 0, i64 0, bo false, i64 0, i64 0, .v (.slice none 0 0), i64 0])] _ w a ν := h.pickG [6, 8, 13, 103] [17103, 17102] (by kernel_rfl) (by kernel_rfl) (by kernel_rfl)
                refine mid_list 21 (by kernel_rfl) (by kernel_rfl) ?_
                refine pures [0] hτ h rfl ?_
                intro a h
                refine k_end1 ?_
                refine t_then ?_
                refine k_seq ?_
                refine k_any mixed h ?_
                intro w ν h
                obtain ⟨x80, hx80, hH⟩ := bnd hH
                have h : St _ [(6, none, .ptr 17102 0), (8, none, .ptr 17103 0), (13, none, .v (.slice none 0 0))] [(17103, .blk 89 [i64 x2.Epoch, i64 x2.Seen, bo x2.Open, i64 x2.Stamp, i64 x2.Bad, .sl (x2.L.map c_Ver), i64 x2.Junk, i64 p2]), (17102, .blk 24 [i64 0, i64 0, bo false, i64 0, i64 0, .v (.slice none 0 0), i64 0])] _ w a ν := h.pickG [6, 8, 13] [17103, 17102] (by kernel_rfl) (by kernel_rfl) (by kernel_rfl)
                refine mid_any (fs := [⟨some (104, none, .ptr 17103 0), [], []⟩, ⟨some (105, none, .ptr 17103 0), [], []⟩, ⟨some (106, none, .ptr 17103 0), [], []⟩, ⟨some (107, none, .agg [i64 x2.Epoch, i64 x2.Seen, bo x2.Open, i64 x2.Stamp, i64 x2.Bad, .sl (x2.L.map c_Ver), i64 x2.Junk]), [], []⟩, ⟨some (108, none, .v (.slice none 0 0)), [], []⟩, ⟨some (109, none, .sl (x80.y0.map (c_L c_u8))), [], []⟩]) 0 [([], []), ([0], []), ([1], []), ([2], [17103]), ([], []), ([4], [])] (by kernel_rfl) h (by kernel_rfl) ⟨ok_plain rfl (p_pure hτ (by kernel_rfl)), ok_plain rfl (p_pure hτ (by kernel_rfl)), ok_plain rfl (p_pure hτ (by kernel_rfl)), ok_plain rfl (p_pure hτ (by kernel_rfl)), ok_plain rfl (p_pure hτ (by kernel_rfl)), ok_plain rfl (p_call1 (ds0 := [.v (.slice none 0 0)]) fn41 (agent_frames.ok [] _ hx80) [true] (by kernel_rfl) (by kernel_rfl) (by kernel_rfl)), trivial⟩ ?_
                intro a w ν h
                have h : St _ [(6, none, .ptr 17102 0), (107, none, .agg [i64 x2.Epoch, i64 x2.Seen, bo x2.Open, i64 x2.Stamp, i64 x2.Bad, .sl (x2.L.map c_Ver), i64 x2.Junk]), (109, none, .sl (x80.y0.map (c_L c_u8)))] [(17103, .blk 89 [i64 x2.Epoch, i64 x2.Seen, bo x2.Open, i64 x2.Stamp, i64 x2.Bad, .sl (x2.L.map c_Ver), i64 x2.Junk, i64 p2]), (17102, .blk 24 [i64 0, i64 0, bo false, i64 0, i64 0, .v (.slice none 0 0), i64 0])] _ w a ν := h.pickG [6, 107, 109] [17103, 17102] (by kernel_rfl) (by kernel_rfl) (by kernel_rfl)
                refine mid_list 6 (by kernel_rfl) (by kernel_rfl) ?_
                refine s_store hτ h (wanted_none rfl) rfl rfl rfl rfl rfl ?_
                intro a w ν h
                refine pures [0] hτ h rfl ?_
                intro a h
                refine k_end1 ?_
                refine t_then ?_
                refine wp_ret ?_
                cases hH
                exact r_ret hτ [] h rfl rfl rfl
              | o1 x81 x82 =>
                refine k_any mixed h ?_
                intro w ν h
                have h : St _ [(6, none, .ptr 17102 0), (8, none, .ptr 17103 0)] [(17103, .blk 89 [i64 x2.Epoch, i64 x2.Seen, bo x2.Open, i64 x2.Stamp, i64 x2.Bad, .sl (x2.L.map c_Ver), i64 x2.Junk, i64 p2]), (17102, .blk 24 [i64 0, i64 0, bo false, i64 0, i64 0, .v (.slice none 0 0), i64 0])] _ w a ν := h.pickG [6, 8] [17103, 17102] (by kernel_rfl) (by kernel_rfl) (by kernel_rfl)
                refine mid_any (fs := [⟨some (85, none, .ptr 17103 0), [], []⟩, ⟨some (86, none, .ptr 17103 0), [], []⟩, ⟨some (87, none, .ptr 17103 0), [], []⟩, ⟨some (88, none, .ptr 17103 0), [], []⟩, ⟨some (89, none, i64 x2.Epoch), [], []⟩, ⟨some (90, none, .ptr 17103 0), [], []⟩, ⟨some (91, none, .ptr 17103 0), [], []⟩, ⟨some (92, none, .ptr 17103 0), [], []⟩, ⟨some (93, none, .ptr 17103 1), [], []⟩, ⟨some (94, none, i64 x2.Seen), [], []⟩, ⟨some (95, none, .ptr 17103 0), [], []⟩, ⟨some (96, none, .ptr 17103 0), [], []⟩, ⟨some (97, none, .ptr 17103 0), [], []⟩, ⟨some (98, none, .ptr 17103 4), [], []⟩, ⟨some (99, none, i64 x2.Bad), [], []⟩]) 0 [([], []), ([0], []), ([1, 0], []), ([2, 0, 1], []), ([3, 0, 1, 2], [17103]), ([], []), ([5], []), ([6, 5], []), ([7, 5, 6], []), ([8, 5, 6, 7], [17103]), ([], []), ([10], []), ([11, 10], []), ([12, 10, 11], []), ([13, 10, 11, 12], [17103])] (by kernel_rfl) h (by kernel_rfl) ⟨ok_plain rfl (p_pure hτ (by kernel_rfl)), ok_plain rfl (p_pure hτ (by kernel_rfl)), ok_plain rfl (p_pure hτ (by kernel_rfl)), ok_plain rfl (p_pure hτ (by kernel_rfl)), ok_plain rfl (p_pure hτ (by kernel_rfl)), ok_plain rfl (p_pure hτ (by kernel_rfl)), ok_plain rfl (p_pure hτ (by kernel_rfl)), ok_plain rfl (p_pure hτ (by kernel_rfl)), ok_plain rfl (p_pure hτ (by kernel_rfl)), ok_plain rfl (p_pure hτ (by kernel_rfl)), ok_plain rfl (p_pure hτ (by kernel_rfl)), ok_plain rfl (p_pure hτ (by kernel_rfl)), ok_plain rfl (p_pure hτ (by kernel_rfl)), ok_plain rfl (p_pure hτ (by kernel_rfl)), ok_plain rfl (p_pure hτ (by kernel_rfl)), trivial⟩ ?_
                intro a w ν h
                have h : St _ [(6, none, .ptr 17102 0), (8, none, .ptr 17103 0), (89, none, i64 x2.Epoch), (94, none, i64 x2.Seen), (99, none, i64 x2.Bad)] [(17103, .blk 89 [i64 x2.Epoch, i64 x2.Seen, bo x2.Open, i64 x2.Stamp, i64 x2.Bad, .sl (x2.L.map c_Ver), i64 x2.Junk, i64 p2]), (17102, .blk 24 [i64 0, i64 0, bo false, i64 0, i64 0, .v (.slice none 0 0), i64 0])] _ w a ν := h.pickG [6, 8, 89, 94, 99] [17103, 17102] (by kernel_rfl) (by kernel_rfl) (by kernel_rfl)
                refine mid_any (fs := [⟨some (100, none, .agg [i64 1, i64 x2.Epoch, i64 x2.Seen, i64 x2.Bad, i64 0, i64 0, i64 0, i64 0, i64 0, i64 0]), [], []⟩, ⟨some (101, none, .tup [.sl (x81.map c_u8), i64 x82]), [], []⟩, ⟨some (84, none, .tup [.sl (x81.map c_u8), i64 x82]), [], []⟩, ⟨some (102, none, .sl (x81.map c_u8)), [], []⟩, ⟨some (103, none, i64 x82), [], []⟩, ⟨some (13, none, .sl (x81.map c_u8)), [], []⟩]) 15 [([], []), ([15], []), ([16], []), ([17], []), ([17], []), ([18, 18], [])] (by kernel_rfl) h (by kernel_rfl) ⟨ok_plain rfl (p_pure hτ (by kernel_rfl)), ok_plain rfl (p_call1 (ds0 := [.agg [i64 1, i64 x2.Epoch, i64 x2.Seen, i64 x2.Bad, i64 0, i64 0, i64 0, i64 0, i64 0, i64 0]]) fn14 (frame_Seal.ok (Msg.mk 1 x2.Epoch x2.Seen x2.Bad (Rule.mk (Prefix.mk 0 0) 0 0 (Action.mk 0 0))) _ hq78) [] (by kernel_rfl) (by kernel_rfl) (by kernel_rfl)), ok_plain rfl (p_pure hτ (by kernel_rfl)), ok_plain rfl (p_pure hτ (by kernel_rfl)), ok_plain rfl (p_pure hτ (by kernel_rfl)), ok_plain rfl (p_pure hτ (by kernel_rfl)), trivial⟩ ?_
                intro a w ν h
                have h : St _ [(6, none, .ptr 17102 0), (8, none, .ptr 17103 0), (13, none, .sl (x81.map c_u8)), (103, none, i64 x82)] [(17103, .blk 89 [i64 x2.Epoch, i64 x2.Seen, bo x2.Open, i64 x2.Stamp, i64 x2.Bad, .sl (x2.L.map c_Ver), i64 x2.Junk, i64 p2]), (17102, .blk 24 [i64 0, i64 0, bo false, i64 0, i64 0, .v (.slice none 0 0), i64 0])] _ w a ν := h.pickG [6, 8, 13, 103] [17103, 17102] (by kernel_rfl) (by kernel_rfl) (by kernel_rfl)
                refine mid_list 21 (by kernel_rfl) (by kernel_rfl) ?_
                refine pures [0] hτ h rfl ?_
                intro a h
                refine k_end1 ?_
                refine t_then ?_
                refine k_seq ?_
                refine k_any mixed h ?_
                intro w ν h
                obtain ⟨x83, hx83, hH⟩ := bnd hH
                have h : St _ [(6, none, .ptr 17102 0), (8, none, .ptr 17103 0), (13, none, .sl (x81.map c_u8))] [(17103, .blk 89 [i64 x2.Epoch, i64 x2.Seen, bo x2.Open, i64 x2.Stamp, i64 x2.Bad, .sl (x2.L.map c_Ver), i64 x2.Junk, i64 p2]), (17102, .blk 24 [i64 0, i64 0, bo false, i64 0, i64 0, .v (.slice none 0 0), i64 0])] _ w a ν := h.pickG [6, 8, 13] [17103, 17102] (by kernel_rfl) (by kernel_rfl) (by kernel_rfl)
                refine mid_any (fs := [⟨some (104, none, .ptr 17103 0), [], []⟩, ⟨some (105, none, .ptr 17103 0), [], []⟩, ⟨some (106, none, .ptr 17103 0), [], []⟩, ⟨some (107, none, .agg [i64 x2.Epoch, i64 x2.Seen, bo x2.Open, i64 x2.Stamp, i64 x2.Bad, .sl (x2.L.map c_Ver), i64 x2.Junk]), [], []⟩, ⟨some (108, none, .sl (x81.map c_u8)), [], []⟩, ⟨some (109, none, .sl (x83.y0.map (c_L c_u8))), [], []⟩]) 0 [([], []), ([0], []), ([1], []), ([2], [17103]), ([], []), ([4], [])] (by kernel_rfl) h (by kernel_rfl) ⟨ok_plain rfl (p_pure hτ (by kernel_rfl)), ok_plain rfl (p_pure hτ (by kernel_rfl)), ok_plain rfl (p_pure hτ (by kernel_rfl)), ok_plain rfl (p_pure hτ (by kernel_rfl)), ok_plain rfl (p_pure hτ (by kernel_rfl)), ok_plain rfl (p_call1 (ds0 := [.sl (x81.map c_u8)]) fn41 (agent_frames.ok x81 _ hx83) [] (by kernel_rfl) (by kernel_rfl) (by kernel_rfl)), trivial⟩ ?_
                intro a w ν h
                have h : St _ [(6, none, .ptr 17102 0), (107, none, .agg [i64 x2.Epoch, i64 x2.Seen, bo x2.Open, i64 x2.Stamp, i64 x2.Bad, .sl (x2.L.map c_Ver), i64 x2.Junk]), (109, none, .sl (x83.y0.map (c_L c_u8)))] [(17103, .blk 89 [i64 x2.Epoch, i64 x2.Seen, bo x2.Open, i64 x2.Stamp, i64 x2.Bad, .sl (x2.L.map c_Ver), i64 x2.Junk, i64 p2]), (17102, .blk 24 [i64 0, i64 0, bo false, i64 0, i64 0, .v (.slice none 0 0), i64 0])] _ w a ν := h.pickG [6, 107, 109] [17103, 17102] (by kernel_rfl) (by kernel_rfl) (by kernel_rfl)
                refine mid_list 6 (by kernel_rfl) (by kernel_rfl) ?_
                refine s_store hτ h (wanted_none rfl) rfl rfl rfl rfl rfl ?_
                intro a w ν h
                refine pures [0] hτ h rfl ?_
                intro a h
                refine k_end1 ?_
                refine t_then ?_
                refine wp_ret ?_
                cases hH
                exact r_ret hτ [] h rfl rfl rfl
      · rcases b_if hH with ⟨hk0_5, hH⟩ | ⟨hk0_5, hH⟩
        · refine k_any mixed h ?_
          intro w ν h
          obtain ⟨x84, hx84, hH⟩ := bnd hH
          have h : St _ [(3, none, .ptr 17101 0), (6, none, .ptr 17102 0), (8, none, .ptr 17103 0), (9, none, .ptr 17104 0), (10, none, i64 x5)] [(17104, .blk 32 [i64 x4.Kind, i64 x4.Epoch, i64 x4.Seq, i64 x4.Tag, i64 x4.R.P.Addr, i64 x4.R.P.Len, i64 x4.R.In, i64 x4.R.Prio, i64 x4.R.Act.Kind, i64 x4.R.Act.Port]), (17103, .blk 89 [i64 x2.Epoch, i64 x2.Seen, bo x2.Open, i64 x2.Stamp, i64 x2.Bad, .sl (x2.L.map c_Ver), i64 x2.Junk, i64 p2]), (17102, .blk 24 [i64 0, i64 0, bo false, i64 0, i64 0, .v (.slice none 0 0), i64 0]), (17101, .blk 24 [i64 p0.Epoch, i64 p0.Seen, bo p0.Open, i64 p0.Stamp, i64 p0.Bad, .sl (p0.L.map c_Ver), i64 p0.Junk])] _ w a ν := h.pickG [3, 6, 8, 9, 10] [17104, 17103, 17102, 17101] (by kernel_rfl) (by kernel_rfl) (by kernel_rfl)
          refine mid_any (fs := [⟨some (26, none, .own 17110), [], [(17110, .mp [(.int .i64 2, .v (.func (.func 90) #[] #[])), (.int .i64 3, .v (.func (.func 91) #[] #[])), (.int .i64 4, .v (.func (.func 92) #[] #[])), (.int .i64 5, .v (.func (.func 93) #[] #[]))])]⟩, ⟨some (27, none, .ptr 17104 0), [], []⟩, ⟨some (28, none, i64 x4.Kind), [], []⟩, ⟨some (29, none, .tup [.v (.func (.func 93) #[] #[]), bo true]), [], []⟩, ⟨some (25, none, .tup [.v (.func (.func 93) #[] #[]), bo true]), [], []⟩, ⟨some (30, none, .v (.func (.func 93) #[] #[])), [], []⟩, ⟨some (31, none, bo true), [], []⟩, ⟨some (11, none, .v (.func (.func 93) #[] #[])), [], []⟩]) 0 [([], []), ([], []), ([1], [17104]), ([0, 2], [17110]), ([3], []), ([4], []), ([4], []), ([5, 5], [])] (by kernel_rfl) h (by kernel_rfl) ⟨ok_plain rfl (p_callN (ds0 := []) fn39 ((agent_work.ok _ hx84).sw_ 41900 17110) [] (by kernel_rfl) (by kernel_rfl) (by kernel_rfl) (by kernel_rfl)), ok_plain rfl (p_pure hτ (by kernel_rfl)), ok_plain rfl (p_pure hτ (by kernel_rfl)), ok_plain rfl (p_of0 rfl fun w a ν X hO hF hg => e_lkp1 mapT92 hF hO hg rfl rfl (by simp [lookI, hk0_2, hk0_3, hk0_4, hk0_5]; rfl)), ok_plain rfl (p_pure hτ (by kernel_rfl)), ok_plain rfl (p_pure hτ (by kernel_rfl)), ok_plain rfl (p_pure hτ (by kernel_rfl)), ok_plain rfl (p_pure hτ (by kernel_rfl)), trivial⟩ ?_
          intro a w ν h
          have h : St _ [(3, none, .ptr 17101 0), (6, none, .ptr 17102 0), (8, none, .ptr 17103 0), (9, none, .ptr 17104 0), (10, none, i64 x5), (11, none, .v (.func (.func 93) #[] #[])), (31, none, bo true)] [(17110, .mp [(.int .i64 2, .v (.func (.func 90) #[] #[])), (.int .i64 3, .v (.func (.func 91) #[] #[])), (.int .i64 4, .v (.func (.func 92) #[] #[])), (.int .i64 5, .v (.func (.func 93) #[] #[]))]), (17104, .blk 32 [i64 x4.Kind, i64 x4.Epoch, i64 x4.Seq, i64 x4.Tag, i64 x4.R.P.Addr, i64 x4.R.P.Len, i64 x4.R.In, i64 x4.R.Prio, i64 x4.R.Act.Kind, i64 x4.R.Act.Port]), (17103, .blk 89 [i64 x2.Epoch, i64 x2.Seen, bo x2.Open, i64 x2.Stamp, i64 x2.Bad, .sl (x2.L.map c_Ver), i64 x2.Junk, i64 p2]), (17102, .blk 24 [i64 0, i64 0, bo false, i64 0, i64 0, .v (.slice none 0 0), i64 0]), (17101, .blk 24 [i64 p0.Epoch, i64 p0.Seen, bo p0.Open, i64 p0.Stamp, i64 p0.Bad, .sl (p0.L.map c_Ver), i64 p0.Junk])] _ w a ν := h.pickG [3, 6, 8, 9, 10, 11, 31] [17110, 17104, 17103, 17102, 17101] (by kernel_rfl) (by kernel_rfl) (by kernel_rfl)
          refine mid_list 8 (by kernel_rfl) (by kernel_rfl) ?_
          refine pures [0] hτ h rfl ?_
          intro a h
          refine k_end1 ?_
          refine t_then ?_
          refine k_seq ?_
          refine k_reg ?_
          refine pures [0, 0, 0, 1, 1, 0] hτ h rfl ?_
          intro a h
          refine k_end ?_
          refine k_ifH hH h rfl (fun hb hH => ?_) (fun hb hH => ?_)
          · refine k_reg ?_
            refine pures [0, 0, 0, 0, 0, 0, 0, 0, 0] hτ h rfl ?_
            intro a h
            refine s_store hτ h (wanted_none rfl) rfl rfl rfl rfl rfl ?_
            intro a w ν h
            refine k_end ?_
            refine k_reg ?_
            refine pures [0, 0, 0, 0] hτ h rfl ?_
            intro a h
            refine s_store hτ h (wanted_none rfl) rfl rfl rfl rfl rfl ?_
            intro a w ν h
            refine pures [0] hτ h rfl ?_
            intro a h
            refine k_end ?_
            refine wp_ret ?_
            cases hH
            exact r_ret hτ [] h rfl rfl rfl
          · refine k_skip ?_
            refine t_then ?_
            refine k_seq ?_
            refine k_seq ?_
            refine k_any mixed h ?_
            intro w ν h
            have h : St _ [(3, none, .ptr 17101 0), (6, none, .ptr 17102 0), (8, none, .ptr 17103 0), (9, none, .ptr 17104 0), (11, none, .v (.func (.func 93) #[] #[]))] [(17104, .blk 32 [i64 x4.Kind, i64 x4.Epoch, i64 x4.Seq, i64 x4.Tag, i64 x4.R.P.Addr, i64 x4.R.P.Len, i64 x4.R.In, i64 x4.R.Prio, i64 x4.R.Act.Kind, i64 x4.R.Act.Port]), (17103, .blk 89 [i64 x2.Epoch, i64 x2.Seen, bo x2.Open, i64 x2.Stamp, i64 x2.Bad, .sl (x2.L.map c_Ver), i64 x2.Junk, i64 p2]), (17102, .blk 24 [i64 0, i64 0, bo false, i64 0, i64 0, .v (.slice none 0 0), i64 0]), (17101, .blk 24 [i64 p0.Epoch, i64 p0.Seen, bo p0.Open, i64 p0.Stamp, i64 p0.Bad, .sl (p0.L.map c_Ver), i64 p0.Junk])] _ w a ν := h.pickG [3, 6, 8, 9, 11] [17104, 17103, 17102, 17101] (by kernel_rfl) (by kernel_rfl) (by kernel_rfl)
            refine mid_any (fs := [⟨some (51, none, .ptr 17103 0), [], []⟩, ⟨some (52, none, .ptr 17103 0), [], []⟩, ⟨some (53, none, .ptr 17103 0), [], []⟩, ⟨some (54, none, .ptr 17103 0), [], []⟩, ⟨some (55, none, i64 x2.Epoch), [], []⟩, ⟨some (56, none, .ptr 17103 0), [], []⟩, ⟨some (57, none, .ptr 17103 0), [], []⟩, ⟨some (58, none, .ptr 17103 0), [], []⟩, ⟨some (59, none, .ptr 17103 1), [], []⟩, ⟨some (60, none, i64 x2.Seen), [], []⟩, ⟨some (61, none, .agg [i64 x4.Kind, i64 x4.Epoch, i64 x4.Seq, i64 x4.Tag, i64 x4.R.P.Addr, i64 x4.R.P.Len, i64 x4.R.In, i64 x4.R.Prio, i64 x4.R.Act.Kind, i64 x4.R.Act.Port]), [], []⟩]) 0 [([], []), ([0], []), ([1, 0], []), ([2, 0, 1], []), ([3, 0, 1, 2], [17103]), ([], []), ([5], []), ([6, 5], []), ([7, 5, 6], []), ([8, 5, 6, 7], [17103]), ([], [17104])] (by kernel_rfl) h (by kernel_rfl) ⟨ok_plain rfl (p_pure hτ (by kernel_rfl)), ok_plain rfl (p_pure hτ (by kernel_rfl)), ok_plain rfl (p_pure hτ (by kernel_rfl)), ok_plain rfl (p_pure hτ (by kernel_rfl)), ok_plain rfl (p_pure hτ (by kernel_rfl)), ok_plain rfl (p_pure hτ (by kernel_rfl)), ok_plain rfl (p_pure hτ (by kernel_rfl)), ok_plain rfl (p_pure hτ (by kernel_rfl)), ok_plain rfl (p_pure hτ (by kernel_rfl)), ok_plain rfl (p_pure hτ (by kernel_rfl)), ok_plain rfl (p_pure hτ (by kernel_rfl)), trivial⟩ ?_
            intro a w ν h
            have h : St _ [(3, none, .ptr 17101 0), (6, none, .ptr 17102 0), (8, none, .ptr 17103 0), (9, none, .ptr 17104 0), (11, none, .v (.func (.func 93) #[] #[])), (55, none, i64 x2.Epoch), (60, none, i64 x2.Seen), (61, none, .agg [i64 x4.Kind, i64 x4.Epoch, i64 x4.Seq, i64 x4.Tag, i64 x4.R.P.Addr, i64 x4.R.P.Len, i64 x4.R.In, i64 x4.R.Prio, i64 x4.R.Act.Kind, i64 x4.R.Act.Port])] [(17104, .blk 32 [i64 x4.Kind, i64 x4.Epoch, i64 x4.Seq, i64 x4.Tag, i64 x4.R.P.Addr, i64 x4.R.P.Len, i64 x4.R.In, i64 x4.R.Prio, i64 x4.R.Act.Kind, i64 x4.R.Act.Port]), (17103, .blk 89 [i64 x2.Epoch, i64 x2.Seen, bo x2.Open, i64 x2.Stamp, i64 x2.Bad, .sl (x2.L.map c_Ver), i64 x2.Junk, i64 p2]), (17102, .blk 24 [i64 0, i64 0, bo false, i64 0, i64 0, .v (.slice none 0 0), i64 0]), (17101, .blk 24 [i64 p0.Epoch, i64 p0.Seen, bo p0.Open, i64 p0.Stamp, i64 p0.Bad, .sl (p0.L.map c_Ver), i64 p0.Junk])] _ w a ν := h.pickG [3, 6, 8, 9, 11, 55, 60, 61] [17104, 17103, 17102, 17101] (by kernel_rfl) (by kernel_rfl) (by kernel_rfl)
            refine mid_list 11 (by kernel_rfl) (by kernel_rfl) ?_
            obtain ⟨q85, hq85, hH⟩ := bnd hH
            obtain ⟨x86⟩ := q85
            refine s_call1 fn40 (sess_Take.ok x2.Epoch x2.Seen x4 _ hq85) [] h (wanted_none rfl) rfl rfl rfl rfl rfl ?_
            intro a w ν h
            refine k_end1 ?_
            refine t_then ?_
            refine k_blk ?_
            refine k_reg ?_
            refine pures [0, 0] hτ h rfl ?_
            intro a h
            refine k_end ?_
            refine k_ifH hH h rfl (fun hb hH => ?_) (fun hb hH => ?_)
            · refine k_seq ?_
              obtain ⟨q87, hq87, hH⟩ := bnd hH
              cases q87 with
              | o0 =>
                refine k_any mixed h ?_
                intro w ν h
                obtain ⟨x88, hx88, hH⟩ := bnd hH
                have h : St _ [(3, none, .ptr 17101 0), (6, none, .ptr 17102 0), (8, none, .ptr 17103 0)] [(17103, .blk 89 [i64 x2.Epoch, i64 x2.Seen, bo x2.Open, i64 x2.Stamp, i64 x2.Bad, .sl (x2.L.map c_Ver), i64 x2.Junk, i64 p2]), (17102, .blk 24 [i64 0, i64 0, bo false, i64 0, i64 0, .v (.slice none 0 0), i64 0]), (17101, .blk 24 [i64 p0.Epoch, i64 p0.Seen, bo p0.Open, i64 p0.Stamp, i64 p0.Bad, .sl (p0.L.map c_Ver), i64 p0.Junk])] _ w a ν := h.pickG [3, 6, 8] [17103, 17102, 17101] (by kernel_rfl) (by kernel_rfl) (by kernel_rfl)
                refine mid_any (fs := [⟨some (65, none, .ptr 17103 0), [], []⟩, ⟨some (66, none, .ptr 17103 0), [], []⟩, ⟨some (67, none, .ptr 17103 0), [], []⟩, ⟨some (68, none, .agg [i64 x2.Epoch, i64 x2.Seen, bo x2.Open, i64 x2.Stamp, i64 x2.Bad, .sl (x2.L.map c_Ver), i64 x2.Junk]), [], []⟩, ⟨some (69, none, .agg [i64 p0.Epoch, i64 p0.Seen, bo p0.Open, i64 p0.Stamp, i64 p0.Bad, .sl (p0.L.map c_Ver), i64 p0.Junk]), [], []⟩, ⟨some (70, none, .v (.slice none 0 0)), [], []⟩, ⟨some (71, none, .sl (x88.y0.map (c_L c_u8))), [], []⟩]) 0 [([], []), ([0], []), ([1], []), ([2], [17103]), ([], [17101]), ([4], []), ([5, 5, 4], [])] (by kernel_rfl) h (by kernel_rfl) ⟨ok_plain rfl (p_pure hτ (by kernel_rfl)), ok_plain rfl (p_pure hτ (by kernel_rfl)), ok_plain rfl (p_pure hτ (by kernel_rfl)), ok_plain rfl (p_pure hτ (by kernel_rfl)), ok_plain rfl (p_pure hτ (by kernel_rfl)), ok_plain rfl (p_call1 (ds0 := [.agg [i64 p0.Epoch, i64 p0.Seen, bo p0.Open, i64 p0.Stamp, i64 p0.Bad, .sl (p0.L.map c_Ver), i64 p0.Junk]]) fn42 (agent_Hail.ok p0 _ hq87) [] (by kernel_rfl) (by kernel_rfl) (by kernel_rfl)), ok_plain rfl (p_call1 (ds0 := [.v (.slice none 0 0)]) fn41 (agent_frames.ok [] _ hx88) [true] (by kernel_rfl) (by kernel_rfl) (by kernel_rfl)), trivial⟩ ?_
                intro a w ν h
                have h : St _ [(6, none, .ptr 17102 0), (68, none, .agg [i64 x2.Epoch, i64 x2.Seen, bo x2.Open, i64 x2.Stamp, i64 x2.Bad, .sl (x2.L.map c_Ver), i64 x2.Junk]), (71, none, .sl (x88.y0.map (c_L c_u8)))] [(17103, .blk 89 [i64 x2.Epoch, i64 x2.Seen, bo x2.Open, i64 x2.Stamp, i64 x2.Bad, .sl (x2.L.map c_Ver), i64 x2.Junk, i64 p2]), (17102, .blk 24 [i64 0, i64 0, bo false, i64 0, i64 0, .v (.slice none 0 0), i64 0]), (17101, .blk 24 [i64 p0.Epoch, i64 p0.Seen, bo p0.Open, i64 p0.Stamp, i64 p0.Bad, .sl (p0.L.map c_Ver), i64 p0.Junk])] _ w a ν := h.pickG [6, 68, 71] [17103, 17102, 17101] (by kernel_rfl) (by kernel_rfl) (by kernel_rfl)
                refine mid_list 7 (by kernel_rfl) (by kernel_rfl) ?_
                refine s_store hτ h (wanted_none rfl) rfl rfl rfl rfl rfl ?_
                intro a w ν h
                refine pures [0] hτ h rfl ?_
                intro a h
                refine k_end1 ?_
                refine t_then ?_
                refine wp_ret ?_
                cases hH
                exact r_ret hτ [] h rfl rfl rfl
              | o1 x89 =>
                refine k_any mixed h ?_
                intro w ν h
                obtain ⟨x90, hx90, hH⟩ := bnd hH
                have h : St _ [(3, none, .ptr 17101 0), (6, none, .ptr 17102 0), (8, none, .ptr 17103 0)] [(17103, .blk 89 [i64 x2.Epoch, i64 x2.Seen, bo x2.Open, i64 x2.Stamp, i64 x2.Bad, .sl (x2.L.map c_Ver), i64 x2.Junk, i64 p2]), (17102, .blk 24 [i64 0, i64 0, bo false, i64 0, i64 0, .v (.slice none 0 0), i64 0]), (17101, .blk 24 [i64 p0.Epoch, i64 p0.Seen, bo p0.Open, i64 p0.Stamp, i64 p0.Bad, .sl (p0.L.map c_Ver), i64 p0.Junk])] _ w a ν := h.pickG [3, 6, 8] [17103, 17102, 17101] (by kernel_rfl) (by kernel_rfl) (by kernel_rfl)
                refine mid_any (fs := [⟨some (65, none, .ptr 17103 0), [], []⟩, ⟨some (66, none, .ptr 17103 0), [], []⟩, ⟨some (67, none, .ptr 17103 0), [], []⟩, ⟨some (68, none, .agg [i64 x2.Epoch, i64 x2.Seen, bo x2.Open, i64 x2.Stamp, i64 x2.Bad, .sl (x2.L.map c_Ver), i64 x2.Junk]), [], []⟩, ⟨some (69, none, .agg [i64 p0.Epoch, i64 p0.Seen, bo p0.Open, i64 p0.Stamp, i64 p0.Bad, .sl (p0.L.map c_Ver), i64 p0.Junk]), [], []⟩, ⟨some (70, none, .sl (x89.map c_u8)), [], []⟩, ⟨some (71, none, .sl (x90.y0.map (c_L c_u8))), [], []⟩]) 0 [([], []), ([0], []), ([1], []), ([2], [17103]), ([], [17101]), ([4], []), ([5, 5, 4], [])] (by kernel_rfl) h (by kernel_rfl) ⟨ok_plain rfl (p_pure hτ (by kernel_rfl)), ok_plain rfl (p_pure hτ (by kernel_rfl)), ok_plain rfl (p_pure hτ (by kernel_rfl)), ok_plain rfl (p_pure hτ (by kernel_rfl)), ok_plain rfl (p_pure hτ (by kernel_rfl)), ok_plain rfl (p_call1 (ds0 := [.agg [i64 p0.Epoch, i64 p0.Seen, bo p0.Open, i64 p0.Stamp, i64 p0.Bad, .sl (p0.L.map c_Ver), i64 p0.Junk]]) fn42 (agent_Hail.ok p0 _ hq87) [] (by kernel_rfl) (by kernel_rfl) (by kernel_rfl)), ok_plain rfl (p_call1 (ds0 := [.sl (x89.map c_u8)]) fn41 (agent_frames.ok x89 _ hx90) [] (by kernel_rfl) (by kernel_rfl) (by kernel_rfl)), trivial⟩ ?_
                intro a w ν h
                have h : St _ [(6, none, .ptr 17102 0), (68, none, .agg [i64 x2.Epoch, i64 x2.Seen, bo x2.Open, i64 x2.Stamp, i64 x2.Bad, .sl (x2.L.map c_Ver), i64 x2.Junk]), (71, none, .sl (x90.y0.map (c_L c_u8)))] [(17103, .blk 89 [i64 x2.Epoch, i64 x2.Seen, bo x2.Open, i64 x2.Stamp, i64 x2.Bad, .sl (x2.L.map c_Ver), i64 x2.Junk, i64 p2]), (17102, .blk 24 [i64 0, i64 0, bo false, i64 0, i64 0, .v (.slice none 0 0), i64 0]), (17101, .blk 24 [i64 p0.Epoch, i64 p0.Seen, bo p0.Open, i64 p0.Stamp, i64 p0.Bad, .sl (p0.L.map c_Ver), i64 p0.Junk])] _ w a ν := h.pickG [6, 68, 71] [17103, 17102, 17101] (by kernel_rfl) (by kernel_rfl) (by kernel_rfl)
                refine mid_list 7 (by kernel_rfl) (by kernel_rfl) ?_
                refine s_store hτ h (wanted_none rfl) rfl rfl rfl rfl rfl ?_
                intro a w ν h
                refine pures [0] hτ h rfl ?_
                intro a h
                refine k_end1 ?_
                refine t_then ?_
                refine wp_ret ?_
                cases hH
                exact r_ret hτ [] h rfl rfl rfl
            · refine k_reg ?_
              refine pures [0, 0] hτ h rfl ?_
              intro a h
              refine k_end ?_
              refine k_ifH hH h rfl (fun hb hH => ?_) (fun hb hH => ?_)
              · refine k_reg ?_
                refine pures [0, 0, 0] hτ h rfl ?_
                intro a h
                obtain ⟨q91, hq91, hH⟩ := bnd hH
                obtain ⟨x92⟩ := q91
                refine s_call fn93 ((agent_worker_open.ok x4 (Worker.mk x2 p2) _ hq91).sw_ 58000 17103) [17103] [] [] h (wanted_none rfl) rfl rfl rfl rfl rfl rfl ?_
                intro a w ν h
                refine k_end ?_
                refine k_reg1 ?_
                refine pures [0, 0, 0, 0, 0, 0] hτ h rfl ?_
                intro a h
                refine s_store hτ h (wanted_none rfl) rfl rfl rfl rfl rfl ?_
                intro a w ν h
                refine k_end1 ?_
                refine t_blk ?_
                refine t_then ?_
                refine k_seq ?_
                obtain ⟨q93, hq93, hH⟩ := bnd hH
                cases q93 with
                | o0 x94 =>
                  refine k_any mixed h ?_
                  intro w ν h
                  have h : St _ [(6, none, .ptr 17102 0), (8, none, .ptr 17103 0)] [(17103, .blk 89 [i64 x92.Switch.Epoch, i64 x4.Seq, bo x92.Switch.Open, i64 x92.Switch.Stamp, i64 x92.Switch.Bad, .sl (x92.Switch.L.map c_Ver), i64 x92.Switch.Junk, i64 x92.room]), (17102, .blk 24 [i64 0, i64 0, bo false, i64 0, i64 0, .v (.slice none 0 0), i64 0])] _ w a ν := h.pickG [6, 8] [17103, 17102] (by kernel_rfl) (by kernel_rfl) (by kernel_rfl)
                  refine mid_any (fs := [⟨some (85, none, .ptr 17103 0), [], []⟩, ⟨some (86, none, .ptr 17103 0), [], []⟩, ⟨some (87, none, .ptr 17103 0), [], []⟩, ⟨some (88, none, .ptr 17103 0), [], []⟩, ⟨some (89, none, i64 x92.Switch.Epoch), [], []⟩, ⟨some (90, none, .ptr 17103 0), [], []⟩, ⟨some (91, none, .ptr 17103 0), [], []⟩, ⟨some (92, none, .ptr 17103 0), [], []⟩, ⟨some (93, none, .ptr 17103 1), [], []⟩, ⟨some (94, none, i64 x4.Seq), [], []⟩, ⟨some (95, none, .ptr 17103 0), [], []⟩, ⟨some (96, none, .ptr 17103 0), [], []⟩, ⟨some (97, none, .ptr 17103 0), [], []⟩, ⟨some (98, none, .ptr 17103 4), [], []⟩, ⟨some (99, none, i64 x92.Switch.Bad), [], []⟩]) 0 [([], []), ([0], []), ([1, 0], []), ([2, 0, 1], []), ([3, 0, 1, 2], [17103]), ([], []), ([5], []), ([6, 5], []), ([7, 5, 6], []), ([8, 5, 6, 7], [17103]), ([], []), ([10], []), ([11, 10], []), ([12, 10, 11], []), ([13, 10, 11, 12], [17103])] (by kernel_rfl) h (by kernel_rfl) ⟨ok_plain rfl (p_pure hτ (by kernel_rfl)), ok_plain rfl (p_pure hτ (by kernel_rfl)), ok_plain rfl (p_pure hτ (by kernel_rfl)), ok_plain rfl (p_pure hτ (by kernel_rfl)), ok_plain rfl (p_pure hτ (by kernel_rfl)), ok_plain rfl (p_pure hτ (by kernel_rfl)), ok_plain rfl (p_pure hτ (by kernel_rfl)), ok_plain rfl (p_pure hτ (by kernel_rfl)), ok_plain rfl (p_pure hτ (by kernel_rfl)), ok_plain rfl (p_pure hτ (by kernel_rfl)), ok_plain rfl (p_pure hτ (by kernel_rfl)), ok_plain rfl (p_pure hτ (by kernel_rfl)), ok_plain rfl (p_pure hτ (by kernel_rfl)), ok_plain rfl (p_pure hτ (by kernel_rfl)), ok_plain rfl (p_pure hτ (by kernel_rfl)), trivial⟩ ?_
                  intro a w ν h
                  have h : St _ [(6, none, .ptr 17102 0), (8, none, .ptr 17103 0), (89, none, i64 x92.Switch.Epoch), (94, none, i64 x4.Seq), (99, none, i64 x92.Switch.Bad)] [(17103, .blk 89 [i64 x92.Switch.Epoch, i64 x4.Seq, bo x92.Switch.Open, i64 x92.Switch.Stamp, i64 x92.Switch.Bad, .sl (x92.Switch.L.map c_Ver), i64 x92.Switch.Junk, i64 x92.room]), (17102, .blk 24 [i64 0, i64 0, bo false, i64 0, i64 0, .v (.slice none 0 0), i64 0])] _ w a ν := h.pickG [6, 8, 89, 94, 99] [17103, 17102] (by kernel_rfl) (by kernel_rfl) (by kernel_rfl)
                  refine mid_any (fs := [⟨some (100, none, .agg [i64 1, i64 x92.Switch.Epoch, i64 x4.Seq, i64 x92.Switch.Bad, i64 0, i64 0, i64 0, i64 0, i64 0, i64 0]), [], []⟩, ⟨some (101, none, .tup [.v (.slice none 0 0), i64 x94]), [], []⟩, ⟨some (84, none, .tup [.v (.slice none 0 0), i64 x94]), [], []⟩, ⟨some (102, none, .v (.slice none 0 0)), [], []⟩, ⟨some (103, none, i64 x94), [], []⟩, ⟨some (13, none, .v (.slice none 0 0)), [], []⟩]) 15 [([], []), ([15], []), ([16], []), ([17], []), ([17], []), ([18, 18], [])] (by kernel_rfl) h (by kernel_rfl) ⟨ok_plain rfl (p_pure hτ (by kernel_rfl)), ok_plain rfl (p_call1 (ds0 := [.agg [i64 1, i64 x92.Switch.Epoch, i64 x4.Seq, i64 x92.Switch.Bad, i64 0, i64 0, i64 0, i64 0, i64 0, i64 0]]) fn14 (frame_Seal.ok (Msg.mk 1 x92.Switch.Epoch x4.Seq x92.Switch.Bad (Rule.mk (Prefix.mk 0 0) 0 0 (Action.mk 0 0))) _ hq93) [] (by kernel_rfl) (by kernel_rfl) (by kernel_rfl)), ok_plain rfl (p_pure hτ (by kernel_rfl)), ok_plain rfl (p_pure hτ (by kernel_rfl)), ok_plain rfl (p_pure hτ (by kernel_rfl)), ok_plain rfl (p_pure hτ (by kernel_rfl)), trivial⟩ ?_
                  intro a w ν h
                  have h : St _ [(6, none, .ptr 17102 0), (8, none, .ptr 17103 0), (13, none, .v (.slice none 0 0)), (103, none, i64 x94)] [(17103, .blk 89 [i64 x92.Switch.Epoch, i64 x4.Seq, bo x92.Switch.Open, i64 x92.Switch.Stamp, i64 x92.Switch.Bad, .sl (x92.Switch.L.map c_Ver), i64 x92.Switch.Junk, i64 x92.room]), (17102, .blk 24 [i64 0, i64 0, bo false, i64 0, i64 0, .v (.slice none 0 0), i64 0])] _ w a ν := h.pickG [6, 8, 13, 103] [17103, 17102] (by kernel_rfl) (by kernel_rfl) (by kernel_rfl)
                  refine mid_list 21 (by kernel_rfl) (by kernel_rfl) ?_
                  refine pures [0] hτ h rfl ?_
                  intro a h
                  refine k_end1 ?_
                  refine t_then ?_
                  refine k_seq ?_
                  refine k_any mixed h ?_
                  intro w ν h
                  obtain ⟨x95, hx95, hH⟩ := bnd hH
                  have h : St _ [(6, none, .ptr 17102 0), (8, none, .ptr 17103 0), (13, none, .v (.slice none 0 0))] [(17103, .blk 89 [i64 x92.Switch.Epoch, i64 x4.Seq, bo x92.Switch.Open, i64 x92.Switch.Stamp, i64 x92.Switch.Bad, .sl (x92.Switch.L.map c_Ver), i64 x92.Switch.Junk, i64 x92.room]), (17102, .blk 24 [i64 0, i64 0, bo false, i64 0, i64 0, .v (.slice none 0 0), i64 0])] _ w a ν := h.pickG [6, 8, 13] [17103, 17102] (by kernel_rfl) (by kernel_rfl) (by kernel_rfl)
                  refine mid_any (fs := [⟨some (104, none, .ptr 17103 0), [], []⟩, ⟨some (105, none, .ptr 17103 0), [], []⟩, ⟨some (106, none, .ptr 17103 0), [], []⟩, ⟨some (107, none, .agg [i64 x92.Switch.Epoch, i64 x4.Seq, bo x92.Switch.Open, i64 x92.Switch.Stamp, i64 x92.Switch.Bad, .sl (x92.Switch.L.map c_Ver), i64 x92.Switch.Junk]), [], []⟩, ⟨some (108, none, .v (.slice none 0 0)), [], []⟩, ⟨some (109, none, .sl (x95.y0.map (c_L c_u8))), [], []⟩]) 0 [([], []), ([0], []), ([1], []), ([2], [17103]), ([], []), ([4], [])] (by kernel_rfl) h (by kernel_rfl) ⟨ok_plain rfl (p_pure hτ (by kernel_rfl)), ok_plain rfl (p_pure hτ (by kernel_rfl)), ok_plain rfl (p_pure hτ (by kernel_rfl)), ok_plain rfl (p_pure hτ (by kernel_rfl)), ok_plain rfl (p_pure hτ (by kernel_rfl)), ok_plain rfl (p_call1 (ds0 := [.v (.slice none 0 0)]) fn41 (agent_frames.ok [] _ hx95) [true] (by kernel_rfl) (by kernel_rfl) (by kernel_rfl)), trivial⟩ ?_
                  intro a w ν h
                  have h : St _ [(6, none, .ptr 17102 0), (107, none, .agg [i64 x92.Switch.Epoch, i64 x4.Seq, bo x92.Switch.Open, i64 x92.Switch.Stamp, i64 x92.Switch.Bad, .sl (x92.Switch.L.map c_Ver), i64 x92.Switch.Junk]), (109, none, .sl (x95.y0.map (c_L c_u8)))] [(17103, .blk 89 [i64 x92.Switch.Epoch, i64 x4.Seq, bo x92.Switch.Open, i64 x92.Switch.Stamp, i64 x92.Switch.Bad, .sl (x92.Switch.L.map c_Ver), i64 x92.Switch.Junk, i64 x92.room]), (17102, .blk 24 [i64 0, i64 0, bo false, i64 0, i64 0, .v (.slice none 0 0), i64 0])] _ w a ν := h.pickG [6, 107, 109] [17103, 17102] (by kernel_rfl) (by kernel_rfl) (by kernel_rfl)
                  refine mid_list 6 (by kernel_rfl) (by kernel_rfl) ?_
                  refine s_store hτ h (wanted_none rfl) rfl rfl rfl rfl rfl ?_
                  intro a w ν h
                  refine pures [0] hτ h rfl ?_
                  intro a h
                  refine k_end1 ?_
                  refine t_then ?_
                  refine wp_ret ?_
                  cases hH
                  exact r_ret hτ [] h rfl rfl rfl
                | o1 x96 x97 =>
                  refine k_any mixed h ?_
                  intro w ν h
                  have h : St _ [(6, none, .ptr 17102 0), (8, none, .ptr 17103 0)] [(17103, .blk 89 [i64 x92.Switch.Epoch, i64 x4.Seq, bo x92.Switch.Open, i64 x92.Switch.Stamp, i64 x92.Switch.Bad, .sl (x92.Switch.L.map c_Ver), i64 x92.Switch.Junk, i64 x92.room]), (17102, .blk 24 [i64 0, i64 0, bo false, i64 0, i64 0, .v (.slice none 0 0), i64 0])] _ w a ν := h.pickG [6, 8] [17103, 17102] (by kernel_rfl) (by kernel_rfl) (by kernel_rfl)
                  refine mid_any (fs := [⟨some (85, none, .ptr 17103 0), [], []⟩, ⟨some (86, none, .ptr 17103 0), [], []⟩, ⟨some (87, none, .ptr 17103 0), [], []⟩, ⟨some (88, none, .ptr 17103 0), [], []⟩, ⟨some (89, none, i64 x92.Switch.Epoch), [], []⟩, ⟨some (90, none, .ptr 17103 0), [], []⟩, ⟨some (91, none, .ptr 17103 0), [], []⟩, ⟨some (92, none, .ptr 17103 0), [], []⟩, ⟨some (93, none, .ptr 17103 1), [], []⟩, ⟨some (94, none, i64 x4.Seq), [], []⟩, ⟨some (95, none, .ptr 17103 0), [], []⟩, ⟨some (96, none, .ptr 17103 0), [], []⟩, ⟨some (97, none, .ptr 17103 0), [], []⟩, ⟨some (98, none, .ptr 17103 4), [], []⟩, ⟨some (99, none, i64 x92.Switch.Bad), [], []⟩]) 0 [([], []), ([0], []), ([1, 0], []), ([2, 0, 1], []), ([3, 0, 1, 2], [17103]), ([], []), ([5], []), ([6, 5], []), ([7, 5, 6], []), ([8, 5, 6, 7], [17103]), ([], []), ([10], []), ([11, 10], []), ([12, 10, 11], []), ([13, 10, 11, 12], [17103])] (by kernel_rfl) h (by kernel_rfl) ⟨ok_plain rfl (p_pure hτ (by kernel_rfl)), ok_plain rfl (p_pure hτ (by kernel_rfl)), ok_plain rfl (p_pure hτ (by kernel_rfl)), ok_plain rfl (p_pure hτ (by kernel_rfl)), ok_plain rfl (p_pure hτ (by kernel_rfl)), ok_plain rfl (p_pure hτ (by kernel_rfl)), ok_plain rfl (p_pure hτ (by kernel_rfl)), ok_plain rfl (p_pure hτ (by kernel_rfl)), ok_plain rfl (p_pure hτ (by kernel_rfl)), ok_plain rfl (p_pure hτ (by kernel_rfl)), ok_plain rfl (p_pure hτ (by kernel_rfl)), ok_plain rfl (p_pure hτ (by kernel_rfl)), ok_plain rfl (p_pure hτ (by kernel_rfl)), ok_plain rfl (p_pure hτ (by kernel_rfl)), ok_plain rfl (p_pure hτ (by kernel_rfl)), trivial⟩ ?_
                  intro a w ν h
                  have h : St _ [(6, none, .ptr 17102 0), (8, none, .ptr 17103 0), (89, none, i64 x92.Switch.Epoch), (94, none, i64 x4.Seq), (99, none, i64 x92.Switch.Bad)] [(17103, .blk 89 [i64 x92.Switch.Epoch, i64 x4.Seq, bo x92.Switch.Open, i64 x92.Switch.Stamp, i64 x92.Switch.Bad, .sl (x92.Switch.L.map c_Ver), i64 x92.Switch.Junk, i64 x92.room]), (17102, .blk 24 [i64 0, i64 0, bo false, i64 0, i64 0, .v (.slice none 0 0), i64 0])] _ w a ν := h.pickG [6, 8, 89, 94, 99] [17103, 17102] (by kernel_rfl) (by kernel_rfl) (by kernel_rfl)
                  refine mid_any (fs := [⟨some (100, none, .agg [i64 1, i64 x92.Switch.Epoch, i64 x4.Seq, i64 x92.Switch.Bad, i64 0, i64 0, i64 0, i64 0, i64 0, i64 0]), [], []⟩, ⟨some (101, none, .tup [.sl (x96.map c_u8), i64 x97]), [], []⟩, ⟨some (84, none, .tup [.sl (x96.map c_u8), i64 x97]), [], []⟩, ⟨some (102, none, .sl (x96.map c_u8)), [], []⟩, ⟨some (103, none, i64 x97), [], []⟩, ⟨some (13, none, .sl (x96.map c_u8)), [], []⟩]) 15 [([], []), ([15], []), ([16], []), ([17], []), ([17], []), ([18, 18], [])] (by kernel_rfl) h (by kernel_rfl) ⟨ok_plain rfl (p_pure hτ (by kernel_rfl)), ok_plain rfl (p_call1 (ds0 := [.agg [i64 1, i64 x92.Switch.Epoch, i64 x4.Seq, i64 x92.Switch.Bad, i64 0, i64 0, i64 0, i64 0, i64 0, i64 0]]) fn14 (frame_Seal.ok (Msg.mk 1 x92.Switch.Epoch x4.Seq x92.Switch.Bad (Rule.mk (Prefix.mk 0 0) 0 0 (Action.mk 0 0))) _ hq93) [] (by kernel_rfl) (by kernel_rfl) (by kernel_rfl)), ok_plain rfl (p_pure hτ (by kernel_rfl)), ok_plain rfl (p_pure hτ (by kernel_rfl)), ok_plain rfl (p_pure hτ (by kernel_rfl)), ok_plain rfl (p_pure hτ (by kernel_rfl)), trivial⟩ ?_
                  intro a w ν h
                  have h : St _ [(6, none, .ptr 17102 0), (8, none, .ptr 17103 0), (13, none, .sl (x96.map c_u8)), (103, none, i64 x97)] [(17103, .blk 89 [i64 x92.Switch.Epoch, i64 x4.Seq, bo x92.Switch.Open, i64 x92.Switch.Stamp, i64 x92.Switch.Bad, .sl (x92.Switch.L.map c_Ver), i64 x92.Switch.Junk, i64 x92.room]), (17102, .blk 24 [i64 0, i64 0, bo false, i64 0, i64 0, .v (.slice none 0 0), i64 0])] _ w a ν := h.pickG [6, 8, 13, 103] [17103, 17102] (by kernel_rfl) (by kernel_rfl) (by kernel_rfl)
                  refine mid_list 21 (by kernel_rfl) (by kernel_rfl) ?_
                  refine pures [0] hτ h rfl ?_
                  intro a h
                  refine k_end1 ?_
                  refine t_then ?_
                  refine k_seq ?_
                  refine k_any mixed h ?_
                  intro w ν h
                  obtain ⟨x98, hx98, hH⟩ := bnd hH
                  have h : St _ [(6, none, .ptr 17102 0), (8, none, .ptr 17103 0), (13, none, .sl (x96.map c_u8))] [(17103, .blk 89 [i64 x92.Switch.Epoch, i64 x4.Seq, bo x92.Switch.Open, i64 x92.Switch.Stamp, i64 x92.Switch.Bad, .sl (x92.Switch.L.map c_Ver), i64 x92.Switch.Junk, i64 x92.room]), (17102, .blk 24 [i64 0, i64 0, bo false, i64 0, i64 0, .v (.slice none 0 0), i64 0])] _ w a ν := h.pickG [6, 8, 13] [17103, 17102] (by kernel_rfl) (by kernel_rfl) (by kernel_rfl)
                  refine mid_any (fs := [⟨some (104, none, .ptr 17103 0), [], []⟩, ⟨some (105, none, .ptr 17103 0), [], []⟩, ⟨some (106, none, .ptr 17103 0), [], []⟩, ⟨some (107, none, .agg [i64 x92.Switch.Epoch, i64 x4.Seq, bo x92.Switch.Open, i64 x92.Switch.Stamp, i64 x92.Switch.Bad, .sl (x92.Switch.L.map c_Ver), i64 x92.Switch.Junk]), [], []⟩, ⟨some (108, none, .sl (x96.map c_u8)), [], []⟩, ⟨some (109, none, .sl (x98.y0.map (c_L c_u8))), [], []⟩]) 0 [([], []), ([0], []), ([1], []), ([2], [17103]), ([], []), ([4], [])] (by kernel_rfl) h (by kernel_rfl) ⟨ok_plain rfl (p_pure hτ (by kernel_rfl)), ok_plain rfl (p_pure hτ (by kernel_rfl)), ok_plain rfl (p_pure hτ (by kernel_rfl)), ok_plain rfl (p_pure hτ (by kernel_rfl)), ok_plain rfl (p_pure hτ (by kernel_rfl)), ok_plain rfl (p_call1 (ds0 := [.sl (x96.map c_u8)]) fn41 (agent_frames.ok x96 _ hx98) [] (by kernel_rfl) (by kernel_rfl) (by kernel_rfl)), trivial⟩ ?_
                  intro a w ν h
                  have h : St _ [(6, none, .ptr 17102 0), (107, none, .agg [i64 x92.Switch.Epoch, i64 x4.Seq, bo x92.Switch.Open, i64 x92.Switch.Stamp, i64 x92.Switch.Bad, .sl (x92.Switch.L.map c_Ver), i64 x92.Switch.Junk]), (109, none, .sl (x98.y0.map (c_L c_u8)))] [(17103, .blk 89 [i64 x92.Switch.Epoch, i64 x4.Seq, bo x92.Switch.Open, i64 x92.Switch.Stamp, i64 x92.Switch.Bad, .sl (x92.Switch.L.map c_Ver), i64 x92.Switch.Junk, i64 x92.room]), (17102, .blk 24 [i64 0, i64 0, bo false, i64 0, i64 0, .v (.slice none 0 0), i64 0])] _ w a ν := h.pickG [6, 107, 109] [17103, 17102] (by kernel_rfl) (by kernel_rfl) (by kernel_rfl)
                  refine mid_list 6 (by kernel_rfl) (by kernel_rfl) ?_
                  refine s_store hτ h (wanted_none rfl) rfl rfl rfl rfl rfl ?_
                  intro a w ν h
                  refine pures [0] hτ h rfl ?_
                  intro a h
                  refine k_end1 ?_
                  refine t_then ?_
                  refine wp_ret ?_
                  cases hH
                  exact r_ret hτ [] h rfl rfl rfl
              · refine k_skip ?_
                refine t_blk ?_
                refine t_then ?_
                refine k_seq ?_
                obtain ⟨q99, hq99, hH⟩ := bnd hH
                cases q99 with
                | o0 x100 =>
                  refine k_any mixed h ?_
                  intro w ν h
                  have h : St _ [(6, none, .ptr 17102 0), (8, none, .ptr 17103 0)] [(17103, .blk 89 [i64 x2.Epoch, i64 x2.Seen, bo x2.Open, i64 x2.Stamp, i64 x2.Bad, .sl (x2.L.map c_Ver), i64 x2.Junk, i64 p2]), (17102, .blk 24 [i64 0, i64 0, bo false, i64 0, i64 0, .v (.slice none 0 0), i64 0])] _ w a ν := h.pickG [6, 8] [17103, 17102] (by kernel_rfl) (by kernel_rfl) (by kernel_rfl)
                  refine mid_any (fs := [⟨some (85, none, .ptr 17103 0), [], []⟩, ⟨some (86, none, .ptr 17103 0), [], []⟩, ⟨some (87, none, .ptr 17103 0), [], []⟩, ⟨some (88, none, .ptr 17103 0), [], []⟩, ⟨some (89, none, i64 x2.Epoch), [], []⟩, ⟨some (90, none, .ptr 17103 0), [], []⟩, ⟨some (91, none, .ptr 17103 0), [], []⟩, ⟨some (92, none, .ptr 17103 0), [], []⟩, ⟨some (93, none, .ptr 17103 1), [], []⟩, ⟨some (94, none, i64 x2.Seen), [], []⟩, ⟨some (95, none, .ptr 17103 0), [], []⟩, ⟨some (96, none, .ptr 17103 0), [], []⟩, ⟨some (97, none, .ptr 17103 0), [], []⟩, ⟨some (98, none, .ptr 17103 4), [], []⟩, ⟨some (99, none, i64 x2.Bad), [], []⟩]) 0 [([], []), ([0], []), ([1, 0], []), ([2, 0, 1], []), ([3, 0, 1, 2], [17103]), ([], []), ([5], []), ([6, 5], []), ([7, 5, 6], []), ([8, 5, 6, 7], [17103]), ([], []), ([10], []), ([11, 10], []), ([12, 10, 11], []), ([13, 10, 11, 12], [17103])] (by kernel_rfl) h (by kernel_rfl) ⟨ok_plain rfl (p_pure hτ (by kernel_rfl)), ok_plain rfl (p_pure hτ (by kernel_rfl)), ok_plain rfl (p_pure hτ (by kernel_rfl)), ok_plain rfl (p_pure hτ (by kernel_rfl)), ok_plain rfl (p_pure hτ (by kernel_rfl)), ok_plain rfl (p_pure hτ (by kernel_rfl)), ok_plain rfl (p_pure hτ (by kernel_rfl)), ok_plain rfl (p_pure hτ (by kernel_rfl)), ok_plain rfl (p_pure hτ (by kernel_rfl)), ok_plain rfl (p_pure hτ (by kernel_rfl)), ok_plain rfl (p_pure hτ (by kernel_rfl)), ok_plain rfl (p_pure hτ (by kernel_rfl)), ok_plain rfl (p_pure hτ (by kernel_rfl)), ok_plain rfl (p_pure hτ (by kernel_rfl)), ok_plain rfl (p_pure hτ (by kernel_rfl)), trivial⟩ ?_
                  intro a w ν h
                  have h : St _ [(6, none, .ptr 17102 0), (8, none, .ptr 17103 0), (89, none, i64 x2.Epoch), (94, none, i64 x2.Seen), (99, none, i64 x2.Bad)] [(17103, .blk 89 [i64 x2.Epoch, i64 x2.Seen, bo x2.Open, i64 x2.Stamp, i64 x2.Bad, .sl (x2.L.map c_Ver), i64 x2.Junk, i64 p2]), (17102, .blk 24 [i64 0, i64 0, bo false, i64 0, i64 0, .v (.slice none 0 0), i64 0])] _ w a ν := h.pickG [6, 8, 89, 94, 99] [17103, 17102] (by kernel_rfl) (by kernel_rfl) (by kernel_rfl)
                  refine mid_any (fs := [⟨some (100, none, .agg [i64 1, i64 x2.Epoch, i64 x2.Seen, i64 x2.Bad, i64 0, i64 0, i64 0, i64 0, i64 0, i64 0]), [], []⟩, ⟨some (101, none, .tup [.v (.slice none 0 0), i64 x100]), [], []⟩, ⟨some (84, none, .tup [.v (.slice none 0 0), i64 x100]), [], []⟩, ⟨some (102, none, .v (.slice none 0 0)), [], []⟩, ⟨some (103, none, i64 x100), [], []⟩, ⟨some (13, none, .v (.slice none 0 0)), [], []⟩]) 15 [([], []), ([15], []), ([16], []), ([17], []), ([17], []), ([18, 18], [])] (by kernel_rfl) h (by kernel_rfl) ⟨ok_plain rfl (p_pure hτ (by kernel_rfl)), ok_plain rfl (p_call1 (ds0 := [.agg [i64 1, i64 x2.Epoch, i64 x2.Seen, i64 x2.Bad, i64 0, i64 0, i64 0, i64 0, i64 0, i64 0]]) fn14 (frame_Seal.ok (Msg.mk 1 x2.Epoch x2.Seen x2.Bad (Rule.mk (Prefix.mk 0 0) 0 0 (Action.mk 0 0))) _ hq99) [] (by kernel_rfl) (by kernel_rfl) (by kernel_rfl)), ok_plain rfl (p_pure hτ (by kernel_rfl)), ok_plain rfl (p_pure hτ (by kernel_rfl)), ok_plain rfl (p_pure hτ (by kernel_rfl)), ok_plain rfl (p_pure hτ (by kernel_rfl)), trivial⟩ ?_
                  intro a w ν h
                  have h : St _ [(6, none, .ptr 17102 0), (8, none, .ptr 17103 0), (13, none, .v (.slice none 0 0)), (103, none, i64 x100)] [(17103, .blk 89 [i64 x2.Epoch, i64 x2.Seen, bo x2.Open, i64 x2.Stamp, i64 x2.Bad, .sl (x2.L.map c_Ver), i64 x2.Junk, i64 p2]), (17102, .blk 24 [i64 0, i64 0, bo false, i64 0, i64 0, .v (.slice none 0 0), i64 0])] _ w a ν := h.pickG [6, 8, 13, 103] [17103, 17102] (by kernel_rfl) (by kernel_rfl) (by kernel_rfl)
                  refine mid_list 21 (by kernel_rfl) (by kernel_rfl) ?_
                  refine pures [0] hτ h rfl ?_
                  intro a h
                  refine k_end1 ?_
                  refine t_then ?_
                  refine k_seq ?_
                  refine k_any mixed h ?_
                  intro w ν h
                  obtain ⟨x101, hx101, hH⟩ := bnd hH
                  have h : St _ [(6, none, .ptr 17102 0), (8, none, .ptr 17103 0), (13, none, .v (.slice none 0 0))] [(17103, .blk 89 [i64 x2.Epoch, i64 x2.Seen, bo x2.Open, i64 x2.Stamp, i64 x2.Bad, .sl (x2.L.map c_Ver), i64 x2.Junk, i64 p2]), (17102, .blk 24 [i64 0, i64 0, bo false, i64 0, i64 0, .v (.slice none 0 0), i64 0])] _ w a ν := h.pickG [6, 8, 13] [17103, 17102] (by kernel_rfl) (by kernel_rfl) (by kernel_rfl)
                  refine mid_any (fs := [⟨some (104, none, .ptr 17103 0), [], []⟩, ⟨some (105, none, .ptr 17103 0), [], []⟩, ⟨some (106, none, .ptr 17103 0), [], []⟩, ⟨some (107, none, .agg [i64 x2.Epoch, i64 x2.Seen, bo x2.Open, i64 x2.Stamp, i64 x2.Bad, .sl (x2.L.map c_Ver), i64 x2.Junk]), [], []⟩, ⟨some (108, none, .v (.slice none 0 0)), [], []⟩, ⟨some (109, none, .sl (x101.y0.map (c_L c_u8))), [], []⟩]) 0 [([], []), ([0], []), ([1], []), ([2], [17103]), ([], []), ([4], [])] (by kernel_rfl) h (by kernel_rfl) ⟨ok_plain rfl (p_pure hτ (by kernel_rfl)), ok_plain rfl (p_pure hτ (by kernel_rfl)), ok_plain rfl (p_pure hτ (by kernel_rfl)), ok_plain rfl (p_pure hτ (by kernel_rfl)), ok_plain rfl (p_pure hτ (by kernel_rfl)), ok_plain rfl (p_call1 (ds0 := [.v (.slice none 0 0)]) fn41 (agent_frames.ok [] _ hx101) [true] (by kernel_rfl) (by kernel_rfl) (by kernel_rfl)), trivial⟩ ?_
                  intro a w ν h
                  have h : St _ [(6, none, .ptr 17102 0), (107, none, .agg [i64 x2.Epoch, i64 x2.Seen, bo x2.Open, i64 x2.Stamp, i64 x2.Bad, .sl (x2.L.map c_Ver), i64 x2.Junk]), (109, none, .sl (x101.y0.map (c_L c_u8)))] [(17103, .blk 89 [i64 x2.Epoch, i64 x2.Seen, bo x2.Open, i64 x2.Stamp, i64 x2.Bad, .sl (x2.L.map c_Ver), i64 x2.Junk, i64 p2]), (17102, .blk 24 [i64 0, i64 0, bo false, i64 0, i64 0, .v (.slice none 0 0), i64 0])] _ w a ν := h.pickG [6, 107, 109] [17103, 17102] (by kernel_rfl) (by kernel_rfl) (by kernel_rfl)
                  refine mid_list 6 (by kernel_rfl) (by kernel_rfl) ?_
                  refine s_store hτ h (wanted_none rfl) rfl rfl rfl rfl rfl ?_
                  intro a w ν h
                  refine pures [0] hτ h rfl ?_
                  intro a h
                  refine k_end1 ?_
                  refine t_then ?_
                  refine wp_ret ?_
                  cases hH
                  exact r_ret hτ [] h rfl rfl rfl
                | o1 x102 x103 =>
                  refine k_any mixed h ?_
                  intro w ν h
                  have h : St _ [(6, none, .ptr 17102 0), (8, none, .ptr 17103 0)] [(17103, .blk 89 [i64 x2.Epoch, i64 x2.Seen, bo x2.Open, i64 x2.Stamp, i64 x2.Bad, .sl (x2.L.map c_Ver), i64 x2.Junk, i64 p2]), (17102, .blk 24 [i64 0, i64 0, bo false, i64 0, i64 0, .v (.slice none 0 0), i64 0])] _ w a ν := h.pickG [6, 8] [17103, 17102] (by kernel_rfl) (by kernel_rfl) (by kernel_rfl)
                  refine mid_any (fs := [⟨some (85, none, .ptr 17103 0), [], []⟩, ⟨some (86, none, .ptr 17103 0), [], []⟩, ⟨some (87, none, .ptr 17103 0), [], []⟩, ⟨some (88, none, .ptr 17103 0), [], []⟩, ⟨some (89, none, i64 x2.Epoch), [], []⟩, ⟨some (90, none, .ptr 17103 0), [], []⟩, ⟨some (91, none, .ptr 17103 0), [], []⟩, ⟨some (92, none, .ptr 17103 0), [], []⟩, ⟨some (93, none, .ptr 17103 1), [], []⟩, ⟨some (94, none, i64 x2.Seen), [], []⟩, ⟨some (95, none, .ptr 17103 0), [], []⟩, ⟨some (96, none, .ptr 17103 0), [], []⟩, ⟨some (97, none, .ptr 17103 0), [], []⟩, ⟨some (98, none, .ptr 17103 4), [], []⟩, ⟨some (99, none, i64 x2.Bad), [], []⟩]) 0 [([], []), ([0], []), ([1, 0], []), ([2, 0, 1], []), ([3, 0, 1, 2], [17103]), ([], []), ([5], []), ([6, 5], []), ([7, 5, 6], []), ([8, 5, 6, 7], [17103]), ([], []), ([10], []), ([11, 10], []), ([12, 10, 11], []), ([13, 10, 11, 12], [17103])] (by kernel_rfl) h (by kernel_rfl) ⟨ok_plain rfl (p_pure hτ (by kernel_rfl)), ok_plain rfl (p_pure hτ (by kernel_rfl)), ok_plain rfl (p_pure hτ (by kernel_rfl)), ok_plain rfl (p_pure hτ (by kernel_rfl)), ok_plain rfl (p_pure hτ (by kernel_rfl)), ok_plain rfl (p_pure hτ (by kernel_rfl)), ok_plain rfl (p_pure hτ (by kernel_rfl)), ok_plain rfl (p_pure hτ (by kernel_rfl)), ok_plain rfl (p_pure hτ (by kernel_rfl)), ok_plain rfl (p_pure hτ (by kernel_rfl)), ok_plain rfl (p_pure hτ (by kernel_rfl)), ok_plain rfl (p_pure hτ (by kernel_rfl)), ok_plain rfl (p_pure hτ (by kernel_rfl)), ok_plain rfl (p_pure hτ (by kernel_rfl)), ok_plain rfl (p_pure hτ (by kernel_rfl)), trivial⟩ ?_
                  intro a w ν h
                  have h : St _ [(6, none, .ptr 17102 0), (8, none, .ptr 17103 0), (89, none, i64 x2.Epoch), (94, none, i64 x2.Seen), (99, none, i64 x2.Bad)] [(17103, .blk 89 [i64 x2.Epoch, i64 x2.Seen, bo x2.Open, i64 x2.Stamp, i64 x2.Bad, .sl (x2.L.map c_Ver), i64 x2.Junk, i64 p2]), (17102, .blk 24 [i64 0, i64 0, bo false, i64 0, i64 0, .v (.slice none 0 0), i64 0])] _ w a ν := h.pickG [6, 8, 89, 94, 99] [17103, 17102] (by kernel_rfl) (by kernel_rfl) (by kernel_rfl)
                  refine mid_any (fs := [⟨some (100, none, .agg [i64 1, i64 x2.Epoch, i64 x2.Seen, i64 x2.Bad, i64 0, i64 0, i64 0, i64 0, i64 0, i64 0]), [], []⟩, ⟨some (101, none, .tup [.sl (x102.map c_u8), i64 x103]), [], []⟩, ⟨some (84, none, .tup [.sl (x102.map c_u8), i64 x103]), [], []⟩, ⟨some (102, none, .sl (x102.map c_u8)), [], []⟩, ⟨some (103, none, i64 x103), [], []⟩, ⟨some (13, none, .sl (x102.map c_u8)), [], []⟩]) 15 [([], []), ([15], []), ([16], []), ([17], []), ([17], []), ([18, 18], [])] (by kernel_rfl) h (by kernel_rfl) ⟨ok_plain rfl (p_pure hτ (by kernel_rfl)), ok_plain rfl (p_call1 (ds0 := [.agg [i64 1, i64 x2.Epoch, i64 x2.Seen, i64 x2.Bad, i64 0, i64 0, i64 0, i64 0, i64 0, i64 0]]) fn14 (frame_Seal.ok (Msg.mk 1 x2.Epoch x2.Seen x2.Bad (Rule.mk (Prefix.mk 0 0) 0 0 (Action.mk 0 0))) _ hq99) [] (by kernel_rfl) (by kernel_rfl) (by kernel_rfl)), ok_plain rfl (p_pure hτ (by kernel_rfl)), ok_plain rfl (p_pure hτ (by kernel_rfl)), ok_plain rfl (p_pure hτ (by kernel_rfl)), ok_plain rfl (p_pure hτ (by kernel_rfl)), trivial⟩ ?_
                  intro a w ν h
                  have h : St _ [(6, none, .ptr 17102 0), (8, none, .ptr 17103 0), (13, none, .sl (x102.map c_u8)), (103, none, i64 x103)] [(17103, .blk 89 [i64 x2.Epoch, i64 x2.Seen, bo x2.Open, i64 x2.Stamp, i64 x2.Bad, .sl (x2.L.map c_Ver), i64 x2.Junk, i64 p2]), (17102, .blk 24 [i64 0, i64 0, bo false, i64 0, i64 0, .v (.slice none 0 0), i64 0])] _ w a ν := h.pickG [6, 8, 13, 103] [17103, 17102] (by kernel_rfl) (by kernel_rfl) (by kernel_rfl)
                  refine mid_list 21 (by kernel_rfl) (by kernel_rfl) ?_
                  refine pures [0] hτ h rfl ?_
                  intro a h
                  refine k_end1 ?_
                  refine t_then ?_
                  refine k_seq ?_
                  refine k_any mixed h ?_
                  intro w ν h
                  obtain ⟨x104, hx104, hH⟩ := bnd hH
                  have h : St _ [(6, none, .ptr 17102 0), (8, none, .ptr 17103 0), (13, none, .sl (x102.map c_u8))] [(17103, .blk 89 [i64 x2.Epoch, i64 x2.Seen, bo x2.Open, i64 x2.Stamp, i64 x2.Bad, .sl (x2.L.map c_Ver), i64 x2.Junk, i64 p2]), (17102, .blk 24 [i64 0, i64 0, bo false, i64 0, i64 0, .v (.slice none 0 0), i64 0])] _ w a ν := h.pickG [6, 8, 13] [17103, 17102] (by kernel_rfl) (by kernel_rfl) (by kernel_rfl)
                  refine mid_any (fs := [⟨some (104, none, .ptr 17103 0), [], []⟩, ⟨some (105, none, .ptr 17103 0), [], []⟩, ⟨some (106, none, .ptr 17103 0), [], []⟩, ⟨some (107, none, .agg [i64 x2.Epoch, i64 x2.Seen, bo x2.Open, i64 x2.Stamp, i64 x2.Bad, .sl (x2.L.map c_Ver), i64 x2.Junk]), [], []⟩, ⟨some (108, none, .sl (x102.map c_u8)), [], []⟩, ⟨some (109, none, .sl (x104.y0.map (c_L c_u8))), [], []⟩]) 0 [([], []), ([0], []), ([1], []), ([2], [17103]), ([], []), ([4], [])] (by kernel_rfl) h (by kernel_rfl) ⟨ok_plain rfl (p_pure hτ (by kernel_rfl)), ok_plain rfl (p_pure hτ (by kernel_rfl)), ok_plain rfl (p_pure hτ (by kernel_rfl)), ok_plain rfl (p_pure hτ (by kernel_rfl)), ok_plain rfl (p_pure hτ (by kernel_rfl)), ok_plain rfl (p_call1 (ds0 := [.sl (x102.map c_u8)]) fn41 (agent_frames.ok x102 _ hx104) [] (by kernel_rfl) (by kernel_rfl) (by kernel_rfl)), trivial⟩ ?_
                  intro a w ν h
                  have h : St _ [(6, none, .ptr 17102 0), (107, none, .agg [i64 x2.Epoch, i64 x2.Seen, bo x2.Open, i64 x2.Stamp, i64 x2.Bad, .sl (x2.L.map c_Ver), i64 x2.Junk]), (109, none, .sl (x104.y0.map (c_L c_u8)))] [(17103, .blk 89 [i64 x2.Epoch, i64 x2.Seen, bo x2.Open, i64 x2.Stamp, i64 x2.Bad, .sl (x2.L.map c_Ver), i64 x2.Junk, i64 p2]), (17102, .blk 24 [i64 0, i64 0, bo false, i64 0, i64 0, .v (.slice none 0 0), i64 0])] _ w a ν := h.pickG [6, 107, 109] [17103, 17102] (by kernel_rfl) (by kernel_rfl) (by kernel_rfl)
                  refine mid_list 6 (by kernel_rfl) (by kernel_rfl) ?_
                  refine s_store hτ h (wanted_none rfl) rfl rfl rfl rfl rfl ?_
                  intro a w ν h
                  refine pures [0] hτ h rfl ?_
                  intro a h
                  refine k_end1 ?_
                  refine t_then ?_
                  refine wp_ret ?_
                  cases hH
                  exact r_ret hτ [] h rfl rfl rfl
        · refine k_any mixed h ?_
          intro w ν h
          obtain ⟨x105, hx105, hH⟩ := bnd hH
          have h : St _ [(3, none, .ptr 17101 0), (6, none, .ptr 17102 0), (8, none, .ptr 17103 0), (9, none, .ptr 17104 0), (10, none, i64 x5)] [(17104, .blk 32 [i64 x4.Kind, i64 x4.Epoch, i64 x4.Seq, i64 x4.Tag, i64 x4.R.P.Addr, i64 x4.R.P.Len, i64 x4.R.In, i64 x4.R.Prio, i64 x4.R.Act.Kind, i64 x4.R.Act.Port]), (17103, .blk 89 [i64 x2.Epoch, i64 x2.Seen, bo x2.Open, i64 x2.Stamp, i64 x2.Bad, .sl (x2.L.map c_Ver), i64 x2.Junk, i64 p2]), (17102, .blk 24 [i64 0, i64 0, bo false, i64 0, i64 0, .v (.slice none 0 0), i64 0]), (17101, .blk 24 [i64 p0.Epoch, i64 p0.Seen, bo p0.Open, i64 p0.Stamp, i64 p0.Bad, .sl (p0.L.map c_Ver), i64 p0.Junk])] _ w a ν := h.pickG [3, 6, 8, 9, 10] [17104, 17103, 17102, 17101] (by kernel_rfl) (by kernel_rfl) (by kernel_rfl)
          refine mid_any (fs := [⟨some (26, none, .own 17111), [], [(17111, .mp [(.int .i64 2, .v (.func (.func 90) #[] #[])), (.int .i64 3, .v (.func (.func 91) #[] #[])), (.int .i64 4, .v (.func (.func 92) #[] #[])), (.int .i64 5, .v (.func (.func 93) #[] #[]))])]⟩, ⟨some (27, none, .ptr 17104 0), [], []⟩, ⟨some (28, none, i64 x4.Kind), [], []⟩, ⟨some (29, none, .tup [.v (.nilFunc), bo false]), [], []⟩, ⟨some (25, none, .tup [.v (.nilFunc), bo false]), [], []⟩, ⟨some (30, none, .v (.nilFunc)), [], []⟩, ⟨some (31, none, bo false), [], []⟩, ⟨some (11, none, .v (.nilFunc)), [], []⟩]) 0 [([], []), ([], []), ([1], [17104]), ([0, 2], [17111]), ([3], []), ([4], []), ([4], []), ([5, 5], [])] (by kernel_rfl) h (by kernel_rfl) ⟨ok_plain rfl (p_callN (ds0 := []) fn39 ((agent_work.ok _ hx105).sw_ 41900 17111) [] (by kernel_rfl) (by kernel_rfl) (by kernel_rfl) (by kernel_rfl)), ok_plain rfl (p_pure hτ (by kernel_rfl)), ok_plain rfl (p_pure hτ (by kernel_rfl)), ok_plain rfl (p_of0 rfl fun w a ν X hO hF hg => e_lkp0 mapT92 zero90 rfl hF hO hg rfl rfl (by simp [lookI, hk0_2, hk0_3, hk0_4, hk0_5] <;> rfl)), ok_plain rfl (p_pure hτ (by kernel_rfl)), ok_plain rfl (p_pure hτ (by kernel_rfl)), ok_plain rfl (p_pure hτ (by kernel_rfl)), ok_plain rfl (p_pure hτ (by kernel_rfl)), trivial⟩ ?_
          intro a w ν h
          have h : St _ [(3, none, .ptr 17101 0), (6, none, .ptr 17102 0), (8, none, .ptr 17103 0), (9, none, .ptr 17104 0), (10, none, i64 x5), (11, none, .v (.nilFunc)), (31, none, bo false)] [(17111, .mp [(.int .i64 2, .v (.func (.func 90) #[] #[])), (.int .i64 3, .v (.func (.func 91) #[] #[])), (.int .i64 4, .v (.func (.func 92) #[] #[])), (.int .i64 5, .v (.func (.func 93) #[] #[]))]), (17104, .blk 32 [i64 x4.Kind, i64 x4.Epoch, i64 x4.Seq, i64 x4.Tag, i64 x4.R.P.Addr, i64 x4.R.P.Len, i64 x4.R.In, i64 x4.R.Prio, i64 x4.R.Act.Kind, i64 x4.R.Act.Port]), (17103, .blk 89 [i64 x2.Epoch, i64 x2.Seen, bo x2.Open, i64 x2.Stamp, i64 x2.Bad, .sl (x2.L.map c_Ver), i64 x2.Junk, i64 p2]), (17102, .blk 24 [i64 0, i64 0, bo false, i64 0, i64 0, .v (.slice none 0 0), i64 0]), (17101, .blk 24 [i64 p0.Epoch, i64 p0.Seen, bo p0.Open, i64 p0.Stamp, i64 p0.Bad, .sl (p0.L.map c_Ver), i64 p0.Junk])] _ w a ν := h.pickG [3, 6, 8, 9, 10, 11, 31] [17111, 17104, 17103, 17102, 17101] (by kernel_rfl) (by kernel_rfl) (by kernel_rfl)
          refine mid_list 8 (by kernel_rfl) (by kernel_rfl) ?_
          refine pures [0] hτ h rfl ?_
          intro a h
          refine k_end1 ?_
          refine t_then ?_
          refine k_seq ?_
          refine k_reg ?_
          refine pures [0, 0, 0, 1, 1, 0] hτ h rfl ?_
          intro a h
          refine k_end ?_
          refine k_ifH hH h rfl (fun hb hH => ?_) (fun hb hH => ?_)
          · refine k_reg ?_
            refine pures [0, 0, 0, 0, 0, 0, 0, 0, 0] hτ h rfl ?_
            intro a h
            refine s_store hτ h (wanted_none rfl) rfl rfl rfl rfl rfl ?_
            intro a w ν h
            refine k_end ?_
            refine k_reg ?_
            refine pures [0, 0, 0, 0] hτ h rfl ?_
            intro a h
            refine s_store hτ h (wanted_none rfl) rfl rfl rfl rfl rfl ?_
            intro a w ν h
            refine pures [0] hτ h rfl ?_
            intro a h
            refine k_end ?_
            refine wp_ret ?_
            cases hH
            exact r_ret hτ [] h rfl rfl rfl
          · refine k_skip ?_
            refine t_then ?_
            refine k_seq ?_
            refine k_seq ?_
            refine k_any mixed h ?_
            intro w ν h
            have h : St _ [(3, none, .ptr 17101 0), (6, none, .ptr 17102 0), (8, none, .ptr 17103 0), (9, none, .ptr 17104 0), (11, none, .v (.nilFunc))] [(17104, .blk 32 [i64 x4.Kind, i64 x4.Epoch, i64 x4.Seq, i64 x4.Tag, i64 x4.R.P.Addr, i64 x4.R.P.Len, i64 x4.R.In, i64 x4.R.Prio, i64 x4.R.Act.Kind, i64 x4.R.Act.Port]), (17103, .blk 89 [i64 x2.Epoch, i64 x2.Seen, bo x2.Open, i64 x2.Stamp, i64 x2.Bad, .sl (x2.L.map c_Ver), i64 x2.Junk, i64 p2]), (17102, .blk 24 [i64 0, i64 0, bo false, i64 0, i64 0, .v (.slice none 0 0), i64 0]), (17101, .blk 24 [i64 p0.Epoch, i64 p0.Seen, bo p0.Open, i64 p0.Stamp, i64 p0.Bad, .sl (p0.L.map c_Ver), i64 p0.Junk])] _ w a ν := h.pickG [3, 6, 8, 9, 11] [17104, 17103, 17102, 17101] (by kernel_rfl) (by kernel_rfl) (by kernel_rfl)
            refine mid_any (fs := [⟨some (51, none, .ptr 17103 0), [], []⟩, ⟨some (52, none, .ptr 17103 0), [], []⟩, ⟨some (53, none, .ptr 17103 0), [], []⟩, ⟨some (54, none, .ptr 17103 0), [], []⟩, ⟨some (55, none, i64 x2.Epoch), [], []⟩, ⟨some (56, none, .ptr 17103 0), [], []⟩, ⟨some (57, none, .ptr 17103 0), [], []⟩, ⟨some (58, none, .ptr 17103 0), [], []⟩, ⟨some (59, none, .ptr 17103 1), [], []⟩, ⟨some (60, none, i64 x2.Seen), [], []⟩, ⟨some (61, none, .agg [i64 x4.Kind, i64 x4.Epoch, i64 x4.Seq, i64 x4.Tag, i64 x4.R.P.Addr, i64 x4.R.P.Len, i64 x4.R.In, i64 x4.R.Prio, i64 x4.R.Act.Kind, i64 x4.R.Act.Port]), [], []⟩]) 0 [([], []), ([0], []), ([1, 0], []), ([2, 0, 1], []), ([3, 0, 1, 2], [17103]), ([], []), ([5], []), ([6, 5], []), ([7, 5, 6], []), ([8, 5, 6, 7], [17103]), ([], [17104])] (by kernel_rfl) h (by kernel_rfl) ⟨ok_plain rfl (p_pure hτ (by kernel_rfl)), ok_plain rfl (p_pure hτ (by kernel_rfl)), ok_plain rfl (p_pure hτ (by kernel_rfl)), ok_plain rfl (p_pure hτ (by kernel_rfl)), ok_plain rfl (p_pure hτ (by kernel_rfl)), ok_plain rfl (p_pure hτ (by kernel_rfl)), ok_plain rfl (p_pure hτ (by kernel_rfl)), ok_plain rfl (p_pure hτ (by kernel_rfl)), ok_plain rfl (p_pure hτ (by kernel_rfl)), ok_plain rfl (p_pure hτ (by kernel_rfl)), ok_plain rfl (p_pure hτ (by kernel_rfl)), trivial⟩ ?_
            intro a w ν h
            have h : St _ [(3, none, .ptr 17101 0), (6, none, .ptr 17102 0), (8, none, .ptr 17103 0), (9, none, .ptr 17104 0), (11, none, .v (.nilFunc)), (55, none, i64 x2.Epoch), (60, none, i64 x2.Seen), (61, none, .agg [i64 x4.Kind, i64 x4.Epoch, i64 x4.Seq, i64 x4.Tag, i64 x4.R.P.Addr, i64 x4.R.P.Len, i64 x4.R.In, i64 x4.R.Prio, i64 x4.R.Act.Kind, i64 x4.R.Act.Port])] [(17104, .blk 32 [i64 x4.Kind, i64 x4.Epoch, i64 x4.Seq, i64 x4.Tag, i64 x4.R.P.Addr, i64 x4.R.P.Len, i64 x4.R.In, i64 x4.R.Prio, i64 x4.R.Act.Kind, i64 x4.R.Act.Port]), (17103, .blk 89 [i64 x2.Epoch, i64 x2.Seen, bo x2.Open, i64 x2.Stamp, i64 x2.Bad, .sl (x2.L.map c_Ver), i64 x2.Junk, i64 p2]), (17102, .blk 24 [i64 0, i64 0, bo false, i64 0, i64 0, .v (.slice none 0 0), i64 0]), (17101, .blk 24 [i64 p0.Epoch, i64 p0.Seen, bo p0.Open, i64 p0.Stamp, i64 p0.Bad, .sl (p0.L.map c_Ver), i64 p0.Junk])] _ w a ν := h.pickG [3, 6, 8, 9, 11, 55, 60, 61] [17104, 17103, 17102, 17101] (by kernel_rfl) (by kernel_rfl) (by kernel_rfl)
            refine mid_list 11 (by kernel_rfl) (by kernel_rfl) ?_
            obtain ⟨q106, hq106, hH⟩ := bnd hH
            obtain ⟨x107⟩ := q106
            refine s_call1 fn40 (sess_Take.ok x2.Epoch x2.Seen x4 _ hq106) [] h (wanted_none rfl) rfl rfl rfl rfl rfl ?_
            intro a w ν h
            refine k_end1 ?_
            refine t_then ?_
            refine k_blk ?_
            refine k_reg ?_
            refine pures [0, 0] hτ h rfl ?_
            intro a h
            refine k_end ?_
            refine k_ifH hH h rfl (fun hb hH => ?_) (fun hb hH => ?_)
            · refine k_seq ?_
              obtain ⟨q108, hq108, hH⟩ := bnd hH
              cases q108 with
              | o0 =>
                refine k_any mixed h ?_
                intro w ν h
                obtain ⟨x109, hx109, hH⟩ := bnd hH
                have h : St _ [(3, none, .ptr 17101 0), (6, none, .ptr 17102 0), (8, none, .ptr 17103 0)] [(17103, .blk 89 [i64 x2.Epoch, i64 x2.Seen, bo x2.Open, i64 x2.Stamp, i64 x2.Bad, .sl (x2.L.map c_Ver), i64 x2.Junk, i64 p2]), (17102, .blk 24 [i64 0, i64 0, bo false, i64 0, i64 0, .v (.slice none 0 0), i64 0]), (17101, .blk 24 [i64 p0.Epoch, i64 p0.Seen, bo p0.Open, i64 p0.Stamp, i64 p0.Bad, .sl (p0.L.map c_Ver), i64 p0.Junk])] _ w a ν := h.pickG [3, 6, 8] [17103, 17102, 17101] (by kernel_rfl) (by kernel_rfl) (by kernel_rfl)
                refine mid_any (fs := [⟨some (65, none, .ptr 17103 0), [], []⟩, ⟨some (66, none, .ptr 17103 0), [], []⟩, ⟨some (67, none, .ptr 17103 0), [], []⟩, ⟨some (68, none, .agg [i64 x2.Epoch, i64 x2.Seen, bo x2.Open, i64 x2.Stamp, i64 x2.Bad, .sl (x2.L.map c_Ver), i64 x2.Junk]), [], []⟩, ⟨some (69, none, .agg [i64 p0.Epoch, i64 p0.Seen, bo p0.Open, i64 p0.Stamp, i64 p0.Bad, .sl (p0.L.map c_Ver), i64 p0.Junk]), [], []⟩, ⟨some (70, none, .v (.slice none 0 0)), [], []⟩, ⟨some (71, none, .sl (x109.y0.map (c_L c_u8))), [], []⟩]) 0 [([], []), ([0], []), ([1], []), ([2], [17103]), ([], [17101]), ([4], []), ([5, 5, 4], [])] (by kernel_rfl) h (by kernel_rfl) ⟨ok_plain rfl (p_pure hτ (by kernel_rfl)), ok_plain rfl (p_pure hτ (by kernel_rfl)), ok_plain rfl (p_pure hτ (by kernel_rfl)), ok_plain rfl (p_pure hτ (by kernel_rfl)), ok_plain rfl (p_pure hτ (by kernel_rfl)), ok_plain rfl (p_call1 (ds0 := [.agg [i64 p0.Epoch, i64 p0.Seen, bo p0.Open, i64 p0.Stamp, i64 p0.Bad, .sl (p0.L.map c_Ver), i64 p0.Junk]]) fn42 (agent_Hail.ok p0 _ hq108) [] (by kernel_rfl) (by kernel_rfl) (by kernel_rfl)), ok_plain rfl (p_call1 (ds0 := [.v (.slice none 0 0)]) fn41 (agent_frames.ok [] _ hx109) [true] (by kernel_rfl) (by kernel_rfl) (by kernel_rfl)), trivial⟩ ?_
                intro a w ν h
                have h : St _ [(6, none, .ptr 17102 0), (68, none, .agg [i64 x2.Epoch, i64 x2.Seen, bo x2.Open, i64 x2.Stamp, i64 x2.Bad, .sl (x2.L.map c_Ver), i64 x2.Junk]), (71, none, .sl (x109.y0.map (c_L c_u8)))] [(17103, .blk 89 [i64 x2.Epoch, i64 x2.Seen, bo x2.Open, i64 x2.Stamp, i64 x2.Bad, .sl (x2.L.map c_Ver), i64 x2.Junk, i64 p2]), (17102, .blk 24 [i64 0, i64 0, bo false, i64 0, i64 0, .v (.slice none 0 0), i64 0]), (17101, .blk 24 [i64 p0.Epoch, i64 p0.Seen, bo p0.Open, i64 p0.Stamp, i64 p0.Bad, .sl (p0.L.map c_Ver), i64 p0.Junk])] _ w a ν := h.pickG [6, 68, 71] [17103, 17102, 17101] (by kernel_rfl) (by kernel_rfl) (by kernel_rfl)
                refine mid_list 7 (by kernel_rfl) (by kernel_rfl) ?_
                refine s_store hτ h (wanted_none rfl) rfl rfl rfl rfl rfl ?_
                intro a w ν h
                refine pures [0] hτ h rfl ?_
                intro a h
                refine k_end1 ?_
                refine t_then ?_
                refine wp_ret ?_
                cases hH
                exact r_ret hτ [] h rfl rfl rfl
              | o1 x110 =>
                refine k_any mixed h ?_
                intro w ν h
                obtain ⟨x111, hx111, hH⟩ := bnd hH
                have h : St _ [(3, none, .ptr 17101 0), (6, none, .ptr 17102 0), (8, none, .ptr 17103 0)] [(17103, .blk 89 [i64 x2.Epoch, i64 x2.Seen, bo x2.Open, i64 x2.Stamp, i64 x2.Bad, .sl (x2.L.map c_Ver), i64 x2.Junk, i64 p2]), (17102, .blk 24 [i64 0, i64 0, bo false, i64 0, i64 0, .v (.slice none 0 0), i64 0]), (17101, .blk 24 [i64 p0.Epoch, i64 p0.Seen, bo p0.Open, i64 p0.Stamp, i64 p0.Bad, .sl (p0.L.map c_Ver), i64 p0.Junk])] _ w a ν := h.pickG [3, 6, 8] [17103, 17102, 17101] (by kernel_rfl) (by kernel_rfl) (by kernel_rfl)
                refine mid_any (fs := [⟨some (65, none, .ptr 17103 0), [], []⟩, ⟨some (66, none, .ptr 17103 0), [], []⟩, ⟨some (67, none, .ptr 17103 0), [], []⟩, ⟨some (68, none, .agg [i64 x2.Epoch, i64 x2.Seen, bo x2.Open, i64 x2.Stamp, i64 x2.Bad, .sl (x2.L.map c_Ver), i64 x2.Junk]), [], []⟩, ⟨some (69, none, .agg [i64 p0.Epoch, i64 p0.Seen, bo p0.Open, i64 p0.Stamp, i64 p0.Bad, .sl (p0.L.map c_Ver), i64 p0.Junk]), [], []⟩, ⟨some (70, none, .sl (x110.map c_u8)), [], []⟩, ⟨some (71, none, .sl (x111.y0.map (c_L c_u8))), [], []⟩]) 0 [([], []), ([0], []), ([1], []), ([2], [17103]), ([], [17101]), ([4], []), ([5, 5, 4], [])] (by kernel_rfl) h (by kernel_rfl) ⟨ok_plain rfl (p_pure hτ (by kernel_rfl)), ok_plain rfl (p_pure hτ (by kernel_rfl)), ok_plain rfl (p_pure hτ (by kernel_rfl)), ok_plain rfl (p_pure hτ (by kernel_rfl)), ok_plain rfl (p_pure hτ (by kernel_rfl)), ok_plain rfl (p_call1 (ds0 := [.agg [i64 p0.Epoch, i64 p0.Seen, bo p0.Open, i64 p0.Stamp, i64 p0.Bad, .sl (p0.L.map c_Ver), i64 p0.Junk]]) fn42 (agent_Hail.ok p0 _ hq108) [] (by kernel_rfl) (by kernel_rfl) (by kernel_rfl)), ok_plain rfl (p_call1 (ds0 := [.sl (x110.map c_u8)]) fn41 (agent_frames.ok x110 _ hx111) [] (by kernel_rfl) (by kernel_rfl) (by kernel_rfl)), trivial⟩ ?_
                intro a w ν h
                have h : St _ [(6, none, .ptr 17102 0), (68, none, .agg [i64 x2.Epoch, i64 x2.Seen, bo x2.Open, i64 x2.Stamp, i64 x2.Bad, .sl (x2.L.map c_Ver), i64 x2.Junk]), (71, none, .sl (x111.y0.map (c_L c_u8)))] [(17103, .blk 89 [i64 x2.Epoch, i64 x2.Seen, bo x2.Open, i64 x2.Stamp, i64 x2.Bad, .sl (x2.L.map c_Ver), i64 x2.Junk, i64 p2]), (17102, .blk 24 [i64 0, i64 0, bo false, i64 0, i64 0, .v (.slice none 0 0), i64 0]), (17101, .blk 24 [i64 p0.Epoch, i64 p0.Seen, bo p0.Open, i64 p0.Stamp, i64 p0.Bad, .sl (p0.L.map c_Ver), i64 p0.Junk])] _ w a ν := h.pickG [6, 68, 71] [17103, 17102, 17101] (by kernel_rfl) (by kernel_rfl) (by kernel_rfl)
                refine mid_list 7 (by kernel_rfl) (by kernel_rfl) ?_
                refine s_store hτ h (wanted_none rfl) rfl rfl rfl rfl rfl ?_
                intro a w ν h
                refine pures [0] hτ h rfl ?_
                intro a h
                refine k_end1 ?_
                refine t_then ?_
                refine wp_ret ?_
                cases hH
                exact r_ret hτ [] h rfl rfl rfl
            · refine k_reg ?_
              refine pures [0, 0] hτ h rfl ?_
              intro a h
              refine k_end ?_
              refine k_ifH hH h rfl (fun hb hH => ?_) (fun hb hH => ?_)
              · cases hH
              · refine k_skip ?_
                refine t_blk ?_
                refine t_then ?_
                refine k_seq ?_
                obtain ⟨q112, hq112, hH⟩ := bnd hH
                cases q112 with
                | o0 x113 =>
                  refine k_any mixed h ?_
                  intro w ν h
                  have h : St _ [(6, none, .ptr 17102 0), (8, none, .ptr 17103 0)] [(17103, .blk 89 [i64 x2.Epoch, i64 x2.Seen, bo x2.Open, i64 x2.Stamp, i64 x2.Bad, .sl (x2.L.map c_Ver), i64 x2.Junk, i64 p2]), (17102, .blk 24 [i64 0, i64 0, bo false, i64 0, i64 0, .v (.slice none 0 0), i64 0])] _ w a ν := h.pickG [6, 8] [17103, 17102] (by kernel_rfl) (by kernel_rfl) (by kernel_rfl)
                  refine mid_any (fs := [⟨some (85, none, .ptr 17103 0), [], []⟩, ⟨some (86, none, .ptr 17103 0), [], []⟩, ⟨some (87, none, .ptr 17103 0), [], []⟩, ⟨some (88, none, .ptr 17103 0), [], []⟩, ⟨some (89, none, i64 x2.Epoch), [], []⟩, ⟨some (90, none, .ptr 17103 0), [], []⟩, ⟨some (91, none, .ptr 17103 0), [], []⟩, ⟨some (92, none, .ptr 17103 0), [], []⟩, ⟨some (93, none, .ptr 17103 1), [], []⟩, ⟨some (94, none, i64 x2.Seen), [], []⟩, ⟨some (95, none, .ptr 17103 0), [], []⟩, ⟨some (96, none, .ptr 17103 0), [], []⟩, ⟨some (97, none, .ptr 17103 0), [], []⟩, ⟨some (98, none, .ptr 17103 4), [], []⟩, ⟨some (99, none, i64 x2.Bad), [], []⟩]) 0 [([], []), ([0], []), ([1, 0], []), ([2, 0, 1], []), ([3, 0, 1, 2], [17103]), ([], []), ([5], []), ([6, 5], []), ([7, 5, 6], []), ([8, 5, 6, 7], [17103]), ([], []), ([10], []), ([11, 10], []), ([12, 10, 11], []), ([13, 10, 11, 12], [17103])] (by kernel_rfl) h (by kernel_rfl) ⟨ok_plain rfl (p_pure hτ (by kernel_rfl)), ok_plain rfl (p_pure hτ (by kernel_rfl)), ok_plain rfl (p_pure hτ (by kernel_rfl)), ok_plain rfl (p_pure hτ (by kernel_rfl)), ok_plain rfl (p_pure hτ (by kernel_rfl)), ok_plain rfl (p_pure hτ (by kernel_rfl)), ok_plain rfl (p_pure hτ (by kernel_rfl)), ok_plain rfl (p_pure hτ (by kernel_rfl)), ok_plain rfl (p_pure hτ (by kernel_rfl)), ok_plain rfl (p_pure hτ (by kernel_rfl)), ok_plain rfl (p_pure hτ (by kernel_rfl)), ok_plain rfl (p_pure hτ (by kernel_rfl)), ok_plain rfl (p_pure hτ (by kernel_rfl)), ok_plain rfl (p_pure hτ (by kernel_rfl)), ok_plain rfl (p_pure hτ (by kernel_rfl)), trivial⟩ ?_
                  intro a w ν h
                  have h : St _ [(6, none, .ptr 17102 0), (8, none, .ptr 17103 0), (89, none, i64 x2.Epoch), (94, none, i64 x2.Seen), (99, none, i64 x2.Bad)] [(17103, .blk 89 [i64 x2.Epoch, i64 x2.Seen, bo x2.Open, i64 x2.Stamp, i64 x2.Bad, .sl (x2.L.map c_Ver), i64 x2.Junk, i64 p2]), (17102, .blk 24 [i64 0, i64 0, bo false, i64 0, i64 0, .v (.slice none 0 0), i64 0])] _ w a ν := h.pickG [6, 8, 89, 94, 99] [17103, 17102] (by kernel_rfl) (by kernel_rfl) (by kernel_rfl)
                  refine mid_any (fs := [⟨some (100, none, .agg [i64 1, i64 x2.Epoch, i64 x2.Seen, i64 x2.Bad, i64 0, i64 0, i64 0, i64 0, i64 0, i64 0]), [], []⟩, ⟨some (101, none, .tup [.v (.slice none 0 0), i64 x113]), [], []⟩, ⟨some (84, none, .tup [.v (.slice none 0 0), i64 x113]), [], []⟩, ⟨some (102, none, .v (.slice none 0 0)), [], []⟩, ⟨some (103, none, i64 x113), [], []⟩, ⟨some (13, none, .v (.slice none 0 0)), [], []⟩]) 15 [([], []), ([15], []), ([16], []), ([17], []), ([17], []), ([18, 18], [])] (by kernel_rfl) h (by kernel_rfl) ⟨ok_plain rfl (p_pure hτ (by kernel_rfl)), ok_plain rfl (p_call1 (ds0 := [.agg [i64 1, i64 x2.Epoch, i64 x2.Seen, i64 x2.Bad, i64 0, i64 0, i64 0, i64 0, i64 0, i64 0]]) fn14 (frame_Seal.ok (Msg.mk 1 x2.Epoch x2.Seen x2.Bad (Rule.mk (Prefix.mk 0 0) 0 0 (Action.mk 0 0))) _ hq112) [] (by kernel_rfl) (by kernel_rfl) (by kernel_rfl)), ok_plain rfl (p_pure hτ (by kernel_rfl)), ok_plain rfl (p_pure hτ (by kernel_rfl)), ok_plain rfl (p_pure hτ (by kernel_rfl)), ok_plain rfl (p_pure hτ (by kernel_rfl)), trivial⟩ ?_
                  intro a w ν h
                  have h : St _ [(6, none, .ptr 17102 0), (8, none, .ptr 17103 0), (13, none, .v (.slice none 0 0)), (103, none, i64 x113)] [(17103, .blk 89 [i64 x2.Epoch, i64 x2.Seen, bo x2.Open, i64 x2.Stamp, i64 x2.Bad, .sl (x2.L.map c_Ver), i64 x2.Junk, i64 p2]), (17102, .blk 24 [i64 0, i64 0, bo false, i64 0, i64 0, .v (.slice none 0 0), i64 0])] _ w a ν := h.pickG [6, 8, 13, 103] [17103, 17102] (by kernel_rfl) (by kernel_rfl) (by kernel_rfl)
                  refine mid_list 21 (by kernel_rfl) (by kernel_rfl) ?_
                  refine pures [0] hτ h rfl ?_
                  intro a h
                  refine k_end1 ?_
                  refine t_then ?_
                  refine k_seq ?_
                  refine k_any mixed h ?_
                  intro w ν h
                  obtain ⟨x114, hx114, hH⟩ := bnd hH
                  have h : St _ [(6, none, .ptr 17102 0), (8, none, .ptr 17103 0), (13, none, .v (.slice none 0 0))] [(17103, .blk 89 [i64 x2.Epoch, i64 x2.Seen, bo x2.Open, i64 x2.Stamp, i64 x2.Bad, .sl (x2.L.map c_Ver), i64 x2.Junk, i64 p2]), (17102, .blk 24 [i64 0, i64 0, bo false, i64 0, i64 0, .v (.slice none 0 0), i64 0])] _ w a ν := h.pickG [6, 8, 13] [17103, 17102] (by kernel_rfl) (by kernel_rfl) (by kernel_rfl)
                  refine mid_any (fs := [⟨some (104, none, .ptr 17103 0), [], []⟩, ⟨some (105, none, .ptr 17103 0), [], []⟩, ⟨some (106, none, .ptr 17103 0), [], []⟩, ⟨some (107, none, .agg [i64 x2.Epoch, i64 x2.Seen, bo x2.Open, i64 x2.Stamp, i64 x2.Bad, .sl (x2.L.map c_Ver), i64 x2.Junk]), [], []⟩, ⟨some (108, none, .v (.slice none 0 0)), [], []⟩, ⟨some (109, none, .sl (x114.y0.map (c_L c_u8))), [], []⟩]) 0 [([], []), ([0], []), ([1], []), ([2], [17103]), ([], []), ([4], [])] (by kernel_rfl) h (by kernel_rfl) ⟨ok_plain rfl (p_pure hτ (by kernel_rfl)), ok_plain rfl (p_pure hτ (by kernel_rfl)), ok_plain rfl (p_pure hτ (by kernel_rfl)), ok_plain rfl (p_pure hτ (by kernel_rfl)), ok_plain rfl (p_pure hτ (by kernel_rfl)), ok_plain rfl (p_call1 (ds0 := [.v (.slice none 0 0)]) fn41 (agent_frames.ok [] _ hx114) [true] (by kernel_rfl) (by kernel_rfl) (by kernel_rfl)), trivial⟩ ?_
                  intro a w ν h
                  have h : St _ [(6, none, .ptr 17102 0), (107, none, .agg [i64 x2.Epoch, i64 x2.Seen, bo x2.Open, i64 x2.Stamp, i64 x2.Bad, .sl (x2.L.map c_Ver), i64 x2.Junk]), (109, none, .sl (x114.y0.map (c_L c_u8)))] [(17103, .blk 89 [i64 x2.Epoch, i64 x2.Seen, bo x2.Open, i64 x2.Stamp, i64 x2.Bad, .sl (x2.L.map c_Ver), i64 x2.Junk, i64 p2]), (17102, .blk 24 [i64 0, i64 0, bo false, i64 0, i64 0, .v (.slice none 0 0), i64 0])] _ w a ν := h.pickG [6, 107, 109] [17103, 17102] (by kernel_rfl) (by kernel_rfl) (by kernel_rfl)
                  refine mid_list 6 (by kernel_rfl) (by kernel_rfl) ?_
                  refine s_store hτ h (wanted_none rfl) rfl rfl rfl rfl rfl ?_
                  intro a w ν h
                  refine pures [0] hτ h rfl ?_
                  intro a h
                  refine k_end1 ?_
                  refine t_then ?_
                  refine wp_ret ?_
                  cases hH
                  exact r_ret hτ [] h rfl rfl rfl
                | o1 x115 x116 =>
                  refine k_any mixed h ?_
                  intro w ν h
                  have h : St _ [(6, none, .ptr 17102 0), (8, none, .ptr 17103 0)] [(17103, .blk 89 [i64 x2.Epoch, i64 x2.Seen, bo x2.Open, i64 x2.Stamp, i64 x2.Bad, .sl (x2.L.map c_Ver), i64 x2.Junk, i64 p2]), (17102, .blk 24 [i64 0, i64 0, bo false, i64 0, i64 0, .v (.slice none 0 0), i64 0])] _ w a ν := h.pickG [6, 8] [17103, 17102] (by kernel_rfl) (by kernel_rfl) (by kernel_rfl)
                  refine mid_any (fs := [⟨some (85, none, .ptr 17103 0), [], []⟩, ⟨some (86, none, .ptr 17103 0), [], []⟩, ⟨some (87, none, .ptr 17103 0), [], []⟩, ⟨some (88, none, .ptr 17103 0), [], []⟩, ⟨some (89, none, i64 x2.Epoch), [], []⟩, ⟨some (90, none, .ptr 17103 0), [], []⟩, ⟨some (91, none, .ptr 17103 0), [], []⟩, ⟨some (92, none, .ptr 17103 0), [], []⟩, ⟨some (93, none, .ptr 17103 1), [], []⟩, ⟨some (94, none, i64 x2.Seen), [], []⟩, ⟨some (95, none, .ptr 17103 0), [], []⟩, ⟨some (96, none, .ptr 17103 0), [], []⟩, ⟨some (97, none, .ptr 17103 0), [], []⟩, ⟨some (98, none, .ptr 17103 4), [], []⟩, ⟨some (99, none, i64 x2.Bad), [], []⟩]) 0 [([], []), ([0], []), ([1, 0], []), ([2, 0, 1], []), ([3, 0, 1, 2], [17103]), ([], []), ([5], []), ([6, 5], []), ([7, 5, 6], []), ([8, 5, 6, 7], [17103]), ([], []), ([10], []), ([11, 10], []), ([12, 10, 11], []), ([13, 10, 11, 12], [17103])] (by kernel_rfl) h (by kernel_rfl) ⟨ok_plain rfl (p_pure hτ (by kernel_rfl)), ok_plain rfl (p_pure hτ (by kernel_rfl)), ok_plain rfl (p_pure hτ (by kernel_rfl)), ok_plain rfl (p_pure hτ (by kernel_rfl)), ok_plain rfl (p_pure hτ (by kernel_rfl)), ok_plain rfl (p_pure hτ (by kernel_rfl)), ok_plain rfl (p_pure hτ (by kernel_rfl)), ok_plain rfl (p_pure hτ (by kernel_rfl)), ok_plain rfl (p_pure hτ (by kernel_rfl)), ok_plain rfl (p_pure hτ (by kernel_rfl)), ok_plain rfl (p_pure hτ (by kernel_rfl)), ok_plain rfl (p_pure hτ (by kernel_rfl)), ok_plain rfl (p_pure hτ (by kernel_rfl)), ok_plain rfl (p_pure hτ (by kernel_rfl)), ok_plain rfl (p_pure hτ (by kernel_rfl)), trivial⟩ ?_
                  intro a w ν h
                  have h : St _ [(6, none, .ptr 17102 0), (8, none, .ptr 17103 0), (89, none, i64 x2.Epoch), (94, none, i64 x2.Seen), (99, none, i64 x2.Bad)] [(17103, .blk 89 [i64 x2.Epoch, i64 x2.Seen, bo x2.Open, i64 x2.Stamp, i64 x2.Bad, .sl (x2.L.map c_Ver), i64 x2.Junk, i64 p2]), (17102, .blk 24 [i64 0, i64 0, bo false, i64 0, i64 0, .v (.slice none 0 0), i64 0])] _ w a ν := h.pickG [6, 8, 89, 94, 99] [17103, 17102] (by kernel_rfl) (by kernel_rfl) (by kernel_rfl)
                  refine mid_any (fs := [⟨some (100, none, .agg [i64 1, i64 x2.Epoch, i64 x2.Seen, i64 x2.Bad, i64 0, i64 0, i64 0, i64 0, i64 0, i64 0]), [], []⟩, ⟨some (101, none, .tup [.sl (x115.map c_u8), i64 x116]), [], []⟩, ⟨some (84, none, .tup [.sl (x115.map c_u8), i64 x116]), [], []⟩, ⟨some (102, none, .sl (x115.map c_u8)), [], []⟩, ⟨some (103, none, i64 x116), [], []⟩, ⟨some (13, none, .sl (x115.map c_u8)), [], []⟩]) 15 [([], []), ([15], []), ([16], []), ([17], []), ([17], []), ([18, 18], [])] (by kernel_rfl) h (by kernel_rfl) ⟨ok_plain rfl (p_pure hτ (by kernel_rfl)), ok_plain rfl (p_call1 (ds0 := [.agg [i64 1, i64 x2.Epoch, i64 x2.Seen, i64 x2.Bad, i64 0, i64 0, i64 0, i64 0, i64 0, i64 0]]) fn14 (frame_Seal.ok (Msg.mk 1 x2.Epoch x2.Seen x2.Bad (Rule.mk (Prefix.mk 0 0) 0 0 (Action.mk 0 0))) _ hq112) [] (by kernel_rfl) (by kernel_rfl) (by kernel_rfl)), ok_plain rfl (p_pure hτ (by kernel_rfl)), ok_plain rfl (p_pure hτ (by kernel_rfl)), ok_plain rfl (p_pure hτ (by kernel_rfl)), ok_plain rfl (p_pure hτ (by kernel_rfl)), trivial⟩ ?_
                  intro a w ν h
                  have h : St _ [(6, none, .ptr 17102 0), (8, none, .ptr 17103 0), (13, none, .sl (x115.map c_u8)), (103, none, i64 x116)] [(17103, .blk 89 [i64 x2.Epoch, i64 x2.Seen, bo x2.Open, i64 x2.Stamp, i64 x2.Bad, .sl (x2.L.map c_Ver), i64 x2.Junk, i64 p2]), (17102, .blk 24 [i64 0, i64 0, bo false, i64 0, i64 0, .v (.slice none 0 0), i64 0])] _ w a ν := h.pickG [6, 8, 13, 103] [17103, 17102] (by kernel_rfl) (by kernel_rfl) (by kernel_rfl)
                  refine mid_list 21 (by kernel_rfl) (by kernel_rfl) ?_
                  refine pures [0] hτ h rfl ?_
                  intro a h
                  refine k_end1 ?_
                  refine t_then ?_
                  refine k_seq ?_
                  refine k_any mixed h ?_
                  intro w ν h
                  obtain ⟨x117, hx117, hH⟩ := bnd hH
                  have h : St _ [(6, none, .ptr 17102 0), (8, none, .ptr 17103 0), (13, none, .sl (x115.map c_u8))] [(17103, .blk 89 [i64 x2.Epoch, i64 x2.Seen, bo x2.Open, i64 x2.Stamp, i64 x2.Bad, .sl (x2.L.map c_Ver), i64 x2.Junk, i64 p2]), (17102, .blk 24 [i64 0, i64 0, bo false, i64 0, i64 0, .v (.slice none 0 0), i64 0])] _ w a ν := h.pickG [6, 8, 13] [17103, 17102] (by kernel_rfl) (by kernel_rfl) (by kernel_rfl)
                  refine mid_any (fs := [⟨some (104, none, .ptr 17103 0), [], []⟩, ⟨some (105, none, .ptr 17103 0), [], []⟩, ⟨some (106, none, .ptr 17103 0), [], []⟩, ⟨some (107, none, .agg [i64 x2.Epoch, i64 x2.Seen, bo x2.Open, i64 x2.Stamp, i64 x2.Bad, .sl (x2.L.map c_Ver), i64 x2.Junk]), [], []⟩, ⟨some (108, none, .sl (x115.map c_u8)), [], []⟩, ⟨some (109, none, .sl (x117.y0.map (c_L c_u8))), [], []⟩]) 0 [([], []), ([0], []), ([1], []), ([2], [17103]), ([], []), ([4], [])] (by kernel_rfl) h (by kernel_rfl) ⟨ok_plain rfl (p_pure hτ (by kernel_rfl)), ok_plain rfl (p_pure hτ (by kernel_rfl)), ok_plain rfl (p_pure hτ (by kernel_rfl)), ok_plain rfl (p_pure hτ (by kernel_rfl)), ok_plain rfl (p_pure hτ (by kernel_rfl)), ok_plain rfl (p_call1 (ds0 := [.sl (x115.map c_u8)]) fn41 (agent_frames.ok x115 _ hx117) [] (by kernel_rfl) (by kernel_rfl) (by kernel_rfl)), trivial⟩ ?_
                  intro a w ν h
                  have h : St _ [(6, none, .ptr 17102 0), (107, none, .agg [i64 x2.Epoch, i64 x2.Seen, bo x2.Open, i64 x2.Stamp, i64 x2.Bad, .sl (x2.L.map c_Ver), i64 x2.Junk]), (109, none, .sl (x117.y0.map (c_L c_u8)))] [(17103, .blk 89 [i64 x2.Epoch, i64 x2.Seen, bo x2.Open, i64 x2.Stamp, i64 x2.Bad, .sl (x2.L.map c_Ver), i64 x2.Junk, i64 p2]), (17102, .blk 24 [i64 0, i64 0, bo false, i64 0, i64 0, .v (.slice none 0 0), i64 0])] _ w a ν := h.pickG [6, 107, 109] [17103, 17102] (by kernel_rfl) (by kernel_rfl) (by kernel_rfl)
                  refine mid_list 6 (by kernel_rfl) (by kernel_rfl) ?_
                  refine s_store hτ h (wanted_none rfl) rfl rfl rfl rfl rfl ?_
                  intro a w ν h
                  refine pures [0] hτ h rfl ?_
                  intro a h
                  refine k_end1 ?_
                  refine t_then ?_
                  refine wp_ret ?_
                  cases hH
                  exact r_ret hτ [] h rfl rfl rfl
/-! ### wayfinder/wayfinderlaw17.awake -/
structure wayfinderlaw17_awake.R where
  o0 ::
  y0 : Bool
  deriving Inhabited
def wayfinderlaw17_awake.rd (r : wayfinderlaw17_awake.R) : DV := bo r.y0
def wayfinderlaw17_awake.rh (r : wayfinderlaw17_awake.R) : Hp := []
def wayfinderlaw17_awake : Option wayfinderlaw17_awake.R := (frame_Seal (Msg.mk 5 1 1 0 (Rule.mk (Prefix.mk 0 0) 0 0 (Action.mk 0 0))) >>= fun q1 => match q1 with | .o0 x2 => (agent_New >>= fun q3 => match q3 with | .o0 x4 x5 x6 x7 x8 x9 => (agent_Handle (Switch.mk x4 x5 x6 x7 x8 [] x9) [] 9 >>= fun q10 => match q10 with | .o0 x11 => some (wayfinderlaw17_awake.R.o0 false) | .o1 x12 x13 => (if ((lenc (c_L c_u8) x13) != 1) then some (wayfinderlaw17_awake.R.o0 false) else (at_ x13 0 >>= fun x14 => (frame_Open x14 >>= fun q15 => match q15 with | .o0 x16 x17 => some (wayfinderlaw17_awake.R.o0 (((x12.Open && (x12.Seen == 1)) && (x17 == 0)) && ((x16.Kind == 1) && ((x16.Epoch == 1) && ((x16.Seq == 1) && ((x16.Tag == 0) && ((x16.R.P.Addr == 0) && ((x16.R.P.Len == 0) && ((x16.R.In == 0) && ((x16.R.Prio == 0) && ((x16.R.Act.Kind == 0) && ((x16.R.Act.Port == 0) && true))))))))))))))) | .o2 x18 x19 x20 x21 x22 x23 x24 x25 => (if ((lenc (c_L c_u8) x24) != 1) then some (wayfinderlaw17_awake.R.o0 false) else (at_ x24 0 >>= fun x26 => (frame_Open x26 >>= fun q27 => match q27 with | .o0 x28 x29 => some (wayfinderlaw17_awake.R.o0 (((x20 && (x19 == 1)) && (x29 == 0)) && ((x28.Kind == 1) && ((x28.Epoch == 1) && ((x28.Seq == 1) && ((x28.Tag == 0) && ((x28.R.P.Addr == 0) && ((x28.R.P.Len == 0) && ((x28.R.In == 0) && ((x28.R.Prio == 0) && ((x28.R.Act.Kind == 0) && ((x28.R.Act.Port == 0) && true))))))))))))))))) | .o1 x30 x31 => (agent_New >>= fun q32 => match q32 with | .o0 x33 x34 x35 x36 x37 x38 => (agent_Handle (Switch.mk x33 x34 x35 x36 x37 [] x38) x30 9 >>= fun q39 => match q39 with | .o0 x40 => some (wayfinderlaw17_awake.R.o0 false) | .o1 x41 x42 => (if ((lenc (c_L c_u8) x42) != 1) then some (wayfinderlaw17_awake.R.o0 false) else (at_ x42 0 >>= fun x43 => (frame_Open x43 >>= fun q44 => match q44 with | .o0 x45 x46 => some (wayfinderlaw17_awake.R.o0 (((x41.Open && (x41.Seen == 1)) && (x46 == 0)) && ((x45.Kind == 1) && ((x45.Epoch == 1) && ((x45.Seq == 1) && ((x45.Tag == 0) && ((x45.R.P.Addr == 0) && ((x45.R.P.Len == 0) && ((x45.R.In == 0) && ((x45.R.Prio == 0) && ((x45.R.Act.Kind == 0) && ((x45.R.Act.Port == 0) && true))))))))))))))) | .o2 x47 x48 x49 x50 x51 x52 x53 x54 => (if ((lenc (c_L c_u8) x53) != 1) then some (wayfinderlaw17_awake.R.o0 false) else (at_ x53 0 >>= fun x55 => (frame_Open x55 >>= fun q56 => match q56 with | .o0 x57 x58 => some (wayfinderlaw17_awake.R.o0 (((x49 && (x48 == 1)) && (x58 == 0)) && ((x57.Kind == 1) && ((x57.Epoch == 1) && ((x57.Seq == 1) && ((x57.Tag == 0) && ((x57.R.P.Addr == 0) && ((x57.R.P.Len == 0) && ((x57.R.In == 0) && ((x57.R.Prio == 0) && ((x57.R.Act.Kind == 0) && ((x57.R.Act.Port == 0) && true))))))))))))))))))
theorem fn11 : Go.Proofs.YtjjmoihpjmojiaaDoor.D.Fn Tryd.prog 11 := ⟨Tryd.f11, Tryd.func11, by kernel_rfl, rfl⟩
set_option maxRecDepth 100000 in
theorem wayfinderlaw17_awake.ok (r : wayfinderlaw17_awake.R) (hH : wayfinderlaw17_awake = some r) : Con Tryd.prog 11 [] [] (wayfinderlaw17_awake.rd r) (wayfinderlaw17_awake.rh r) := by
  refine con_of Tryd.f11 44 (c := _) Tryd.func11 rfl rfl rfl ?_
  intro w a ν X h
  unfold wayfinderlaw17_awake at hH
  refine k_reg ?_
  refine pures [0] hτ h rfl ?_
  intro a h
  refine k_end ?_
  refine k_reg ?_
  refine pures [0] hτ h rfl ?_
  intro a h
  obtain ⟨q1, hq1, hH⟩ := bnd hH
  cases q1 with
  | o0 x2 =>
    refine s_call1 fn14 (frame_Seal.ok (Msg.mk 5 1 1 0 (Rule.mk (Prefix.mk 0 0) 0 0 (Action.mk 0 0))) _ hq1) [] h (wanted_none rfl) rfl rfl rfl rfl rfl ?_
    intro a w ν h
    refine pures [0, 0, 0, 0, 0] hτ h rfl ?_
    intro a h
    refine k_end ?_
    refine k_reg ?_
    obtain ⟨q3, hq3, hH⟩ := bnd hH
    obtain ⟨x4, x5, x6, x7, x8, x9⟩ := q3
    refine s_call1 fn17 (agent_New.ok _ hq3) [] h (wanted_none rfl) rfl rfl rfl rfl rfl ?_
    intro a w ν h
    refine pures [0] hτ h rfl ?_
    intro a h
    obtain ⟨q10, hq10, hH⟩ := bnd hH
    cases q10 with
    | o0 x11 =>
      refine s_call1 fn15 (agent_Handle.ok (Switch.mk x4 x5 x6 x7 x8 [] x9) [] 9 _ hq10) [true, true] h (wanted_none rfl) rfl rfl rfl rfl rfl ?_
      intro a w ν h
      refine pures [0, 0, 0] hτ h rfl ?_
      intro a h
      refine s_new h (wanted_none rfl) rfl rfl (e_alloc (r := 2101) hτ h.o rfl rfl) ?_
      intro a w ν h
      refine s_store hτ h (wanted_none rfl) rfl rfl rfl rfl rfl ?_
      intro a w ν h
      refine pures [0] hτ h rfl ?_
      intro a h
      refine k_end ?_
      refine k_seq ?_
      refine k_reg ?_
      refine pures [0, 0, 0] hτ h rfl ?_
      intro a h
      refine k_end ?_
      refine k_ifT h rfl ?_
      refine k_reg ?_
      refine pures [0] hτ h rfl ?_
      intro a h
      refine k_end ?_
      refine wp_ret ?_
      cases hH
      exact r_ret hτ [] h rfl rfl rfl
    | o1 x12 x13 =>
      refine s_call1 fn15 (agent_Handle.ok (Switch.mk x4 x5 x6 x7 x8 [] x9) [] 9 _ hq10) [true, true] h (wanted_none rfl) rfl rfl rfl rfl rfl ?_
      intro a w ν h
      refine pures [0, 0, 0] hτ h rfl ?_
      intro a h
      refine s_new h (wanted_none rfl) rfl rfl (e_alloc (r := 2102) hτ h.o rfl rfl) ?_
      intro a w ν h
      refine s_store hτ h (wanted_none rfl) rfl rfl rfl rfl rfl ?_
      intro a w ν h
      refine pures [0] hτ h rfl ?_
      intro a h
      refine k_end ?_
      refine k_seq ?_
      refine k_reg ?_
      refine pures [0, 0, 0] hτ h rfl ?_
      intro a h
      refine k_end ?_
      refine k_ifH hH h rfl (fun hb hH => ?_) (fun hb hH => ?_)
      · refine k_reg ?_
        refine pures [0] hτ h rfl ?_
        intro a h
        refine k_end ?_
        refine wp_ret ?_
        cases hH
        exact r_ret hτ [] h rfl rfl rfl
      · refine k_skip ?_
        refine t_then ?_
        refine k_reg ?_
        refine pures [0] hτ h rfl ?_
        intro a h
        obtain ⟨x14, hx14, hH⟩ := bnd hH
        refine s_idx hτ h (wanted_none rfl) rfl rfl rfl rfl (at_map hx14 (c_L c_u8)).1 (at_map hx14 (c_L c_u8)).2 ?_
        intro a w ν h
        refine pures [0] hτ h rfl ?_
        intro a h
        obtain ⟨q15, hq15, hH⟩ := bnd hH
        obtain ⟨x16, x17⟩ := q15
        refine s_call1 fn35 (frame_Open.ok x14 _ hq15) [] h (wanted_none rfl) rfl rfl rfl rfl rfl ?_
        intro a w ν h
        refine pures [0, 0, 0] hτ h rfl ?_
        intro a h
        refine s_new h (wanted_none rfl) rfl rfl (e_alloc (r := 2103) hτ h.o rfl rfl) ?_
        intro a w ν h
        refine s_store hτ h (wanted_none rfl) rfl rfl rfl rfl rfl ?_
        intro a w ν h
        refine pures [0] hτ h rfl ?_
        intro a h
        refine k_end ?_
        refine k_reg ?_
        refine pures [0, 0, 0, 1, 1, 1, 0, 0, 1, 1, 0, 0, 1, 1] hτ h rfl ?_
        intro a h
        refine s_gd h [] rfl rfl rfl rfl rfl rfl (fun hbu => p_of0 rfl fun w a ν X hO hF hg => e_eqA hF hO hg eqA32 rfl) ?_
        intro a w ν h
        refine pures [0, 0] hτ h rfl ?_
        intro a h
        refine k_end ?_
        refine wp_ret ?_
        cases hH
        exact r_ret hτ [] h rfl rfl rfl
    | o2 x18 x19 x20 x21 x22 x23 x24 x25 =>
      refine s_call fn15 ((agent_Handle.ok (Switch.mk x4 x5 x6 x7 x8 [] x9) [] 9 _ hq10).sw_ 17900 2104) [] [2104] [true, true] h (wanted_none rfl) rfl rfl rfl rfl rfl rfl ?_
      intro a w ν h
      refine pures [0, 0, 0] hτ h rfl ?_
      intro a h
      refine s_new h (wanted_none rfl) rfl rfl (e_alloc (r := 2105) hτ h.o rfl rfl) ?_
      intro a w ν h
      refine s_store hτ h (wanted_none rfl) rfl rfl rfl rfl rfl ?_
      intro a w ν h
      refine pures [0] hτ h rfl ?_
      intro a h
      refine k_end ?_
      refine k_seq ?_
      refine k_reg ?_
      refine pures [0, 0, 0] hτ h rfl ?_
      intro a h
      refine k_end ?_
      refine k_ifH hH h rfl (fun hb hH => ?_) (fun hb hH => ?_)
      · refine k_reg ?_
        refine pures [0] hτ h rfl ?_
        intro a h
        refine k_end ?_
        refine wp_ret ?_
        cases hH
        exact r_ret hτ [] h rfl rfl rfl
      · refine k_skip ?_
        refine t_then ?_
        refine k_reg ?_
        refine pures [0] hτ h rfl ?_
        intro a h
        obtain ⟨x26, hx26, hH⟩ := bnd hH
        refine s_idx hτ h (wanted_none rfl) rfl rfl rfl rfl (at_map hx26 (c_L c_u8)).1 (at_map hx26 (c_L c_u8)).2 ?_
        intro a w ν h
        refine pures [0] hτ h rfl ?_
        intro a h
        obtain ⟨q27, hq27, hH⟩ := bnd hH
        obtain ⟨x28, x29⟩ := q27
        refine s_call1 fn35 (frame_Open.ok x26 _ hq27) [] h (wanted_none rfl) rfl rfl rfl rfl rfl ?_
        intro a w ν h
        refine pures [0, 0, 0] hτ h rfl ?_
        intro a h
        refine s_new h (wanted_none rfl) rfl rfl (e_alloc (r := 2106) hτ h.o rfl rfl) ?_
        intro a w ν h
        refine s_store hτ h (wanted_none rfl) rfl rfl rfl rfl rfl ?_
        intro a w ν h
        refine pures [0] hτ h rfl ?_
        intro a h
        refine k_end ?_
        refine k_reg ?_
        refine pures [0, 0, 0, 1, 1, 1, 0, 0, 1, 1, 0, 0, 1, 1] hτ h rfl ?_
        intro a h
        refine s_gd h [] rfl rfl rfl rfl rfl rfl (fun hbu => p_of0 rfl fun w a ν X hO hF hg => e_eqA hF hO hg eqA32 rfl) ?_
        intro a w ν h
        refine pures [0, 0] hτ h rfl ?_
        intro a h
        refine k_end ?_
        refine wp_ret ?_
        cases hH
        exact r_ret hτ [] h rfl rfl rfl
  | o1 x30 x31 =>
    refine s_call1 fn14 (frame_Seal.ok (Msg.mk 5 1 1 0 (Rule.mk (Prefix.mk 0 0) 0 0 (Action.mk 0 0))) _ hq1) [] h (wanted_none rfl) rfl rfl rfl rfl rfl ?_
    intro a w ν h
    refine pures [0, 0, 0, 0, 0] hτ h rfl ?_
    intro a h
    refine k_end ?_
    refine k_reg ?_
    obtain ⟨q32, hq32, hH⟩ := bnd hH
    obtain ⟨x33, x34, x35, x36, x37, x38⟩ := q32
    refine s_call1 fn17 (agent_New.ok _ hq32) [] h (wanted_none rfl) rfl rfl rfl rfl rfl ?_
    intro a w ν h
    refine pures [0] hτ h rfl ?_
    intro a h
    obtain ⟨q39, hq39, hH⟩ := bnd hH
    cases q39 with
    | o0 x40 =>
      refine s_call1 fn15 (agent_Handle.ok (Switch.mk x33 x34 x35 x36 x37 [] x38) x30 9 _ hq39) [true] h (wanted_none rfl) rfl rfl rfl rfl rfl ?_
      intro a w ν h
      refine pures [0, 0, 0] hτ h rfl ?_
      intro a h
      refine s_new h (wanted_none rfl) rfl rfl (e_alloc (r := 2107) hτ h.o rfl rfl) ?_
      intro a w ν h
      refine s_store hτ h (wanted_none rfl) rfl rfl rfl rfl rfl ?_
      intro a w ν h
      refine pures [0] hτ h rfl ?_
      intro a h
      refine k_end ?_
      refine k_seq ?_
      refine k_reg ?_
      refine pures [0, 0, 0] hτ h rfl ?_
      intro a h
      refine k_end ?_
      refine k_ifT h rfl ?_
      refine k_reg ?_
      refine pures [0] hτ h rfl ?_
      intro a h
      refine k_end ?_
      refine wp_ret ?_
      cases hH
      exact r_ret hτ [] h rfl rfl rfl
    | o1 x41 x42 =>
      refine s_call1 fn15 (agent_Handle.ok (Switch.mk x33 x34 x35 x36 x37 [] x38) x30 9 _ hq39) [true] h (wanted_none rfl) rfl rfl rfl rfl rfl ?_
      intro a w ν h
      refine pures [0, 0, 0] hτ h rfl ?_
      intro a h
      refine s_new h (wanted_none rfl) rfl rfl (e_alloc (r := 2108) hτ h.o rfl rfl) ?_
      intro a w ν h
      refine s_store hτ h (wanted_none rfl) rfl rfl rfl rfl rfl ?_
      intro a w ν h
      refine pures [0] hτ h rfl ?_
      intro a h
      refine k_end ?_
      refine k_seq ?_
      refine k_reg ?_
      refine pures [0, 0, 0] hτ h rfl ?_
      intro a h
      refine k_end ?_
      refine k_ifH hH h rfl (fun hb hH => ?_) (fun hb hH => ?_)
      · refine k_reg ?_
        refine pures [0] hτ h rfl ?_
        intro a h
        refine k_end ?_
        refine wp_ret ?_
        cases hH
        exact r_ret hτ [] h rfl rfl rfl
      · refine k_skip ?_
        refine t_then ?_
        refine k_reg ?_
        refine pures [0] hτ h rfl ?_
        intro a h
        obtain ⟨x43, hx43, hH⟩ := bnd hH
        refine s_idx hτ h (wanted_none rfl) rfl rfl rfl rfl (at_map hx43 (c_L c_u8)).1 (at_map hx43 (c_L c_u8)).2 ?_
        intro a w ν h
        refine pures [0] hτ h rfl ?_
        intro a h
        obtain ⟨q44, hq44, hH⟩ := bnd hH
        obtain ⟨x45, x46⟩ := q44
        refine s_call1 fn35 (frame_Open.ok x43 _ hq44) [] h (wanted_none rfl) rfl rfl rfl rfl rfl ?_
        intro a w ν h
        refine pures [0, 0, 0] hτ h rfl ?_
        intro a h
        refine s_new h (wanted_none rfl) rfl rfl (e_alloc (r := 2109) hτ h.o rfl rfl) ?_
        intro a w ν h
        refine s_store hτ h (wanted_none rfl) rfl rfl rfl rfl rfl ?_
        intro a w ν h
        refine pures [0] hτ h rfl ?_
        intro a h
        refine k_end ?_
        refine k_reg ?_
        refine pures [0, 0, 0, 1, 1, 1, 0, 0, 1, 1, 0, 0, 1, 1] hτ h rfl ?_
        intro a h
        refine s_gd h [] rfl rfl rfl rfl rfl rfl (fun hbu => p_of0 rfl fun w a ν X hO hF hg => e_eqA hF hO hg eqA32 rfl) ?_
        intro a w ν h
        refine pures [0, 0] hτ h rfl ?_
        intro a h
        refine k_end ?_
        refine wp_ret ?_
        cases hH
        exact r_ret hτ [] h rfl rfl rfl
    | o2 x47 x48 x49 x50 x51 x52 x53 x54 =>
      refine s_call fn15 ((agent_Handle.ok (Switch.mk x33 x34 x35 x36 x37 [] x38) x30 9 _ hq39).sw_ 17900 2110) [] [2110] [true] h (wanted_none rfl) rfl rfl rfl rfl rfl rfl ?_
      intro a w ν h
      refine pures [0, 0, 0] hτ h rfl ?_
      intro a h
      refine s_new h (wanted_none rfl) rfl rfl (e_alloc (r := 2111) hτ h.o rfl rfl) ?_
      intro a w ν h
      refine s_store hτ h (wanted_none rfl) rfl rfl rfl rfl rfl ?_
      intro a w ν h
      refine pures [0] hτ h rfl ?_
      intro a h
      refine k_end ?_
      refine k_seq ?_
      refine k_reg ?_
      refine pures [0, 0, 0] hτ h rfl ?_
      intro a h
      refine k_end ?_
      refine k_ifH hH h rfl (fun hb hH => ?_) (fun hb hH => ?_)
      · refine k_reg ?_
        refine pures [0] hτ h rfl ?_
        intro a h
        refine k_end ?_
        refine wp_ret ?_
        cases hH
        exact r_ret hτ [] h rfl rfl rfl
      · refine k_skip ?_
        refine t_then ?_
        refine k_reg ?_
        refine pures [0] hτ h rfl ?_
        intro a h
        obtain ⟨x55, hx55, hH⟩ := bnd hH
        refine s_idx hτ h (wanted_none rfl) rfl rfl rfl rfl (at_map hx55 (c_L c_u8)).1 (at_map hx55 (c_L c_u8)).2 ?_
        intro a w ν h
        refine pures [0] hτ h rfl ?_
        intro a h
        obtain ⟨q56, hq56, hH⟩ := bnd hH
        obtain ⟨x57, x58⟩ := q56
        refine s_call1 fn35 (frame_Open.ok x55 _ hq56) [] h (wanted_none rfl) rfl rfl rfl rfl rfl ?_
        intro a w ν h
        refine pures [0, 0, 0] hτ h rfl ?_
        intro a h
        refine s_new h (wanted_none rfl) rfl rfl (e_alloc (r := 2112) hτ h.o rfl rfl) ?_
        intro a w ν h
        refine s_store hτ h (wanted_none rfl) rfl rfl rfl rfl rfl ?_
        intro a w ν h
        refine pures [0] hτ h rfl ?_
        intro a h
        refine k_end ?_
        refine k_reg ?_
        refine pures [0, 0, 0, 1, 1, 1, 0, 0, 1, 1, 0, 0, 1, 1] hτ h rfl ?_
        intro a h
        refine s_gd h [] rfl rfl rfl rfl rfl rfl (fun hbu => p_of0 rfl fun w a ν X hO hF hg => e_eqA hF hO hg eqA32 rfl) ?_
        intro a w ν h
        refine pures [0, 0] hτ h rfl ?_
        intro a h
        refine k_end ?_
        refine wp_ret ?_
        cases hH
        exact r_ret hτ [] h rfl rfl rfl
/-! ### wayfinder/wayfinderlaw09.Few -/
structure wayfinderlaw09_Few.R where
  o0 ::
  y0 : Bool
  deriving Inhabited
def wayfinderlaw09_Few.rd (p0 : (List Ver)) (r : wayfinderlaw09_Few.R) : DV := bo r.y0
def wayfinderlaw09_Few.rh (p0 : (List Ver)) (r : wayfinderlaw09_Few.R) : Hp := []
def wayfinderlaw09_Few.l0 (p0 : (List Ver)) (s1 : Int) : Option (Ou (Unit) wayfinderlaw09_Few.R) := (if decide (s1 < (lenc c_Ver p0)) then (at_ p0 s1 >>= fun x3 => (if decide ((lenc c_Rule x3.L) > 60) then some (.ret (wayfinderlaw09_Few.R.o0 false)) else wayfinderlaw09_Few.l0 p0 (IntKind.i64.wrap (s1 + 1)))) else some (.go ()))
  partial_fixpoint
def wayfinderlaw09_Few (p0 : (List Ver)) : Option wayfinderlaw09_Few.R := (if decide ((lenc c_Ver p0) > 20) then some (wayfinderlaw09_Few.R.o0 false) else (wayfinderlaw09_Few.l0 p0 0 >>= fun o => match o with | .ret r => some r | .go z1 => some (wayfinderlaw09_Few.R.o0 true)))
theorem fn12 : Go.Proofs.YtjjmoihpjmojiaaDoor.D.Fn Tryd.prog 12 := ⟨Tryd.f12, Tryd.func12, by kernel_rfl, rfl⟩
set_option maxRecDepth 100000 in
theorem wayfinderlaw09_Few.ok (p0 : (List Ver)) (r : wayfinderlaw09_Few.R) (hH : wayfinderlaw09_Few p0 = some r) : Con Tryd.prog 12 [.sl (p0.map c_Ver)] [] (wayfinderlaw09_Few.rd p0 r) (wayfinderlaw09_Few.rh p0 r) := by
  refine con_of Tryd.f12 20 (c := _) Tryd.func12 rfl rfl rfl ?_
  intro w a ν X h
  unfold wayfinderlaw09_Few at hH
  refine k_reg ?_
  refine pures [0] hτ h rfl ?_
  intro a h
  refine k_end ?_
  refine k_seq ?_
  refine k_reg ?_
  refine pures [0, 0, 0] hτ h rfl ?_
  intro a h
  refine k_end ?_
  refine k_ifH hH h rfl (fun hb hH => ?_) (fun hb hH => ?_)
  · refine k_reg ?_
    refine pures [0] hτ h rfl ?_
    intro a h
    refine k_end ?_
    refine wp_ret ?_
    cases hH
    exact r_ret hτ [] h rfl rfl rfl
  · refine k_skip ?_
    refine t_then ?_
    refine k_seq ?_
    refine k_reg ?_
    refine pures [0] hτ h rfl ?_
    intro a h
    refine k_end ?_
    have h := h.pick_ [0, 3] [] rfl rfl rfl
    refine k_cut h hH (fun (z1 : Unit) => []) (fun (z1 : Unit) => []) (fun o0 ho hk0 => ?_) (fun z1 a w ν hH h => ?_)
    · refine k_blk ?_
      refine k_loopC (wayfinderlaw09_Few.l0.partial_correctness p0) (fun (s1 : Int) => [(0, none, .sl (p0.map c_Ver)), (3, none, i64 s1)]) (fun (s1 : Int) => []) ho hk0 h ?_
      intro g s1 o0 hH hk0 a w ν h
      refine k_seq ?_
      refine k_reg ?_
      refine pures [0, 0, 0, 0] hτ h rfl ?_
      intro a h
      refine k_end ?_
      refine k_ifH hH h rfl (fun hb hH => ?_) (fun hb hH => ?_)
      · refine k_skip ?_
        refine t_then ?_
        refine k_seq ?_
        refine k_blk ?_
        refine k_reg ?_
        refine pures [0, 0] hτ h rfl ?_
        intro a h
        obtain ⟨x3, hx3, hH⟩ := bnd hH
        refine s_idx hτ h (wanted_none rfl) rfl rfl rfl rfl (at_map hx3 c_Ver).1 (at_map hx3 c_Ver).2 ?_
        intro a w ν h
        refine pures [0, 0, 0, 0] hτ h rfl ?_
        intro a h
        refine k_end ?_
        refine k_ifH hH h rfl (fun hb hH => ?_) (fun hb hH => ?_)
        · refine k_reg ?_
          refine pures [0] hτ h rfl ?_
          intro a h
          refine k_end ?_
          refine wp_ret ?_
          cases hH
          cases Kp.out hk0
          exact r_ret hτ [] h rfl rfl rfl
        · refine k_skip ?_
          refine t_blk ?_
          refine t_then ?_
          refine k_reg1 ?_
          refine pures [0, 0, 0] hτ h rfl ?_
          intro a h
          refine k_end1 ?_
          have h := h.pick_ [0, 3] [] rfl rfl rfl
          exact ⟨_, _, hH, h.pick_ [0, 3] [] rfl rfl rfl⟩
      · refine wp_exit ?_
        refine t_te ?_
        refine t_te ?_
        refine t_exit ?_
        have h := h.pick_ [] [] rfl rfl rfl
        cases hH
        exact ⟨_, _, rfl, h.pick_ [] [] rfl rfl rfl⟩
    · refine t_then ?_
      refine k_reg ?_
      refine pures [0] hτ h rfl ?_
      intro a h
      refine k_end ?_
      refine wp_ret ?_
      cases hH
      exact r_ret hτ [] h rfl rfl rfl
/-! ### wayfinder/agent.Restart -/
structure agent_Restart.R where
  o0 ::
  y0 : Int
  y1 : Int
  y2 : Bool
  y3 : Int
  y4 : Int
  y5 : Int
  deriving Inhabited
def agent_Restart.rd (p0 : Switch) (r : agent_Restart.R) : DV := .agg [i64 r.y0, i64 r.y1, bo r.y2, i64 r.y3, i64 r.y4, .v (.slice none 0 0), i64 r.y5]
def agent_Restart.rh (p0 : Switch) (r : agent_Restart.R) : Hp := []
def agent_Restart (p0 : Switch) : Option agent_Restart.R := some (agent_Restart.R.o0 (IntKind.i64.wrap ((mn p0.Epoch 1048575) + 1)) 0 false 0 0 p0.Junk)
theorem fn13 : Go.Proofs.YtjjmoihpjmojiaaDoor.D.Fn Tryd.prog 13 := ⟨Tryd.f13, Tryd.func13, by kernel_rfl, rfl⟩
set_option maxRecDepth 100000 in
theorem agent_Restart.ok (p0 : Switch) (r : agent_Restart.R) (hH : agent_Restart p0 = some r) : Con Tryd.prog 13 [.agg [i64 p0.Epoch, i64 p0.Seen, bo p0.Open, i64 p0.Stamp, i64 p0.Bad, .sl (p0.L.map c_Ver), i64 p0.Junk]] [] (agent_Restart.rd p0 r) (agent_Restart.rh p0 r) := by
  refine con_of Tryd.f13 10 (c := _) Tryd.func13 rfl rfl rfl ?_
  intro w a ν X h
  unfold agent_Restart at hH
  refine k_reg ?_
  refine s_new h (wanted_none rfl) rfl rfl (e_box (r := 60101) (g := none) h.f h.o rfl trivial rfl rfl) ?_
  intro a w ν h
  refine s_new h (wanted_none rfl) rfl rfl (e_alloc (r := 60102) hτ h.o rfl rfl) ?_
  intro a w ν h
  refine k_end ?_
  refine k_reg ?_
  refine pures [0, 0, 0, 0, 0, 0, 0] hτ h rfl ?_
  intro a h
  refine s_store hτ h (wanted_none rfl) rfl rfl rfl rfl rfl ?_
  intro a w ν h
  refine k_end ?_
  refine wp_ret ?_
  cases hH
  exact r_ret hτ [] h rfl rfl rfl
/-! ### wayfinder/wayfinderref08.Same -/
structure wayfinderref08_Same.R where
  o0 ::
  y0 : Bool
  deriving Inhabited
def wayfinderref08_Same.rd (p0 : (List Rule)) (p1 : (List Rule)) (r : wayfinderref08_Same.R) : DV := bo r.y0
def wayfinderref08_Same.rh (p0 : (List Rule)) (p1 : (List Rule)) (r : wayfinderref08_Same.R) : Hp := []
def wayfinderref08_Same.l0 (p0 : (List Rule)) (p1 : (List Rule)) (s1 : Int) : Option (Ou (Unit) wayfinderref08_Same.R) := (if decide (s1 < (lenc c_Rule p0)) then (at_ p0 s1 >>= fun x5 => (at_ p1 s1 >>= fun x6 => (if (!((x5.P.Addr == x6.P.Addr) && ((x5.P.Len == x6.P.Len) && ((x5.In == x6.In) && ((x5.Prio == x6.Prio) && ((x5.Act.Kind == x6.Act.Kind) && ((x5.Act.Port == x6.Act.Port) && true))))))) then some (.ret (wayfinderref08_Same.R.o0 false)) else wayfinderref08_Same.l0 p0 p1 (IntKind.i64.wrap (s1 + 1))))) else some (.go ()))
  partial_fixpoint
def wayfinderref08_Same (p0 : (List Rule)) (p1 : (List Rule)) : Option wayfinderref08_Same.R := (if ((lenc c_Rule p0) != (lenc c_Rule p1)) then some (wayfinderref08_Same.R.o0 false) else (wayfinderref08_Same.l0 p0 p1 0 >>= fun o => match o with | .ret r => some r | .go z1 => some (wayfinderref08_Same.R.o0 true)))
theorem fn22 : Go.Proofs.YtjjmoihpjmojiaaDoor.D.Fn Tryd.prog 22 := ⟨Tryd.f22, Tryd.func22, by kernel_rfl, rfl⟩
set_option maxRecDepth 100000 in
theorem wayfinderref08_Same.ok (p0 : (List Rule)) (p1 : (List Rule)) (r : wayfinderref08_Same.R) (hH : wayfinderref08_Same p0 p1 = some r) : Con Tryd.prog 22 [.sl (p0.map c_Rule), .sl (p1.map c_Rule)] [] (wayfinderref08_Same.rd p0 p1 r) (wayfinderref08_Same.rh p0 p1 r) := by
  refine con_of Tryd.f22 26 (c := _) Tryd.func22 rfl rfl rfl ?_
  intro w a ν X h
  unfold wayfinderref08_Same at hH
  refine k_reg ?_
  refine pures [0] hτ h rfl ?_
  intro a h
  refine k_end ?_
  refine k_seq ?_
  refine k_reg ?_
  refine pures [0, 0, 0, 0, 0] hτ h rfl ?_
  intro a h
  refine k_end ?_
  refine k_ifH hH h rfl (fun hb hH => ?_) (fun hb hH => ?_)
  · refine k_reg ?_
    refine pures [0] hτ h rfl ?_
    intro a h
    refine k_end ?_
    refine wp_ret ?_
    cases hH
    exact r_ret hτ [] h rfl rfl rfl
  · refine k_skip ?_
    refine t_then ?_
    refine k_seq ?_
    refine k_reg ?_
    refine pures [0] hτ h rfl ?_
    intro a h
    refine k_end ?_
    have h := h.pick_ [0, 1, 5] [] rfl rfl rfl
    refine k_cut h hH (fun (z1 : Unit) => []) (fun (z1 : Unit) => []) (fun o0 ho hk0 => ?_) (fun z1 a w ν hH h => ?_)
    · refine k_blk ?_
      refine k_loopC (wayfinderref08_Same.l0.partial_correctness p0 p1) (fun (s1 : Int) => [(0, none, .sl (p0.map c_Rule)), (1, none, .sl (p1.map c_Rule)), (5, none, i64 s1)]) (fun (s1 : Int) => []) ho hk0 h ?_
      intro g s1 o0 hH hk0 a w ν h
      refine k_seq ?_
      refine k_reg ?_
      refine pures [0, 0, 0, 0] hτ h rfl ?_
      intro a h
      refine k_end ?_
      refine k_ifH hH h rfl (fun hb hH => ?_) (fun hb hH => ?_)
      · refine k_skip ?_
        refine t_then ?_
        refine k_seq ?_
        refine k_blk ?_
        refine k_seq ?_
        refine k_any mixed h ?_
        intro w ν h
        obtain ⟨x5, hx5, hH⟩ := bnd hH
        obtain ⟨x6, hx6, hH⟩ := bnd hH
        have h : St _ [(0, none, .sl (p0.map c_Rule)), (1, none, .sl (p1.map c_Rule)), (5, none, i64 s1)] [] _ w a ν := h.pickG [0, 1, 5] [] (by kernel_rfl) (by kernel_rfl) (by kernel_rfl)
        refine mid_any (fs := [⟨some (17, none, .sl (p0.map c_Rule)), [], []⟩, ⟨some (18, none, i64 s1), [], []⟩, ⟨some (19, none, .fat [i64 x5.P.Addr, i64 x5.P.Len, i64 x5.In, i64 x5.Prio, i64 x5.Act.Kind, i64 x5.Act.Port] 0), [], []⟩, ⟨some (20, none, .agg [i64 x5.P.Addr, i64 x5.P.Len, i64 x5.In, i64 x5.Prio, i64 x5.Act.Kind, i64 x5.Act.Port]), [], []⟩, ⟨some (21, none, .sl (p1.map c_Rule)), [], []⟩, ⟨some (22, none, i64 s1), [], []⟩, ⟨some (23, none, .fat [i64 x6.P.Addr, i64 x6.P.Len, i64 x6.In, i64 x6.Prio, i64 x6.Act.Kind, i64 x6.Act.Port] 0), [], []⟩, ⟨some (24, none, .agg [i64 x6.P.Addr, i64 x6.P.Len, i64 x6.In, i64 x6.Prio, i64 x6.Act.Kind, i64 x6.Act.Port]), [], []⟩]) 0 [([], []), ([], []), ([0, 1], []), ([2, 0, 1], []), ([], []), ([], []), ([4, 5], []), ([6, 4, 5], [])] (by kernel_rfl) h (by kernel_rfl) ⟨ok_plain rfl (p_pure hτ (by kernel_rfl)), ok_plain rfl (p_pure hτ (by kernel_rfl)), ok_plain rfl (p_of0 rfl fun w a ν X hO hF hg => e_idx hτ hF hO hg rfl rfl (at_map hx5 c_Rule).1 (at_map hx5 c_Rule).2), ok_plain rfl (p_pure hτ (by kernel_rfl)), ok_plain rfl (p_pure hτ (by kernel_rfl)), ok_plain rfl (p_pure hτ (by kernel_rfl)), ok_plain rfl (p_of0 rfl fun w a ν X hO hF hg => e_idx hτ hF hO hg rfl rfl (at_map hx6 c_Rule).1 (at_map hx6 c_Rule).2), ok_plain rfl (p_pure hτ (by kernel_rfl)), trivial⟩ ?_
        intro a w ν h
        have h : St _ [(0, none, .sl (p0.map c_Rule)), (1, none, .sl (p1.map c_Rule)), (5, none, i64 s1), (20, none, .agg [i64 x5.P.Addr, i64 x5.P.Len, i64 x5.In, i64 x5.Prio, i64 x5.Act.Kind, i64 x5.Act.Port]), (24, none, .agg [i64 x6.P.Addr, i64 x6.P.Len, i64 x6.In, i64 x6.Prio, i64 x6.Act.Kind, i64 x6.Act.Port])] [] _ w a ν := h.pickG [0, 1, 5, 20, 24] [] (by kernel_rfl) (by kernel_rfl) (by kernel_rfl)
        refine mid_list 8 (by kernel_rfl) (by kernel_rfl) ?_
        refine s_pv0 h [] (wanted_none rfl) rfl rfl (p_of0 rfl fun w a ν X hO hF hg => e_eqA hF hO hg eqA30 rfl) ?_
        intro a w ν h
        refine k_end1 ?_
        refine t_then ?_
        refine k_ifH hH h rfl (fun hb hH => ?_) (fun hb hH => ?_)
        · refine k_reg ?_
          refine pures [0] hτ h rfl ?_
          intro a h
          refine k_end ?_
          refine wp_ret ?_
          cases hH
          cases Kp.out hk0
          exact r_ret hτ [] h rfl rfl rfl
        · refine k_skip ?_
          refine t_blk ?_
          refine t_then ?_
          refine k_reg1 ?_
          refine pures [0, 0, 0] hτ h rfl ?_
          intro a h
          refine k_end1 ?_
          have h := h.pick_ [0, 1, 5] [] rfl rfl rfl
          exact ⟨_, _, hH, h.pick_ [0, 1, 5] [] rfl rfl rfl⟩
      · refine wp_exit ?_
        refine t_te ?_
        refine t_te ?_
        refine t_exit ?_
        have h := h.pick_ [] [] rfl rfl rfl
        cases hH
        exact ⟨_, _, rfl, h.pick_ [] [] rfl rfl rfl⟩
    · refine t_then ?_
      refine k_reg ?_
      refine pures [0] hτ h rfl ?_
      intro a h
      refine k_end ?_
      refine wp_ret ?_
      cases hH
      exact r_ret hτ [] h rfl rfl rfl
/-! ### wayfinder/wayfinderref09.Same -/
structure wayfinderref09_Same.R where
  o0 ::
  y0 : Bool
  deriving Inhabited
def wayfinderref09_Same.rd (p0 : (List Ver)) (p1 : (List Ver)) (r : wayfinderref09_Same.R) : DV := bo r.y0
def wayfinderref09_Same.rh (p0 : (List Ver)) (p1 : (List Ver)) (r : wayfinderref09_Same.R) : Hp := []
def wayfinderref09_Same.l0 (p0 : (List Ver)) (p1 : (List Ver)) (s1 : Int) : Option (Ou (Unit) wayfinderref09_Same.R) := (if decide (s1 < (lenc c_Ver p0)) then (at_ p0 s1 >>= fun x13 => (at_ p1 s1 >>= fun x14 => (wayfinderref08_Same x13.L x14.L >>= fun q15 => match q15 with | .o0 x16 => (gd (!(!x16)) (at_ p0 s1) default >>= fun x17 => (gd (!(!x16)) (at_ p1 s1) default >>= fun x18 => (if ((!x16) || (x17.Tag != x18.Tag)) then some (.ret (wayfinderref09_Same.R.o0 false)) else wayfinderref09_Same.l0 p0 p1 (IntKind.i64.wrap (s1 + 1)))))))) else some (.go ()))
  partial_fixpoint
def wayfinderref09_Same (p0 : (List Ver)) (p1 : (List Ver)) : Option wayfinderref09_Same.R := (if ((lenc c_Ver p0) != (lenc c_Ver p1)) then some (wayfinderref09_Same.R.o0 false) else (wayfinderref09_Same.l0 p0 p1 0 >>= fun o => match o with | .ret r => some r | .go z1 => some (wayfinderref09_Same.R.o0 true)))
theorem fn43 : Go.Proofs.YtjjmoihpjmojiaaDoor.D.Fn Tryd.prog 43 := ⟨Tryd.f43, Tryd.func43, by kernel_rfl, rfl⟩
set_option maxRecDepth 100000 in
theorem wayfinderref09_Same.ok (p0 : (List Ver)) (p1 : (List Ver)) (r : wayfinderref09_Same.R) (hH : wayfinderref09_Same p0 p1 = some r) : Con Tryd.prog 43 [.sl (p0.map c_Ver), .sl (p1.map c_Ver)] [] (wayfinderref09_Same.rd p0 p1 r) (wayfinderref09_Same.rh p0 p1 r) := by
  refine con_of Tryd.f43 44 (c := _) Tryd.func43 rfl rfl rfl ?_
  intro w a ν X h
  unfold wayfinderref09_Same at hH
  refine k_reg ?_
  refine pures [0] hτ h rfl ?_
  intro a h
  refine k_end ?_
  refine k_seq ?_
  refine k_reg ?_
  refine pures [0, 0, 0, 0, 0] hτ h rfl ?_
  intro a h
  refine k_end ?_
  refine k_ifH hH h rfl (fun hb hH => ?_) (fun hb hH => ?_)
  · refine k_reg ?_
    refine pures [0] hτ h rfl ?_
    intro a h
    refine k_end ?_
    refine wp_ret ?_
    cases hH
    exact r_ret hτ [] h rfl rfl rfl
  · refine k_skip ?_
    refine t_then ?_
    refine k_seq ?_
    refine k_reg ?_
    refine pures [0] hτ h rfl ?_
    intro a h
    refine k_end ?_
    have h := h.pick_ [0, 1, 5] [] rfl rfl rfl
    refine k_cut h hH (fun (z1 : Unit) => []) (fun (z1 : Unit) => []) (fun o0 ho hk0 => ?_) (fun z1 a w ν hH h => ?_)
    · refine k_blk ?_
      refine k_loopC (wayfinderref09_Same.l0.partial_correctness p0 p1) (fun (s1 : Int) => [(0, none, .sl (p0.map c_Ver)), (1, none, .sl (p1.map c_Ver)), (5, none, i64 s1)]) (fun (s1 : Int) => []) ho hk0 h ?_
      intro g s1 o0 hH hk0 a w ν h
      refine k_seq ?_
      refine k_reg ?_
      refine pures [0, 0, 0, 0] hτ h rfl ?_
      intro a h
      refine k_end ?_
      refine k_ifH hH h rfl (fun hb hH => ?_) (fun hb hH => ?_)
      · refine k_skip ?_
        refine t_then ?_
        refine k_seq ?_
        refine k_blk ?_
        refine k_seq ?_
        refine k_any mixed h ?_
        intro w ν h
        obtain ⟨x13, hx13, hH⟩ := bnd hH
        obtain ⟨x14, hx14, hH⟩ := bnd hH
        have h : St _ [(0, none, .sl (p0.map c_Ver)), (1, none, .sl (p1.map c_Ver)), (5, none, i64 s1)] [] _ w a ν := h.pickG [0, 1, 5] [] (by kernel_rfl) (by kernel_rfl) (by kernel_rfl)
        refine mid_any (fs := [⟨some (18, none, .sl (p0.map c_Ver)), [], []⟩, ⟨some (19, none, i64 s1), [], []⟩, ⟨some (20, none, .fat [i64 x13.Tag, .sl (x13.L.map c_Rule)] 0), [], []⟩, ⟨some (21, none, .fat [i64 x13.Tag, .sl (x13.L.map c_Rule)] 1), [], []⟩, ⟨some (22, none, .sl (x13.L.map c_Rule)), [], []⟩, ⟨some (23, none, .sl (p1.map c_Ver)), [], []⟩, ⟨some (24, none, i64 s1), [], []⟩, ⟨some (25, none, .fat [i64 x14.Tag, .sl (x14.L.map c_Rule)] 0), [], []⟩, ⟨some (26, none, .fat [i64 x14.Tag, .sl (x14.L.map c_Rule)] 1), [], []⟩, ⟨some (27, none, .sl (x14.L.map c_Rule)), [], []⟩]) 0 [([], []), ([], []), ([0, 1], []), ([2, 0, 1], []), ([3, 0, 1, 2], []), ([], []), ([], []), ([5, 6], []), ([7, 5, 6], []), ([8, 5, 6, 7], [])] (by kernel_rfl) h (by kernel_rfl) ⟨ok_plain rfl (p_pure hτ (by kernel_rfl)), ok_plain rfl (p_pure hτ (by kernel_rfl)), ok_plain rfl (p_of0 rfl fun w a ν X hO hF hg => e_idx hτ hF hO hg rfl rfl (at_map hx13 c_Ver).1 (at_map hx13 c_Ver).2), ok_plain rfl (p_pure hτ (by kernel_rfl)), ok_plain rfl (p_pure hτ (by kernel_rfl)), ok_plain rfl (p_pure hτ (by kernel_rfl)), ok_plain rfl (p_pure hτ (by kernel_rfl)), ok_plain rfl (p_of0 rfl fun w a ν X hO hF hg => e_idx hτ hF hO hg rfl rfl (at_map hx14 c_Ver).1 (at_map hx14 c_Ver).2), ok_plain rfl (p_pure hτ (by kernel_rfl)), ok_plain rfl (p_pure hτ (by kernel_rfl)), trivial⟩ ?_
        intro a w ν h
        have h : St _ [(0, none, .sl (p0.map c_Ver)), (1, none, .sl (p1.map c_Ver)), (5, none, i64 s1), (22, none, .sl (x13.L.map c_Rule)), (27, none, .sl (x14.L.map c_Rule))] [] _ w a ν := h.pickG [0, 1, 5, 22, 27] [] (by kernel_rfl) (by kernel_rfl) (by kernel_rfl)
        refine mid_list 10 (by kernel_rfl) (by kernel_rfl) ?_
        obtain ⟨q15, hq15, hH⟩ := bnd hH
        obtain ⟨x16⟩ := q15
        refine s_call1 fn22 (wayfinderref08_Same.ok x13.L x14.L _ hq15) [] h (wanted_none rfl) rfl rfl rfl rfl rfl ?_
        intro a w ν h
        refine pures [0] hτ h rfl ?_
        intro a h
        refine k_end1 ?_
        refine t_then ?_
        refine k_seq ?_
        refine k_any mixed h ?_
        intro w ν h
        have h : St _ [(0, none, .sl (p0.map c_Ver)), (1, none, .sl (p1.map c_Ver)), (5, none, i64 s1), (6, none, bo x16)] [] _ w a ν := h.pickG [0, 1, 5, 6] [] (by kernel_rfl) (by kernel_rfl) (by kernel_rfl)
        refine mid_any (fs := [⟨some (29, none, bo x16), [], []⟩, ⟨some (30, none, bo (!x16)), [], []⟩, ⟨some (31, none, bo (!x16)), [], []⟩]) 0 [([], []), ([0], []), ([1, 0], [])] (by kernel_rfl) h (by kernel_rfl) ⟨ok_plain rfl (p_pure hτ (by kernel_rfl)), ok_plain rfl (p_pure hτ (by kernel_rfl)), ok_plain rfl (p_pure hτ (by kernel_rfl)), trivial⟩ ?_
        intro a w ν h
        obtain ⟨x17, hx17, hH⟩ := bnd hH
        obtain ⟨x18, hx18, hH⟩ := bnd hH
        have h : St _ [(0, none, .sl (p0.map c_Ver)), (1, none, .sl (p1.map c_Ver)), (5, none, i64 s1), (31, none, bo (!x16))] [] _ w a ν := h.pickG [0, 1, 5, 31] [] (by kernel_rfl) (by kernel_rfl) (by kernel_rfl)
        refine mid_any (fs := [⟨some (32, (some (31, false)), .sl (p0.map c_Ver)), [], []⟩, ⟨some (33, (some (31, false)), i64 s1), [], []⟩, ⟨some (34, (some (31, false)), .fat [i64 x17.Tag, .sl (x17.L.map c_Rule)] 0), [], []⟩, ⟨some (35, (some (31, false)), .fat [i64 x17.Tag, .sl (x17.L.map c_Rule)] 0), [], []⟩, ⟨some (36, (some (31, false)), i64 x17.Tag), [], []⟩, ⟨some (37, (some (31, false)), .sl (p1.map c_Ver)), [], []⟩, ⟨some (38, (some (31, false)), i64 s1), [], []⟩, ⟨some (39, (some (31, false)), .fat [i64 x18.Tag, .sl (x18.L.map c_Rule)] 0), [], []⟩, ⟨some (40, (some (31, false)), .fat [i64 x18.Tag, .sl (x18.L.map c_Rule)] 0), [], []⟩, ⟨some (41, (some (31, false)), i64 x18.Tag), [], []⟩]) 3 [([], []), ([], []), ([3, 4], []), ([5, 3, 4], []), ([6, 3, 4, 5], []), ([], []), ([], []), ([8, 9], []), ([10, 8, 9], []), ([11, 8, 9, 10], [])] (by kernel_rfl) h (by kernel_rfl) ⟨ok_gd (b := !x16) rfl (by kernel_rfl) (by kernel_rfl) (fun hbu => p_pure hτ (by kernel_rfl)), ok_gd (b := !x16) rfl (by kernel_rfl) (by kernel_rfl) (fun hbu => p_pure hτ (by kernel_rfl)), ok_gd (b := !x16) rfl (by kernel_rfl) (by kernel_rfl) (fun hbu => p_of0 rfl fun w a ν X hO hF hg => e_idx hτ hF hO hg rfl rfl (at_map ((of_gd hx17).1 (by first | exact hbu | exact nt_ hbu)) c_Ver).1 (at_map ((of_gd hx17).1 (by first | exact hbu | exact nt_ hbu)) c_Ver).2), ok_gd (b := !x16) rfl (by kernel_rfl) (by kernel_rfl) (fun hbu => p_pure hτ (by kernel_rfl)), ok_gd (b := !x16) rfl (by kernel_rfl) (by kernel_rfl) (fun hbu => p_pure hτ (by kernel_rfl)), ok_gd (b := !x16) rfl (by kernel_rfl) (by kernel_rfl) (fun hbu => p_pure hτ (by kernel_rfl)), ok_gd (b := !x16) rfl (by kernel_rfl) (by kernel_rfl) (fun hbu => p_pure hτ (by kernel_rfl)), ok_gd (b := !x16) rfl (by kernel_rfl) (by kernel_rfl) (fun hbu => p_of0 rfl fun w a ν X hO hF hg => e_idx hτ hF hO hg rfl rfl (at_map ((of_gd hx18).1 (by first | exact hbu | exact nt_ hbu)) c_Ver).1 (at_map ((of_gd hx18).1 (by first | exact hbu | exact nt_ hbu)) c_Ver).2), ok_gd (b := !x16) rfl (by kernel_rfl) (by kernel_rfl) (fun hbu => p_pure hτ (by kernel_rfl)), ok_gd (b := !x16) rfl (by kernel_rfl) (by kernel_rfl) (fun hbu => p_pure hτ (by kernel_rfl)), trivial⟩ ?_
        intro a w ν h
        have h : St _ [(0, none, .sl (p0.map c_Ver)), (1, none, .sl (p1.map c_Ver)), (5, none, i64 s1), (31, none, bo (!x16)), (32, some (31, false), .sl (p0.map c_Ver)), (33, some (31, false), i64 s1), (34, some (31, false), .fat [i64 x17.Tag, .sl (x17.L.map c_Rule)] 0), (35, some (31, false), .fat [i64 x17.Tag, .sl (x17.L.map c_Rule)] 0), (36, some (31, false), i64 x17.Tag), (37, some (31, false), .sl (p1.map c_Ver)), (38, some (31, false), i64 s1), (39, some (31, false), .fat [i64 x18.Tag, .sl (x18.L.map c_Rule)] 0), (40, some (31, false), .fat [i64 x18.Tag, .sl (x18.L.map c_Rule)] 0), (41, some (31, false), i64 x18.Tag)] [] _ w a ν := h.pickG [0, 1, 5, 31, 32, 33, 34, 35, 36, 37, 38, 39, 40, 41] [] (by kernel_rfl) (by kernel_rfl) (by kernel_rfl)
        refine mid_list 13 (by kernel_rfl) (by kernel_rfl) ?_
        refine pures [1, 0] hτ h rfl ?_
        intro a h
        refine k_end1 ?_
        refine t_then ?_
        refine k_ifH hH h rfl (fun hb hH => ?_) (fun hb hH => ?_)
        · refine k_reg ?_
          refine pures [0] hτ h rfl ?_
          intro a h
          refine k_end ?_
          refine wp_ret ?_
          cases hH
          cases Kp.out hk0
          exact r_ret hτ [] h rfl rfl rfl
        · refine k_skip ?_
          refine t_blk ?_
          refine t_then ?_
          refine k_reg1 ?_
          refine pures [0, 0, 0] hτ h rfl ?_
          intro a h
          refine k_end1 ?_
          have h := h.pick_ [0, 1, 5] [] rfl rfl rfl
          exact ⟨_, _, hH, h.pick_ [0, 1, 5] [] rfl rfl rfl⟩
      · refine wp_exit ?_
        refine t_te ?_
        refine t_te ?_
        refine t_exit ?_
        have h := h.pick_ [] [] rfl rfl rfl
        cases hH
        exact ⟨_, _, rfl, h.pick_ [] [] rfl rfl rfl⟩
    · refine t_then ?_
      refine k_reg ?_
      refine pures [0] hτ h rfl ?_
      intro a h
      refine k_end ?_
      refine wp_ret ?_
      cases hH
      exact r_ret hτ [] h rfl rfl rfl
/-! ### wayfinder/wayfinderref17.Same -/
structure wayfinderref17_Same.R where
  o0 ::
  y0 : Bool
  deriving Inhabited
def wayfinderref17_Same.rd (p0 : Switch) (p1 : Switch) (r : wayfinderref17_Same.R) : DV := bo r.y0
def wayfinderref17_Same.rh (p0 : Switch) (p1 : Switch) (r : wayfinderref17_Same.R) : Hp := []
def wayfinderref17_Same (p0 : Switch) (p1 : Switch) : Option wayfinderref17_Same.R := (wayfinderref09_Same p0.L p1.L >>= fun q1 => match q1 with | .o0 x2 => some (wayfinderref17_Same.R.o0 ((((((x2 && (p0.Epoch == p1.Epoch)) && (p0.Seen == p1.Seen)) && (p0.Open == p1.Open)) && (p0.Stamp == p1.Stamp)) && (p0.Bad == p1.Bad)) && (p0.Junk == p1.Junk))))
theorem fn16 : Go.Proofs.YtjjmoihpjmojiaaDoor.D.Fn Tryd.prog 16 := ⟨Tryd.f16, Tryd.func16, by kernel_rfl, rfl⟩
set_option maxRecDepth 100000 in
theorem wayfinderref17_Same.ok (p0 : Switch) (p1 : Switch) (r : wayfinderref17_Same.R) (hH : wayfinderref17_Same p0 p1 = some r) : Con Tryd.prog 16 [.agg [i64 p0.Epoch, i64 p0.Seen, bo p0.Open, i64 p0.Stamp, i64 p0.Bad, .sl (p0.L.map c_Ver), i64 p0.Junk], .agg [i64 p1.Epoch, i64 p1.Seen, bo p1.Open, i64 p1.Stamp, i64 p1.Bad, .sl (p1.L.map c_Ver), i64 p1.Junk]] [] (wayfinderref17_Same.rd p0 p1 r) (wayfinderref17_Same.rh p0 p1 r) := by
  refine con_of Tryd.f16 54 (c := _) Tryd.func16 rfl rfl rfl ?_
  intro w a ν X h
  unfold wayfinderref17_Same at hH
  refine k_reg ?_
  refine s_new h (wanted_none rfl) rfl rfl (e_box (r := 61101) (g := none) h.f h.o rfl trivial rfl rfl) ?_
  intro a w ν h
  refine s_new h (wanted_none rfl) rfl rfl (e_box (r := 61102) (g := none) h.f h.o rfl trivial rfl rfl) ?_
  intro a w ν h
  refine pures [0] hτ h rfl ?_
  intro a h
  refine k_end ?_
  refine k_reg ?_
  refine pures [0, 0, 0, 0] hτ h rfl ?_
  intro a h
  obtain ⟨q1, hq1, hH⟩ := bnd hH
  obtain ⟨x2⟩ := q1
  refine s_call1 fn43 (wayfinderref09_Same.ok p0.L p1.L _ hq1) [] h (wanted_none rfl) rfl rfl rfl rfl rfl ?_
  intro a w ν h
  refine pures [0] hτ h rfl ?_
  intro a h
  refine k_end ?_
  refine k_reg ?_
  refine pures [0, 0, 1, 1, 1, 1, 1, 0, 0, 1, 1, 1, 1, 1, 0, 0, 1, 1, 1, 1, 1, 0, 0, 1, 1, 1, 1, 1, 0, 0, 1, 1, 1, 1, 1, 0, 0, 1, 1, 1, 1, 1, 0, 0] hτ h rfl ?_
  intro a h
  refine k_end ?_
  refine wp_ret ?_
  cases hH
  exact r_ret hτ [] h rfl rfl rfl
end Go.Proofs.YtjjmoihpjmojiaaDoor.X
