import Derived.Test.YtfhphiedbdinmaaGreatDoorAHItoa
import Derived.Test.YtfhphiedbdinmaaGreatDoorAHSortW
import Derived.Test.YtfhphiedbdinmaaGreatDoorEvPT
set_option linter.all false
namespace Go.Proofs.YtfhphiedbdinmaaGreatDoor.A
open Go Ab
set_option maxRecDepth 100000
noncomputable section
private noncomputable abbrev pg : Program := Go.Proofs.Tryz.prog
private theorem pm : pg.follows .mixedOrders = true := by kernel_rfl
private noncomputable abbrev T6 : Ty := (.cons (.int .i64) (.cons (.int .i64) .nil))
private noncomputable abbrev T2 : Ty := (.cons (.int .i64) T6)
private noncomputable abbrev T0 : Ty := (.cons (.int .i64) (.cons (.int .i64) (.cons (.int .i64) T2)))
private noncomputable abbrev T5 : Ty := (.cons (.int .i64) (.cons (.int .i64) (.cons (.sl .str) .nil)))
private noncomputable abbrev T1 : Ty := (.cons (.int .i64) (.cons (.int .i64) (.cons (.int .i64) T5)))
private noncomputable abbrev T3 : Ty := (.cons (.int .i64) (.cons (.int .i64) (.cons (.sl T0) .nil)))
private noncomputable abbrev T7 : Ty := (.sl T2)
private noncomputable abbrev T4 : Ty := (.cons (.int .i64) (.cons (.int .i64) (.cons (.int .i64) (.cons (.sl T0) (.cons T7 (.cons (.sl T1) .nil))))))
private noncomputable abbrev T8 : Ty := (.cons (.int .i64) (.cons (.int .i64) T0))
private noncomputable abbrev L0 : List Ty := [T0, (.int .i64), (.int .i64)]
private noncomputable abbrev L1 : List Ty := [(.int .i64)]
private noncomputable abbrev L2 : List Ty := [(.cons (.int .i64) (.cons (.int .i64) (.cons (.sl .str) T2)))]
def board_New_sig (k : Nat) : Sig := ⟨L1, [T3, (.int .i64)], fun x => board_New k x.1⟩
theorem board_New_ok (k : Nat) : FnOk pg 36 (board_New_sig k) := fn_okE k [] nh pm (by kernel_rfl) fun x => by kernel_rfl
def machine_New_sig (k : Nat) : Sig := ⟨L1, [T4, (.int .i64)], fun x => machine_New k x.1⟩
theorem machine_New_ok (k : Nat) : FnOk pg 13 (machine_New_sig k) := fn_okE k [⟨_, _, board_New_ok⟩] nh pm (by kernel_rfl) fun x => by kernel_rfl
def board_open_sig (k : Nat) : Sig := ⟨[T3], [(.cons (.sl T0) T3)], fun x => board_open k x.1⟩
theorem board_open_ok (k : Nat) : FnOk pg 130 (board_open_sig k) := fn_okE k [] nh pm (by kernel_rfl) fun x => by kernel_rfl
def alarm_Wait_sig (k : Nat) : Sig := ⟨L1, L1, fun x => alarm_Wait k x.1⟩
theorem alarm_Wait_ok (k : Nat) : FnOk pg 198 (alarm_Wait_sig k) := fn_okE k [] nh pm (by kernel_rfl) fun x => by kernel_rfl
def alarm_time_sig (k : Nat) : Sig := ⟨L1, [.bool], fun x => alarm_time k x.1⟩
theorem alarm_time_ok (k : Nat) : FnOk pg 199 (alarm_time_sig k) := fn_okE k [] nh pm (by kernel_rfl) fun x => by kernel_rfl
def alarm_Is_sig (k : Nat) : Sig := ⟨[T0], [.bool], fun x => alarm_Is k x.1⟩
theorem alarm_Is_ok (k : Nat) : FnOk pg 167 (alarm_Is_sig k) := fn_okE k [⟨_, _, spot_Is_ok⟩, ⟨_, _, alarm_Wait_ok⟩, ⟨_, _, alarm_time_ok⟩] nh pm (by kernel_rfl) fun x => by kernel_rfl
def spot_Less_sig (k : Nat) : Sig := ⟨[T6, T6], [.bool], fun x => spot_Less k x.1 x.2.1⟩
theorem spot_Less_ok (k : Nat) : FnOk pg 168 (spot_Less_sig k) := fn_okE k [] nh pm (by kernel_rfl) fun x => by kernel_rfl
def board_alarms_rise_sig (k : Nat) : Sig := ⟨[(.sl T0), (.int .i64)], [.bool], fun x => board_alarms_rise k x.1 x.2.1⟩
theorem board_alarms_rise_ok (k : Nat) : FnOk pg 131 (board_alarms_rise_sig k) := fn_okE k [⟨_, _, alarm_Is_ok⟩, ⟨_, _, spot_Less_ok⟩] (hs [(131, [(2, ⟨[.tmp 4 .bool, .tmp 9 (.int .i64)], [10, 11, 12, 13, 6, 5, 14, 15, 16, 17, 18, 19, 20, 21, 22, 23, 24, 25, 26, 27, 28, 29, 30, 31, 32, 33, 34, 35, 36, 37, 38, 39], false⟩)])]) pm (by kernel_rfl) fun x => by kernel_rfl
def board_Is_sig (k : Nat) : Sig := ⟨[T3], [.bool], fun x => board_Is k x.1⟩
theorem board_Is_ok (k : Nat) : FnOk pg 103 (board_Is_sig k) := fn_okE k [⟨_, _, board_open_ok⟩, ⟨_, _, board_alarms_rise_ok⟩] nh pm (by kernel_rfl) fun x => by kernel_rfl
def mute_span_may_sig (k : Nat) : Sig := ⟨[T2], [.bool], fun x => mute_span_may k x.1⟩
theorem mute_span_may_ok (k : Nat) : FnOk pg 171 (mute_span_may_sig k) := fn_okE k [] nh pm (by kernel_rfl) fun x => by kernel_rfl
def mute_all_1_sig (k : Nat) : Sig := ⟨[T2], [.bool], fun x => mute_all_1 k x.1⟩
theorem mute_all_1_ok (k : Nat) : FnOk pg 170 (mute_all_1_sig k) := fn_okE k [⟨_, _, mute_span_may_ok⟩] nh pm (by kernel_rfl) fun x => by kernel_rfl
def mute_all_sig (k : Nat) : Sig := ⟨[T7], [.bool], fun x => mute_all k x.1⟩
theorem mute_all_ok (k : Nat) : FnOk pg 132 (mute_all_sig k) := fn_okE k [⟨_, _, mute_all_1_ok⟩] (hs [(200, [(2, ⟨[.tmp 4 (.int .i64), .tmp 8 (.int .i64)], [9, 10, 5, 11, 12, 13, 14, 15, 16, 17, 18], false⟩)])]) pm (by kernel_rfl) fun x => by kernel_rfl
def mute_Is_sig (k : Nat) : Sig := ⟨[T7], [.bool], fun x => mute_Is k x.1⟩
theorem mute_Is_ok (k : Nat) : FnOk pg 104 (mute_Is_sig k) := fn_okE k [⟨_, _, mute_all_ok⟩] (hs [(104, [(2, ⟨[.tmp 2 .bool, .tmp 3 (.int .i64)], [6, 7, 8, 9, 12, 13, 14, 15, 16, 17, 18, 19, 20, 4, 5, 21, 22, 23, 24, 25, 26, 27, 28, 29, 30, 31, 32, 33, 34, 35, 36, 37, 38, 39, 10, 11], false⟩)])]) pm (by kernel_rfl) fun x => by kernel_rfl
def session_open_sig (k : Nat) : Sig := ⟨[T1], L2, fun x => session_open k x.1⟩
theorem session_open_ok (k : Nat) : FnOk pg 133 (session_open_sig k) := fn_okE k [] nh pm (by kernel_rfl) fun x => by kernel_rfl
def session_reply_may_1_sig (k : Nat) : Sig := ⟨[.str], [.bool], fun x => session_reply_may_1 k x.1⟩
theorem session_reply_may_1_ok (k : Nat) : FnOk pg 151 (session_reply_may_1_sig k) := fn_okE k [] nh pm (by kernel_rfl) fun x => by kernel_rfl
def session_reply_may_sig (k : Nat) : Sig := ⟨[T5], [.bool], fun x => session_reply_may k x.1⟩
theorem session_reply_may_ok (k : Nat) : FnOk pg 115 (session_reply_may_sig k) := fn_okE k [⟨_, _, session_reply_may_1_ok⟩] (hs [(193, [(2, ⟨[.tmp 4 (.int .i64), .tmp 8 (.int .i64)], [9, 10, 5, 11, 12, 13, 14, 15, 16, 17, 18], false⟩)])]) pm (by kernel_rfl) fun x => by kernel_rfl
def session_client_right_sig (k : Nat) : Sig := ⟨L2, [.bool], fun x => session_client_right k x.1⟩
theorem session_client_right_ok (k : Nat) : FnOk pg 134 (session_client_right_sig k) := fn_okE k [⟨_, _, session_reply_may_ok⟩] nh pm (by kernel_rfl) fun x => by kernel_rfl
def session_Is_sig (k : Nat) : Sig := ⟨[(.sl T1)], [.bool], fun x => session_Is k x.1⟩
theorem session_Is_ok (k : Nat) : FnOk pg 105 (session_Is_sig k) := fn_okE k [⟨_, _, session_open_ok⟩, ⟨_, _, session_client_right_ok⟩] (hs [(105, [(2, ⟨[.tmp 2 .bool, .tmp 7 (.int .i64)], [8, 9, 10, 11, 4, 3, 12, 13, 14, 15, 16, 17, 18, 19, 20, 21, 22, 23, 24, 25, 26, 27, 28, 29, 30, 31], false⟩)])]) pm (by kernel_rfl) fun x => by kernel_rfl
def machine_Is_sig (k : Nat) : Sig := ⟨[T4], [.bool], fun x => machine_Is k x.1⟩
theorem machine_Is_ok (k : Nat) : FnOk pg 70 (machine_Is_sig k) := fn_okE k [⟨_, _, board_Is_ok⟩, ⟨_, _, mute_Is_ok⟩, ⟨_, _, session_Is_ok⟩] nh pm (by kernel_rfl) fun x => by kernel_rfl
def machine_own_sig (k : Nat) : Sig := ⟨[T5], [T5], fun x => machine_own k x.1⟩
theorem machine_own_ok (k : Nat) : FnOk pg 73 (machine_own_sig k) := fn_okE k [⟨_, _, slices_Clone_string_string_ok⟩] nh pm (by kernel_rfl) fun x => by kernel_rfl
def session_place_sig (k : Nat) : Sig := ⟨[(.sl T1), (.int .i64)], L1, fun x => session_place k x.1 x.2.1⟩
theorem session_place_ok (k : Nat) : FnOk pg 107 (session_place_sig k) := fn_okE k [] (hs [(135, [(2, ⟨[.tmp 4 (.int .i64), .tmp 8 (.int .i64)], [9, 10, 5, 11, 12, 13, 14, 15, 16, 17, 18], false⟩)])]) pm (by kernel_rfl) fun x => by kernel_rfl
def session_reply_own_sig (k : Nat) : Sig := ⟨[T5], [T5], fun x => session_reply_own k x.1⟩
theorem session_reply_own_ok (k : Nat) : FnOk pg 153 (session_reply_own_sig k) := fn_okE k [⟨_, _, slices_Clone_string_string_ok⟩] nh pm (by kernel_rfl) fun x => by kernel_rfl
def session_client_told_sig (k : Nat) : Sig := ⟨L2, [T1], fun x => session_client_told k x.1⟩
theorem session_client_told_ok (k : Nat) : FnOk pg 116 (session_client_told_sig k) := fn_okE k [⟨_, _, session_reply_own_ok⟩] nh pm (by kernel_rfl) fun x => by kernel_rfl
def session_Open_sig (k : Nat) : Sig := ⟨[(.sl T1), (.int .i64), (.int .i64)], [(.sl T1), (.int .i64), (.int .i64)], fun x => session_Open k x.1 x.2.1 x.2.2.1⟩
theorem session_Open_ok (k : Nat) : FnOk pg 74 (session_Open_sig k) := fn_okQ k [⟨_, _, session_Is_ok⟩, ⟨_, _, session_open_ok⟩, ⟨_, _, session_client_told_ok⟩, ⟨_, _, cmp_Compare_int_ok⟩, ⟨_, _, cmp_Or_int_ok⟩] (fun k => (.lend (session_place_ok k) POk.nil)) (hs [(74, [(4, ⟨[.row 9 162 T1], [48, 49, 50, 51, 52, 53, 54, 55, 56, 57, 58, 59, 60, 10, 61, 62, 63, 64, 65], true⟩), (4000001, ⟨[.tmp 45 .bool], [11, 12, 13, 14, 15, 16, 17, 18, 19, 20, 21, 22, 23, 24, 25, 26, 27, 28, 29, 30, 31, 32, 33, 34, 35, 36, 37, 38, 39, 40, 41, 42, 43, 44], true⟩), (4000005, ⟨[.tmp 10 (.int .i64)], [52, 53, 54, 55, 56, 57, 58, 59, 60], true⟩)]), (106, [(3, ⟨[.row 3 162 T1, .tmp 8 (.int .i64)], [9, 10, 11, 5, 12, 13, 14, 15, 16, 17, 18], true⟩)]), (108, [(2, ⟨[.tmp 9 (.int .i64), .box 2 T1], [10, 11, 12, 6, 13, 14, 15, 16, 17, 18, 19, 20, 21, 22, 23, 24, 25, 26, 27], false⟩)])]) pm (by kernel_rfl) fun x => by kernel_rfl
def session_Find_sig (k : Nat) : Sig := ⟨[(.sl T1), (.int .i64)], [T1, .bool], fun x => session_Find k x.1 x.2.1⟩
theorem session_Find_ok (k : Nat) : FnOk pg 110 (session_Find_sig k) := fn_okE k [⟨_, _, session_place_ok⟩, ⟨_, _, session_open_ok⟩, ⟨_, _, session_client_told_ok⟩] nh pm (by kernel_rfl) fun x => by kernel_rfl
def session_Check_sig (k : Nat) : Sig := ⟨[(.sl T1), (.int .i64), (.int .i64)], [T5, (.int .i64)], fun x => session_Check k x.1 x.2.1 x.2.2.1⟩
theorem session_Check_ok (k : Nat) : FnOk pg 75 (session_Check_sig k) := fn_okE k [⟨_, _, session_Find_ok⟩] nh pm (by kernel_rfl) fun x => by kernel_rfl
def machine_fault_sig (k : Nat) : Sig := ⟨L1, [T5], fun x => machine_fault k x.1⟩
theorem machine_fault_ok (k : Nat) : FnOk pg 76 (machine_fault_sig k) := fn_okE k [] nh pm (by kernel_rfl) fun x => by kernel_rfl
def session_Put_sig (k : Nat) : Sig := ⟨[(.sl T1), (.int .i64), (.int .i64), (.int .i64), T5], [(.sl T1), (.int .i64)], fun x => session_Put k x.1 x.2.1 x.2.2.1 x.2.2.2.1 x.2.2.2.2.1⟩
theorem session_Put_ok (k : Nat) : FnOk pg 78 (session_Put_sig k) := fn_okQ k [⟨_, _, session_Is_ok⟩, ⟨_, _, session_reply_may_ok⟩, ⟨_, _, session_Check_ok⟩, ⟨_, _, session_client_told_ok⟩, ⟨_, _, session_open_ok⟩] (fun k => (.lend (session_place_ok k) POk.nil)) (hs [(106, [(3, ⟨[.row 3 162 T1, .tmp 8 (.int .i64)], [9, 10, 11, 5, 12, 13, 14, 15, 16, 17, 18], true⟩)])]) pm (by kernel_rfl) fun x => by kernel_rfl
def alarm_timed_due_sig (k : Nat) : Sig := ⟨[T0, (.int .i64)], [.bool], fun x => alarm_timed_due k x.1 x.2.1⟩
theorem alarm_timed_due_ok (k : Nat) : FnOk pg 173 (alarm_timed_due_sig k) := fn_okE k [] nh pm (by kernel_rfl) fun x => by kernel_rfl
def life_is_sig (k : Nat) : Sig := ⟨L1, [.bool], fun x => life_is k x.1⟩
theorem life_is_ok (k : Nat) : FnOk pg 221 (life_is_sig k) := fn_okE k [] nh pm (by kernel_rfl) fun x => by kernel_rfl
def life_table_sig (k : Nat) : Sig := ⟨[], [(.cons (.int .i64) (.cons (.int .i64) (.cons (.int .i64) (.cons (.int .i64) (.cons (.int .i64) (.cons (.int .i64) (.cons (.int .i64) (.cons (.int .i64) (.cons (.int .i64) (.cons (.int .i64) (.cons (.int .i64) (.cons (.int .i64) (.cons (.int .i64) (.cons (.int .i64) (.cons (.int .i64) (.cons (.int .i64) (.cons (.int .i64) (.cons (.int .i64) (.cons (.int .i64) (.cons (.int .i64) (.cons (.int .i64) (.cons (.int .i64) (.cons (.int .i64) (.cons (.int .i64) (.cons (.int .i64) (.cons (.int .i64) (.cons (.int .i64) T8)))))))))))))))))))))))))))], fun x => life_table k⟩
theorem life_table_ok (k : Nat) : FnOk pg 224 (life_table_sig k) := fn_okE k [] nh pm (by kernel_rfl) fun x => by kernel_rfl
def life_Next_sig (k : Nat) : Sig := ⟨[(.int .i64), (.int .i64)], [(.int .i64), .bool], fun x => life_Next k x.1 x.2.1⟩
theorem life_Next_ok (k : Nat) : FnOk pg 206 (life_Next_sig k) := fn_okE k [⟨_, _, life_is_ok⟩, ⟨_, _, life_table_ok⟩] nh pm (by kernel_rfl) fun x => by kernel_rfl
def alarm_clock_turned_sig (k : Nat) : Sig := ⟨[T0, (.int .i64), (.int .i64), (.int .i64)], [T0], fun x => alarm_clock_turned k x.1 x.2.1 x.2.2.1 x.2.2.2.1⟩
theorem alarm_clock_turned_ok (k : Nat) : FnOk pg 201 (alarm_clock_turned_sig k) := fn_okE k [⟨_, _, life_Next_ok⟩] nh pm (by kernel_rfl) fun x => by kernel_rfl
def alarm_clock_woken_sig (k : Nat) : Sig := ⟨L0, [T0], fun x => alarm_clock_woken k x.1 x.2.1 x.2.2.1⟩
theorem alarm_clock_woken_ok (k : Nat) : FnOk pg 174 (alarm_clock_woken_sig k) := fn_okE k [⟨_, _, alarm_Wait_ok⟩, ⟨_, _, alarm_clock_turned_ok⟩] nh pm (by kernel_rfl) fun x => by kernel_rfl
def alarm_clock_escalated_sig (k : Nat) : Sig := ⟨L0, [T0], fun x => alarm_clock_escalated k x.1 x.2.1 x.2.2.1⟩
theorem alarm_clock_escalated_ok (k : Nat) : FnOk pg 175 (alarm_clock_escalated_sig k) := fn_okE k [⟨_, _, alarm_clock_turned_ok⟩] nh pm (by kernel_rfl) fun x => by kernel_rfl
def alarm_Pass_sig (k : Nat) : Sig := ⟨[T0, (.int .i64)], [T0], fun x => alarm_Pass k x.1 x.2.1⟩
theorem alarm_Pass_ok (k : Nat) : FnOk pg 139 (alarm_Pass_sig k) := fn_okE k [⟨_, _, alarm_Is_ok⟩, ⟨_, _, alarm_timed_due_ok⟩, ⟨_, _, alarm_clock_woken_ok⟩, ⟨_, _, alarm_clock_escalated_ok⟩] (hs [(139, [(4, ⟨[.box 5 T0], [13, 14, 15, 16, 17, 18, 19, 20, 21, 22, 23, 24, 25, 26, 27, 28, 29, 30, 31, 32, 33, 34, 35, 36], false⟩)])]) pm (by kernel_rfl) fun x => by kernel_rfl
def board_Pass_sig (k : Nat) : Sig := ⟨[T3, (.int .i64)], [T3, (.int .i64)], fun x => board_Pass k x.1 x.2.1⟩
theorem board_Pass_ok (k : Nat) : FnOk pg 111 (board_Pass_sig k) := fn_okE k [⟨_, _, board_Is_ok⟩, ⟨_, _, alarm_Pass_ok⟩] (hs [(111, [(7, ⟨[.tmp 35 (.int .i64), .mixB 6 [.dat (.int .i64), .dat (.int .i64), .row 108 T0]], [36, 37, 38, 8, 39, 40, 41, 42, 43, 44, 45, 46, 47], false⟩)])]) pm (by kernel_rfl) fun x => by kernel_rfl
def mute_span_has_sig (k : Nat) : Sig := ⟨[T2, (.int .i64), (.int .i64)], [.bool], fun x => mute_span_has k x.1 x.2.1 x.2.2.1⟩
theorem mute_span_has_ok (k : Nat) : FnOk pg 219 (mute_span_has_sig k) := fn_okE k [] nh pm (by kernel_rfl) fun x => by kernel_rfl
def mute_find_sig (k : Nat) : Sig := ⟨[T7, (.int .i64), (.int .i64)], L1, fun x => mute_find k x.1 x.2.1 x.2.2.1⟩
theorem mute_find_ok (k : Nat) : FnOk pg 189 (mute_find_sig k) := fn_okE k [⟨_, _, mute_span_has_ok⟩] (hs [(200, [(2, ⟨[.tmp 4 (.int .i64), .tmp 8 (.int .i64)], [9, 10, 5, 11, 12, 13, 14, 15, 16, 17, 18], false⟩)])]) pm (by kernel_rfl) fun x => by kernel_rfl
def mute_Has_sig (k : Nat) : Sig := ⟨[T7, (.int .i64), (.int .i64)], [.bool], fun x => mute_Has k x.1 x.2.1 x.2.2.1⟩
theorem mute_Has_ok (k : Nat) : FnOk pg 149 (mute_Has_sig k) := fn_okE k [⟨_, _, mute_find_ok⟩] nh pm (by kernel_rfl) fun x => by kernel_rfl
def show_Heard_sig (k : Nat) : Sig := ⟨[T3, T7], [(.sl T0), (.int .i64)], fun x => show_Heard k x.1 x.2.1⟩
theorem show_Heard_ok (k : Nat) : FnOk pg 113 (show_Heard_sig k) := fn_okQ k [⟨_, _, board_Is_ok⟩, ⟨_, _, mute_Is_ok⟩, ⟨_, _, rank_Compare_ok⟩, ⟨_, _, mute_Has_ok⟩] (fun k => (.seqs (slices_SortedFunc_api_Alarm_okS k) POk.nil)) (hs [(146, [(5, ⟨[.tmp 5 (.int .i64), .tmp 6 (.int .i64), .row 0 108 T0], [16, 17, 18, 19, 22, 23, 24, 25, 7, 26, 27, 28, 29, 30, 31, 32, 33, 34, 35, 20, 21], true⟩)]), (185, [(2, ⟨[.tmp 4 (.int .i64), .tmp 8 (.int .i64)], [9, 10, 5, 11, 12, 13, 14, 15, 16, 17, 18], false⟩)]), (216, [(1, ⟨[.tmp 7 (.int .i64)], [8, 9, 10, 4, 11, 12, 13, 14, 15], false⟩)])]) pm (by kernel_rfl) fun x => by kernel_rfl
def spot_place_text_sig (k : Nat) : Sig := ⟨[T6], [.str], fun x => spot_place_text k x.1⟩
theorem spot_place_text_okT (k : Nat) : FnOkT pg 220 (spot_place_text_sig k) := fn_okET k [⟨_, _, strconv_Itoa_okT⟩] nh pm (by kernel_rfl) fun x => by kernel_rfl
def spot_Print_sig (k : Nat) : Sig := ⟨[T6], [.str, (.int .i64)], fun x => spot_Print k x.1⟩
theorem spot_Print_okT (k : Nat) : FnOkT pg 190 (spot_Print_sig k) := fn_okET k [.p spot_place_may_ok, ⟨_, _, spot_place_text_okT⟩] nh pm (by kernel_rfl) fun x => by kernel_rfl
def life_Name_sig (k : Nat) : Sig := ⟨L1, [.str, .bool], fun x => life_Name k x.1⟩
theorem life_Name_ok (k : Nat) : FnOk pg 191 (life_Name_sig k) := fn_okE k [⟨_, _, life_is_ok⟩] nh pm (by kernel_rfl) fun x => by kernel_rfl
def show_Line_sig (k : Nat) : Sig := ⟨[T0], [.str, (.int .i64)], fun x => show_Line k x.1⟩
theorem show_Line_okT (k : Nat) : FnOkT pg 150 (show_Line_sig k) := fn_okET k [.p alarm_Is_ok, ⟨_, _, spot_Print_okT⟩, .p life_Name_ok, ⟨_, _, strconv_Itoa_okT⟩, .p strings_Join_ok] nh pm (by kernel_rfl) fun x => by kernel_rfl
def show_Lines_sig (k : Nat) : Sig := ⟨[T3, T7, (.int .i64)], [(.sl .str), (.int .i64)], fun x => show_Lines k x.1 x.2.1 x.2.2.1⟩
theorem show_Lines_okT (k : Nat) : FnOkT pg 114 (show_Lines_sig k) := fn_okET k [.p show_Heard_ok, ⟨_, _, show_Line_okT⟩] (hs [(114, [(8, ⟨[.tmp 6 (.sl .str), .tmp 7 (.int .i64), .row 10 9 .str, .tmp 35 (.int .i64)], [36, 37, 38, 12, 40, 41, 39, 42, 43, 13, 14, 44, 45, 46, 47, 48, 49, 50, 51], false⟩)])]) pm (by kernel_rfl) fun x => by kernel_rfl
def board_Get_sig (k : Nat) : Sig := ⟨[T3, T6], [T0, .bool], fun x => board_Get k x.1 x.2.1⟩
theorem board_Get_ok (k : Nat) : FnOk pg 176 (board_Get_sig k) := fn_okE k [] (hs [(185, [(2, ⟨[.tmp 4 (.int .i64), .tmp 8 (.int .i64)], [9, 10, 5, 11, 12, 13, 14, 15, 16, 17, 18], false⟩)])]) pm (by kernel_rfl) fun x => by kernel_rfl
def alarm_Raise_sig (k : Nat) : Sig := ⟨L0, [T0, (.int .i64)], fun x => alarm_Raise k x.1 x.2.1 x.2.2.1⟩
theorem alarm_Raise_ok (k : Nat) : FnOk pg 178 (alarm_Raise_sig k) := fn_okE k [⟨_, _, alarm_Is_ok⟩, ⟨_, _, alarm_Wait_ok⟩, ⟨_, _, alarm_time_ok⟩] nh pm (by kernel_rfl) fun x => by kernel_rfl
def alarm_Open_sig (k : Nat) : Sig := ⟨[T6, (.int .i64), (.int .i64)], [T0, (.int .i64)], fun x => alarm_Open k x.1 x.2.1 x.2.2.1⟩
theorem alarm_Open_ok (k : Nat) : FnOk pg 179 (alarm_Open_sig k) := fn_okE k [⟨_, _, spot_Is_ok⟩, ⟨_, _, alarm_Wait_ok⟩, ⟨_, _, alarm_time_ok⟩] nh pm (by kernel_rfl) fun x => by kernel_rfl
def alarm_clock_acked_sig (k : Nat) : Sig := ⟨L0, [T0], fun x => alarm_clock_acked k x.1 x.2.1 x.2.2.1⟩
theorem alarm_clock_acked_ok (k : Nat) : FnOk pg 204 (alarm_clock_acked_sig k) := fn_okE k [⟨_, _, alarm_clock_turned_ok⟩] nh pm (by kernel_rfl) fun x => by kernel_rfl
def alarm_clock_silenced_sig (k : Nat) : Sig := ⟨L0, [T0], fun x => alarm_clock_silenced k x.1 x.2.1 x.2.2.1⟩
theorem alarm_clock_silenced_ok (k : Nat) : FnOk pg 205 (alarm_clock_silenced_sig k) := fn_okE k [⟨_, _, alarm_clock_turned_ok⟩] nh pm (by kernel_rfl) fun x => by kernel_rfl
def alarm_Do_sig (k : Nat) : Sig := ⟨[T0, (.int .i64), (.int .i64), (.int .i64)], [T0, (.int .i64)], fun x => alarm_Do k x.1 x.2.1 x.2.2.1 x.2.2.2.1⟩
theorem alarm_Do_ok (k : Nat) : FnOk pg 180 (alarm_Do_sig k) := fn_okE k [⟨_, _, alarm_clock_escalated_ok⟩, ⟨_, _, alarm_clock_acked_ok⟩, ⟨_, _, alarm_clock_silenced_ok⟩, ⟨_, _, alarm_clock_woken_ok⟩, ⟨_, _, alarm_Is_ok⟩, ⟨_, _, alarm_time_ok⟩, ⟨_, _, life_Next_ok⟩] nh pm (by kernel_rfl) fun x => by kernel_rfl
def board_alarms_find_sig (k : Nat) : Sig := ⟨[(.sl T0), T6], [(.int .i64), .bool], fun x => board_alarms_find k x.1 x.2.1⟩
theorem board_alarms_find_ok (k : Nat) : FnOk pg 207 (board_alarms_find_sig k) := fn_okE k [⟨_, _, spot_Less_ok⟩] (hs [(207, [(2, ⟨[.tmp 6 (.int .i64)], [7, 8, 9, 10, 11, 12, 13, 14, 15, 16, 17, 18, 19, 20, 21], false⟩)])]) pm (by kernel_rfl) fun x => by kernel_rfl
def slices_Concat_board_alarms_api_Alarm_sig (k : Nat) : Sig := ⟨[(.sl (.sl T0))], [(.sl T0)], fun x => slices_Concat_board_alarms_api_Alarm k x.1⟩
theorem slices_Concat_board_alarms_api_Alarm_ok (k : Nat) : FnOk pg 225 (slices_Concat_board_alarms_api_Alarm_sig k) := fn_okE k [] (hs [(225, [(3, ⟨[.tmp 3 (.int .i64), .tmp 11 (.int .i64)], [12, 13, 14, 5, 15, 16, 17, 18, 19, 20, 21, 22], false⟩), (11, ⟨[.row 6 108 T0, .tmp 27 (.int .i64)], [28, 29, 30, 8, 31, 32, 33, 34], false⟩)])]) pm (by kernel_rfl) fun x => by kernel_rfl
def board_alarms_with_sig (k : Nat) : Sig := ⟨[(.sl T0), (.int .i64), (.int .i64), (.sl T0)], [(.sl T0)], fun x => board_alarms_with k x.1 x.2.1 x.2.2.1 x.2.2.2.1⟩
theorem board_alarms_with_ok (k : Nat) : FnOk pg 209 (board_alarms_with_sig k) := fn_okE k [⟨_, _, slices_Concat_board_alarms_api_Alarm_ok⟩] nh pm (by kernel_rfl) fun x => by kernel_rfl
def board_sheet_now_sig (k : Nat) : Sig := ⟨[(.cons (.sl T0) T3), (.sl T0)], [T3], fun x => board_sheet_now k x.1 x.2.1⟩
theorem board_sheet_now_ok (k : Nat) : FnOk pg 208 (board_sheet_now_sig k) := fn_okE k [] nh pm (by kernel_rfl) fun x => by kernel_rfl
def board_Drop_sig (k : Nat) : Sig := ⟨[T3, T6], [T3, (.int .i64)], fun x => board_Drop k x.1 x.2.1⟩
theorem board_Drop_ok (k : Nat) : FnOk pg 181 (board_Drop_sig k) := fn_okE k [⟨_, _, board_Is_ok⟩, ⟨_, _, board_open_ok⟩, ⟨_, _, board_alarms_find_ok⟩, ⟨_, _, board_alarms_with_ok⟩, ⟨_, _, board_sheet_now_ok⟩] nh pm (by kernel_rfl) fun x => by kernel_rfl
def slices_Concat_api_Window_api_Window_sig (k : Nat) : Sig := ⟨[(.sl T7)], [T7], fun x => slices_Concat_api_Window_api_Window k x.1⟩
theorem slices_Concat_api_Window_api_Window_ok (k : Nat) : FnOk pg 212 (slices_Concat_api_Window_api_Window_sig k) := fn_okE k [] (hs [(212, [(3, ⟨[.tmp 3 (.int .i64), .tmp 11 (.int .i64)], [12, 13, 14, 5, 15, 16, 17, 18, 19, 20, 21, 22], false⟩), (11, ⟨[.row 6 160 T2, .tmp 27 (.int .i64)], [28, 29, 30, 8, 31, 32, 33, 34], false⟩)])]) pm (by kernel_rfl) fun x => by kernel_rfl
def mute_joined_sig (k : Nat) : Sig := ⟨[T7], [T7], fun x => mute_joined k x.1⟩
theorem mute_joined_ok (k : Nat) : FnOk pg 211 (mute_joined_sig k) := fn_okQ k [⟨_, _, mute_joined_1_ok⟩] (fun k => (.seqs (slices_SortedFunc_api_Window_okS k) POk.nil)) (hs [(211, [(4, ⟨[.row 3 160 T2, .tmp 12 (.int .i64)], [13, 14, 15, 5, 16, 17, 6, 18, 19, 20, 21, 22, 23, 24, 25, 26, 27, 28, 29, 30, 31, 32, 33, 34, 35, 36, 37, 38, 39, 40, 41, 42, 43, 44, 45, 46, 47, 48, 49, 50, 51, 52, 53, 54, 55, 56, 57, 58, 59, 60], false⟩)]), (239, [(1, ⟨[.tmp 7 (.int .i64)], [8, 9, 10, 4, 11, 12, 13, 14, 15], false⟩)])]) pm (by kernel_rfl) fun x => by kernel_rfl
def mute_told_sig (k : Nat) : Sig := ⟨[T7], [T7, (.int .i64)], fun x => mute_told k x.1⟩
theorem mute_told_ok (k : Nat) : FnOk pg 210 (mute_told_sig k) := fn_okE k [] nh pm (by kernel_rfl) fun x => by kernel_rfl
def mute_Add_sig (k : Nat) : Sig := ⟨[T7, T7], [T7, (.int .i64)], fun x => mute_Add k x.1 x.2.1⟩
theorem mute_Add_ok (k : Nat) : FnOk pg 183 (mute_Add_sig k) := fn_okE k [⟨_, _, mute_Is_ok⟩, ⟨_, _, mute_all_ok⟩, ⟨_, _, slices_Concat_api_Window_api_Window_ok⟩, ⟨_, _, mute_joined_ok⟩, ⟨_, _, mute_told_ok⟩] nh pm (by kernel_rfl) fun x => by kernel_rfl
def mute_without_sig (k : Nat) : Sig := ⟨[T2, T2], [T7], fun x => mute_without k x.1 x.2.1⟩
theorem mute_without_ok (k : Nat) : FnOk pg 213 (mute_without_sig k) := fn_okE k [] nh pm (by kernel_rfl) fun x => by kernel_rfl
def mute_Cut_sig (k : Nat) : Sig := ⟨[T7, T7], [T7, (.int .i64)], fun x => mute_Cut k x.1 x.2.1⟩
theorem mute_Cut_ok (k : Nat) : FnOk pg 184 (mute_Cut_sig k) := fn_okE k [⟨_, _, mute_Is_ok⟩, ⟨_, _, mute_all_ok⟩, ⟨_, _, slices_Clone_api_Window_api_Window_ok⟩, ⟨_, _, mute_without_ok⟩, ⟨_, _, mute_told_ok⟩] (hs [(184, [(5, ⟨[.tmp 6 T7, .tmp 24 (.int .i64)], [25, 26, 27, 8, 9, 28, 29, 30, 31, 32, 33, 11, 34, 35, 36, 37, 38, 39, 40, 41], false⟩), (9, ⟨[.row 9 160 T2, .tmp 30 (.int .i64)], [31, 32, 33, 11, 34, 35, 36, 37, 38, 39], false⟩)])]) pm (by kernel_rfl) fun x => by kernel_rfl
def board_Put_sig (k : Nat) : Sig := ⟨[T3, T0], [T3, (.int .i64)], fun x => board_Put k x.1 x.2.1⟩
theorem board_Put_ok (k : Nat) : FnOk pg 203 (board_Put_sig k) := fn_okE k [⟨_, _, board_Is_ok⟩, ⟨_, _, alarm_Is_ok⟩, ⟨_, _, board_open_ok⟩, ⟨_, _, board_alarms_find_ok⟩, ⟨_, _, board_alarms_with_ok⟩, ⟨_, _, board_sheet_now_ok⟩] nh pm (by kernel_rfl) fun x => by kernel_rfl
def machine_Apply_sig (k : Nat) : Sig := ⟨[T4, T8], [T4, T5, (.int .i64)], fun x => machine_Apply k x.1 x.2.1⟩
theorem machine_Apply_okT (k : Nat) : FnOkT pg 37 (machine_Apply_sig k) := fn_okET k [.p machine_Is_ok, .p machine_May_ok, .p slices_Clone_api_Alarm_api_Alarm_ok, .p slices_Clone_api_Window_api_Window_ok, .p machine_own_ok, .p session_Open_ok, .p session_Check_ok, .p machine_fault_ok, .p session_Put_ok, .p board_Pass_ok, .p show_Heard_ok, ⟨_, _, show_Lines_okT⟩, .p board_Get_ok, .p alarm_Raise_ok, .p alarm_Open_ok, .p alarm_Do_ok, .p board_Drop_ok, .p mute_Add_ok, .p mute_Cut_ok, .p board_Put_ok] (hs [(37, [(10, ⟨[.tmp 76 (.int .i64), .mixB 7 [.dat (.int .i64), .dat (.int .i64), .dat (.int .i64), .dat (.sl T0), .dat T7, .row 162 T1, .dat (.int .i64), .dat (.int .i64), .dat (.int .i64), .dat (.int .i64), .dat (.int .i64), .dat (.int .i64), .dat (.int .i64), .dat (.int .i64)]], [77, 78, 79, 9, 80, 81, 82, 83, 84, 85, 86, 87, 88, 89, 90, 91, 92, 93, 94, 95, 96, 97, 98], false⟩)]), (77, [(4000005, ⟨[.tmp 5 (.int .i64), .box 0 (.cons (.int .i64) (.cons (.int .i64) (.cons (.int .i64) (.cons (.sl T0) (.cons T7 (.cons (.sl T1) T8))))))], [42, 43, 44, 45, 46, 47, 48, 49, 50], true⟩)])]) pm (by kernel_rfl) fun x => by kernel_rfl
def machine_Run_sig (k : Nat) : Sig := ⟨[T4, (.sl T8)], [T4, (.sl T5), (.int .i64)], fun x => machine_Run k x.1 x.2.1⟩
theorem machine_Run_okT (k : Nat) : FnOkT pg 14 (machine_Run_sig k) := fn_okET k [⟨_, _, machine_Apply_okT⟩] (hs [(14, [(3, ⟨[.tmp 5 (.sl T5), .tmp 6 (.int .i64), .row 7 104 T5, .tmp 15 (.int .i64), .box 4 T4, .box 2 T4], [16, 17, 18, 9, 20, 21, 22, 19, 23, 24, 25, 10, 11, 12, 26, 27, 28, 29, 30, 31, 32, 33, 34, 35], false⟩)])]) pm (by kernel_rfl) fun x => by kernel_rfl
end
end Go.Proofs.YtfhphiedbdinmaaGreatDoor.A
