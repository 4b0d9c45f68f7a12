import Derived.Test.YtfhphiedbdinmaaGreatDoorAHPic
set_option linter.all false
namespace Go.Proofs.YtfhphiedbdinmaaGreatDoor.A
open Go Ab
set_option maxRecDepth 100000
noncomputable section
private noncomputable abbrev pg : Program := Go.Proofs.Tryz.prog
private theorem pm : pg.follows .mixedOrders = true := by kernel_rfl
private noncomputable abbrev T2 : Ty := (.cons (.int .i64) (.cons .str (.cons .str .nil)))
private noncomputable abbrev T0 : Ty := (.cons (.int .i64) (.cons (.int .i64) (.cons (.sl T2) .nil)))
private noncomputable abbrev T1 : Ty := (.cons (.int .i64) (.cons .str (.cons .str (.cons (.int .i64) (.cons .str (.cons .str (.cons (.int .i64) (.cons .str (.cons .str (.cons (.int .i64) (.cons .str (.cons .str T0))))))))))))
private noncomputable abbrev T3 : Ty := (.cons (.int .i64) (.cons .str (.cons .str T2)))
private noncomputable abbrev T4 : Ty := (.sl .str)
private noncomputable abbrev L0 : List Ty := [T0, (.int .i64)]
private noncomputable abbrev L1 : List Ty := [T2, (.int .i64)]
private noncomputable abbrev L2 : List Ty := [T3, (.int .i64)]
def file_New_sig (k : Nat) : Sig := ⟨[(.int .i64)], L1, fun x => file_New k x.1⟩
theorem file_New_ok (k : Nat) : FnOk pg 47 (file_New_sig k) := fn_okE k [] nh pm (by kernel_rfl) fun x => by kernel_rfl
def slots_New_sig (k : Nat) : Sig := ⟨[(.int .i64)], L2, fun x => slots_New k x.1⟩
theorem slots_New_ok (k : Nat) : FnOk pg 18 (slots_New_sig k) := fn_okE k [⟨_, _, file_New_ok⟩] nh pm (by kernel_rfl) fun x => by kernel_rfl
def snap_New_sig (k : Nat) : Sig := ⟨[(.int .i64)], L2, fun x => snap_New k x.1⟩
theorem snap_New_ok (k : Nat) : FnOk pg 19 (snap_New_sig k) := fn_okE k [⟨_, _, file_New_ok⟩] nh pm (by kernel_rfl) fun x => by kernel_rfl
def file_bytes_all_sig (k : Nat) : Sig := ⟨[T2], [.str], fun x => file_bytes_all k x.1⟩
theorem file_bytes_all_ok (k : Nat) : FnOk pg 97 (file_bytes_all_sig k) := fn_okE k [] nh pm (by kernel_rfl) fun x => by kernel_rfl
def file_bytes_may_sig (k : Nat) : Sig := ⟨[T2], [.bool], fun x => file_bytes_may k x.1⟩
theorem file_bytes_may_ok (k : Nat) : FnOk pg 95 (file_bytes_may_sig k) := fn_okE k [⟨_, _, file_bytes_all_ok⟩] nh pm (by kernel_rfl) fun x => by kernel_rfl
def file_Is_sig (k : Nat) : Sig := ⟨[T2], [.bool], fun x => file_Is k x.1⟩
theorem file_Is_ok (k : Nat) : FnOk pg 90 (file_Is_sig k) := fn_okE k [⟨_, _, file_bytes_may_ok⟩] nh pm (by kernel_rfl) fun x => by kernel_rfl
def segment_Is_sig (k : Nat) : Sig := ⟨[T0], [.bool], fun x => segment_Is k x.1⟩
theorem segment_Is_ok (k : Nat) : FnOk pg 48 (segment_Is_sig k) := fn_okE k [⟨_, _, file_Is_ok⟩] (hs [(48, [(4, ⟨[.tmp 2 .bool, .tmp 38 (.int .i64)], [39, 40, 41, 42, 4, 3, 43, 44, 45, 46, 47, 48, 49, 50, 51, 52, 53, 54, 55, 56, 57, 58, 59, 60, 61, 62, 63, 64, 65, 66], false⟩)])]) pm (by kernel_rfl) fun x => by kernel_rfl
def segment_New_sig (k : Nat) : Sig := ⟨[(.int .i64), (.int .i64)], L0, fun x => segment_New k x.1 x.2.1⟩
theorem segment_New_ok (k : Nat) : FnOk pg 20 (segment_New_sig k) := fn_okE k [⟨_, _, segment_Is_ok⟩] nh pm (by kernel_rfl) fun x => by kernel_rfl
def keep_New_sig (k : Nat) : Sig := ⟨[(.int .i64)], [T1, (.int .i64)], fun x => keep_New k x.1⟩
theorem keep_New_ok (k : Nat) : FnOk pg 6 (keep_New_sig k) := fn_okE k [⟨_, _, slots_New_ok⟩, ⟨_, _, snap_New_ok⟩, ⟨_, _, segment_New_ok⟩] (hs [(6, [(5, ⟨[.tmp 3 (.int .i64), .tmp 32 (.int .i64), .box 2 T1], [33, 34, 35, 11, 36, 37, 38, 39, 40], false⟩)])]) pm (by kernel_rfl) fun x => by kernel_rfl
def file_right_sig (k : Nat) : Sig := ⟨[T2], L1, fun x => file_right k x.1⟩
theorem file_right_ok (k : Nat) : FnOk pg 93 (file_right_sig k) := fn_okE k [⟨_, _, file_bytes_may_ok⟩] nh pm (by kernel_rfl) fun x => by kernel_rfl
def file_bytes_kept_sig (k : Nat) : Sig := ⟨L1, [T2], fun x => file_bytes_kept k x.1 x.2.1⟩
theorem file_bytes_kept_ok (k : Nat) : FnOk pg 96 (file_bytes_kept_sig k) := fn_okE k [⟨_, _, file_bytes_all_ok⟩] nh pm (by kernel_rfl) fun x => by kernel_rfl
def file_Sync_sig (k : Nat) : Sig := ⟨[T2], L1, fun x => file_Sync k x.1⟩
theorem file_Sync_ok (k : Nat) : FnOk pg 54 (file_Sync_sig k) := fn_okE k [⟨_, _, file_right_ok⟩, ⟨_, _, file_bytes_all_ok⟩, ⟨_, _, file_bytes_kept_ok⟩] nh pm (by kernel_rfl) fun x => by kernel_rfl
def segment_Sync_sig (k : Nat) : Sig := ⟨[T0], L0, fun x => segment_Sync k x.1⟩
theorem segment_Sync_ok (k : Nat) : FnOk pg 26 (segment_Sync_sig k) := fn_okE k [⟨_, _, file_Sync_ok⟩, ⟨_, _, segment_Is_ok⟩] nh pm (by kernel_rfl) fun x => by kernel_rfl
def file_Read_sig (k : Nat) : Sig := ⟨[T2], [.str], fun x => file_Read k x.1⟩
theorem file_Read_ok (k : Nat) : FnOk pg 84 (file_Read_sig k) := fn_okE k [⟨_, _, file_bytes_all_ok⟩] nh pm (by kernel_rfl) fun x => by kernel_rfl
def slots_read_sig (k : Nat) : Sig := ⟨[.str], [(.cons (.int .i64) (.cons .str .nil)), .bool], fun x => slots_read k x.1⟩
theorem slots_read_ok (k : Nat) : FnOk pg 129 (slots_read_sig k) := fn_okE k [⟨_, _, frame_Get_ok⟩, ⟨_, _, wire_GetInt_ok⟩] nh pm (by kernel_rfl) fun x => by kernel_rfl
def slots_better_sig (k : Nat) : Sig := ⟨[(.cons .str (.cons .str .nil))], [(.cons (.int .i64) (.cons .str (.cons (.int .i64) .nil)))], fun x => slots_better k x.1⟩
theorem slots_better_ok (k : Nat) : FnOk pg 101 (slots_better_sig k) := fn_okE k [⟨_, _, slots_read_ok⟩] (hs [(101, [(3, ⟨[.tmp 10 (.int .i64), .box 3 (.cons (.int .i64) (.cons .str (.cons (.int .i64) .nil)))], [11, 12, 13, 4, 5, 15, 16, 14, 17, 18, 6, 7, 19, 20, 21, 22, 23, 24, 25, 26, 27, 28, 29, 30, 31], false⟩)])]) pm (by kernel_rfl) fun x => by kernel_rfl
def slots_open_sig (k : Nat) : Sig := ⟨[T3], [(.cons (.int .i64) (.cons .str (.cons (.int .i64) .nil))), (.int .i64)], fun x => slots_open k x.1⟩
theorem slots_open_ok (k : Nat) : FnOk pg 58 (slots_open_sig k) := fn_okE k [⟨_, _, file_Is_ok⟩, ⟨_, _, file_Read_ok⟩, ⟨_, _, slots_better_ok⟩] nh pm (by kernel_rfl) fun x => by kernel_rfl
def slots_Load_sig (k : Nat) : Sig := ⟨[T3], [.str, (.int .i64), (.int .i64)], fun x => slots_Load k x.1⟩
theorem slots_Load_ok (k : Nat) : FnOk pg 32 (slots_Load_sig k) := fn_okE k [⟨_, _, slots_open_ok⟩] nh pm (by kernel_rfl) fun x => by kernel_rfl
def snap_is_sig (k : Nat) : Sig := ⟨[T3], [.bool], fun x => snap_is k x.1⟩
theorem snap_is_ok (k : Nat) : FnOk pg 60 (snap_is_sig k) := fn_okE k [⟨_, _, file_Is_ok⟩] nh pm (by kernel_rfl) fun x => by kernel_rfl
def frame_GetRow_sig (k : Nat) : Sig := ⟨[.str], [(.int .i64), T4, .str, (.int .i64)], fun x => frame_GetRow k x.1⟩
theorem frame_GetRow_ok (k : Nat) : FnOk pg 98 (frame_GetRow_sig k) := fn_okE k [⟨_, _, frame_Get_ok⟩, ⟨_, _, wire_GetInt_ok⟩, ⟨_, _, wire_GetText_ok⟩] (hs [(98, [(10, ⟨[.row 14 9 .str, .tmp 42 (.int .i64), .box 1000011 (.int .i64), .box 2000011 .str], [43, 44, 45, 46, 47, 48, 49], false⟩)])]) pm (by kernel_rfl) fun x => by kernel_rfl
def snap_Load_sig (k : Nat) : Sig := ⟨[T3], [(.int .i64), T4, .bool, (.int .i64)], fun x => snap_Load k x.1⟩
theorem snap_Load_ok (k : Nat) : FnOk pg 57 (snap_Load_sig k) := fn_okE k [⟨_, _, snap_is_ok⟩, ⟨_, _, file_Read_ok⟩, ⟨_, _, frame_GetRow_ok⟩, ⟨_, _, wire_GetInt_ok⟩, ⟨_, _, slices_Clone_string_string_ok⟩] nh pm (by kernel_rfl) fun x => by kernel_rfl
def keep_parts_may_sig (k : Nat) : Sig := ⟨[T1], [.bool], fun x => keep_parts_may k x.1⟩
theorem keep_parts_may_ok (k : Nat) : FnOk pg 27 (keep_parts_may_sig k) := fn_okE k [⟨_, _, slots_Load_ok⟩, ⟨_, _, snap_Load_ok⟩, ⟨_, _, segment_Is_ok⟩] nh pm (by kernel_rfl) fun x => by kernel_rfl
def keep_parts_base_sig (k : Nat) : Sig := ⟨[T1], [(.int .i64), T4], fun x => keep_parts_base k x.1⟩
theorem keep_parts_base_ok (k : Nat) : FnOk pg 33 (keep_parts_base_sig k) := fn_okE k [⟨_, _, snap_Load_ok⟩] nh pm (by kernel_rfl) fun x => by kernel_rfl
def segment_scan_sig (k : Nat) : Sig := ⟨[T0], [(.cons T4 (.cons (.int .i64) (.cons (.int .i64) (.cons .bool .nil))))], fun x => segment_scan k x.1⟩
theorem segment_scan_ok (k : Nat) : FnOk pg 50 (segment_scan_sig k) := fn_okE k [⟨_, _, file_Read_ok⟩, ⟨_, _, record_Scan_ok⟩] (hs [(50, [(3, ⟨[.tmp 13 (.int .i64), .mixB 3 [.row 9 .str, .dat (.int .i64), .dat (.int .i64), .dat .bool]], [14, 15, 16, 17, 5, 4, 18, 19, 6, 21, 22, 23, 24, 25, 26, 27, 28, 20, 29, 30, 7, 8, 31, 32, 33, 34, 35, 36, 37, 38, 39, 40, 41, 42, 43, 44, 45], false⟩)])]) pm (by kernel_rfl) fun x => by kernel_rfl
def segment_Read_sig (k : Nat) : Sig := ⟨[T0], [T4, (.int .i64)], fun x => segment_Read k x.1⟩
theorem segment_Read_ok (k : Nat) : FnOk pg 34 (segment_Read_sig k) := fn_okE k [⟨_, _, segment_Is_ok⟩, ⟨_, _, segment_scan_ok⟩] nh pm (by kernel_rfl) fun x => by kernel_rfl
def keep_parts_end_sig (k : Nat) : Sig := ⟨[T1], [(.int .i64)], fun x => keep_parts_end k x.1⟩
theorem keep_parts_end_ok (k : Nat) : FnOk pg 38 (keep_parts_end_sig k) := fn_okE k [⟨_, _, segment_Read_ok⟩] nh pm (by kernel_rfl) fun x => by kernel_rfl
def record_Put_sig (k : Nat) : Sig := ⟨[(.int .i64), .str], [.str, (.int .i64)], fun x => record_Put k x.1 x.2.1⟩
theorem record_Put_ok (k : Nat) : FnOk pg 52 (record_Put_sig k) := fn_okE k [⟨_, _, wire_Int_ok⟩, ⟨_, _, frame_Put_ok⟩] nh pm (by kernel_rfl) fun x => by kernel_rfl
def file_Add_sig (k : Nat) : Sig := ⟨[T2, T4], L1, fun x => file_Add k x.1 x.2.1⟩
theorem file_Add_ok (k : Nat) : FnOk pg 53 (file_Add_sig k) := fn_okE k [⟨_, _, file_right_ok⟩, ⟨_, _, strings_Join_ok⟩, ⟨_, _, file_bytes_may_ok⟩] nh pm (by kernel_rfl) fun x => by kernel_rfl
def segment_Add_sig (k : Nat) : Sig := ⟨[T0, T4], L0, fun x => segment_Add k x.1 x.2.1⟩
theorem segment_Add_ok (k : Nat) : FnOk pg 23 (segment_Add_sig k) := fn_okE k [⟨_, _, segment_Is_ok⟩, ⟨_, _, segment_scan_ok⟩, ⟨_, _, record_Put_ok⟩, ⟨_, _, file_Add_ok⟩, ⟨_, _, file_Sync_ok⟩] (hs [(23, [(8, ⟨[.tmp 5 (.int .i64), .tmp 28 (.int .i64), .mixB 4 [.dat (.int .i64), .dat (.int .i64), .row 74 T2], .mixB 2 [.dat (.int .i64), .dat (.int .i64), .row 27 T2]], [29, 30, 31, 32, 7, 8, 34, 35, 36, 37, 38, 39, 40, 41, 42, 43, 33, 44, 45, 9, 10, 46, 47, 48, 49, 50, 51, 52, 53, 54, 55, 56, 57, 58, 59, 60, 61, 62, 11, 64, 65, 66, 67, 68, 69, 63, 70, 71, 12, 13, 72, 73, 74, 75, 76, 77, 78, 79, 80, 81, 83, 84, 85, 86, 87, 82, 88, 89, 90, 91, 92, 93, 94, 95, 96, 97, 98, 99, 100], true⟩)])]) pm (by kernel_rfl) fun x => by kernel_rfl
def keep_Push_sig (k : Nat) : Sig := ⟨[T1, T4, (.int .i64)], [T1, .bool, (.int .i64)], fun x => keep_Push k x.1 x.2.1 x.2.2.1⟩
theorem keep_Push_ok (k : Nat) : FnOk pg 8 (keep_Push_sig k) := fn_okE k [⟨_, _, segment_Sync_ok⟩, ⟨_, _, keep_parts_may_ok⟩, ⟨_, _, keep_parts_base_ok⟩, ⟨_, _, keep_parts_end_ok⟩, ⟨_, _, slices_Clone_api_File_api_File_ok⟩, ⟨_, _, segment_Add_ok⟩] (hs [(24, [(4, ⟨[.tmp 7 .bool, .tmp 8 (.int .i64), .tmp 26 (.int .i64), .box 6 T1, .box 0 T1], [27, 28, 29, 10, 30, 31, 11, 32, 33, 34, 35, 36], false⟩)])]) pm (by kernel_rfl) fun x => by kernel_rfl
def file_Crash_sig (k : Nat) : Sig := ⟨L1, L1, fun x => file_Crash k x.1 x.2.1⟩
theorem file_Crash_ok (k : Nat) : FnOk pg 59 (file_Crash_sig k) := fn_okE k [⟨_, _, file_right_ok⟩, ⟨_, _, file_bytes_kept_ok⟩] nh pm (by kernel_rfl) fun x => by kernel_rfl
def slots_Crash_sig (k : Nat) : Sig := ⟨L2, L2, fun x => slots_Crash k x.1 x.2.1⟩
theorem slots_Crash_ok (k : Nat) : FnOk pg 28 (slots_Crash_sig k) := fn_okE k [⟨_, _, slots_open_ok⟩, ⟨_, _, file_Crash_ok⟩] nh pm (by kernel_rfl) fun x => by kernel_rfl
def snap_Crash_sig (k : Nat) : Sig := ⟨L2, L2, fun x => snap_Crash k x.1 x.2.1⟩
theorem snap_Crash_ok (k : Nat) : FnOk pg 29 (snap_Crash_sig k) := fn_okE k [⟨_, _, snap_is_ok⟩, ⟨_, _, file_Crash_ok⟩] nh pm (by kernel_rfl) fun x => by kernel_rfl
def segment_Crash_sig (k : Nat) : Sig := ⟨L0, L0, fun x => segment_Crash k x.1 x.2.1⟩
theorem segment_Crash_ok (k : Nat) : FnOk pg 30 (segment_Crash_sig k) := fn_okE k [⟨_, _, segment_Is_ok⟩, ⟨_, _, file_Crash_ok⟩] nh pm (by kernel_rfl) fun x => by kernel_rfl
def file_Cut_sig (k : Nat) : Sig := ⟨L1, L1, fun x => file_Cut k x.1 x.2.1⟩
theorem file_Cut_ok (k : Nat) : FnOk pg 63 (file_Cut_sig k) := fn_okE k [⟨_, _, file_right_ok⟩, ⟨_, _, file_bytes_all_ok⟩, ⟨_, _, file_bytes_kept_ok⟩] nh pm (by kernel_rfl) fun x => by kernel_rfl
def segment_Mend_sig (k : Nat) : Sig := ⟨[T0], L0, fun x => segment_Mend k x.1⟩
theorem segment_Mend_ok (k : Nat) : FnOk pg 31 (segment_Mend_sig k) := fn_okE k [⟨_, _, segment_Is_ok⟩, ⟨_, _, segment_scan_ok⟩, ⟨_, _, file_Cut_ok⟩] nh pm (by kernel_rfl) fun x => by kernel_rfl
def keep_Crash_sig (k : Nat) : Sig := ⟨[T1, (.int .i64)], [T1, (.int .i64)], fun x => keep_Crash k x.1 x.2.1⟩
theorem keep_Crash_ok (k : Nat) : FnOk pg 9 (keep_Crash_sig k) := fn_okE k [⟨_, _, keep_parts_may_ok⟩, ⟨_, _, slots_Crash_ok⟩, ⟨_, _, snap_Crash_ok⟩, ⟨_, _, segment_Crash_ok⟩, ⟨_, _, segment_Mend_ok⟩] nh pm (by kernel_rfl) fun x => by kernel_rfl
def keep_Open_sig (k : Nat) : Sig := ⟨[T1], [.str, (.int .i64), T4, T4, (.int .i64)], fun x => keep_Open k x.1⟩
theorem keep_Open_ok (k : Nat) : FnOk pg 10 (keep_Open_sig k) := fn_okE k [⟨_, _, slots_Load_ok⟩, ⟨_, _, keep_parts_base_ok⟩, ⟨_, _, segment_Read_ok⟩, ⟨_, _, keep_parts_may_ok⟩, ⟨_, _, keep_parts_end_ok⟩, ⟨_, _, slices_Clone_api_File_api_File_ok⟩] nh pm (by kernel_rfl) fun x => by kernel_rfl
def snap_Save_2_sig (k : Nat) : Sig := ⟨[T3], L2, fun x => snap_Save_2 k x.1⟩
theorem snap_Save_2_ok (k : Nat) : FnOk pg 81 (snap_Save_2_sig k) := fn_okE k [⟨_, _, file_Sync_ok⟩] nh pm (by kernel_rfl) fun x => by kernel_rfl
def snap_Save_sig (k : Nat) : Sig := ⟨[T3, (.int .i64), T4, (.int .i64)], [T3, .bool, (.int .i64)], fun x => snap_Save k x.1 x.2.1 x.2.2.1 x.2.2.2.1⟩
theorem snap_Save_ok (k : Nat) : FnOk pg 39 (snap_Save_sig k) := fn_okE k [⟨_, _, snap_is_ok⟩, ⟨_, _, snap_picture_ok⟩, ⟨_, _, snap_Save_2_ok⟩, ⟨_, _, file_Add_ok⟩] (hs [(83, [(4, ⟨[.tmp 7 .bool, .tmp 8 (.int .i64), .tmp 27 (.int .i64), .box 6 T3, .box 3 T3], [28, 29, 30, 10, 32, 33, 34, 31, 35, 36, 11, 12, 37, 38, 39, 40, 41, 42], false⟩)])]) pm (by kernel_rfl) fun x => by kernel_rfl
def segment_Drop_sig (k : Nat) : Sig := ⟨L0, L0, fun x => segment_Drop k x.1 x.2.1⟩
theorem segment_Drop_ok (k : Nat) : FnOk pg 43 (segment_Drop_sig k) := fn_okE k [⟨_, _, segment_Is_ok⟩, ⟨_, _, file_Read_ok⟩, ⟨_, _, record_Scan_ok⟩] (hs [(43, [(4, ⟨[.box 2 T0], [16, 17, 18, 19, 20, 21, 22, 23, 24, 6, 26, 27, 28, 29, 25, 30, 31, 7, 8, 32, 33, 34, 35, 36, 9, 37, 38, 39, 40, 41, 42, 43, 44, 45, 46, 47, 48, 49, 50, 51, 52], false⟩)])]) pm (by kernel_rfl) fun x => by kernel_rfl
def keep_Snap_sig (k : Nat) : Sig := ⟨[T1, (.int .i64), T4, (.int .i64)], [T1, .bool, (.int .i64)], fun x => keep_Snap k x.1 x.2.1 x.2.2.1 x.2.2.2.1⟩
theorem keep_Snap_ok (k : Nat) : FnOk pg 16 (keep_Snap_sig k) := fn_okE k [⟨_, _, keep_parts_base_ok⟩, ⟨_, _, keep_parts_end_ok⟩, ⟨_, _, snap_Save_ok⟩, ⟨_, _, segment_Sync_ok⟩, ⟨_, _, keep_parts_may_ok⟩, ⟨_, _, slices_Clone_api_File_api_File_ok⟩, ⟨_, _, segment_Drop_ok⟩] (hs [(24, [(4, ⟨[.tmp 7 .bool, .tmp 8 (.int .i64), .tmp 26 (.int .i64), .box 6 T1, .box 0 T1], [27, 28, 29, 10, 30, 31, 11, 32, 33, 34, 35, 36], false⟩)])]) pm (by kernel_rfl) fun x => by kernel_rfl
end
end Go.Proofs.YtfhphiedbdinmaaGreatDoor.A
