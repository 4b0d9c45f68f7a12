import Derived.Test.YtfhphiedbdinmaaGreatDoorAHSum
set_option linter.all false
namespace Go.Proofs.YtfhphiedbdinmaaGreatDoor.A
open Go Ab
set_option maxRecDepth 100000
noncomputable section
private noncomputable abbrev pg : Program := Go.Proofs.Tryz.prog
private theorem pm : pg.follows .mixedOrders = true := by kernel_rfl
def wire_Int_sig (k : Nat) : Sig := ⟨[(.int .i64)], [.str, (.int .i64)], fun x => wire_Int k x.1⟩
theorem wire_Int_ok (k : Nat) : FnOk pg 91 (wire_Int_sig k) := fn_okE k [⟨_, _, wire_Ints_ok⟩] nh pm (by kernel_rfl) fun x => by kernel_rfl
def wire_Text_sig (k : Nat) : Sig := ⟨[.str], [.str, (.int .i64)], fun x => wire_Text k x.1⟩
theorem wire_Text_ok (k : Nat) : FnOk pg 121 (wire_Text_sig k) := fn_okE k [⟨_, _, wire_Int_ok⟩] nh pm (by kernel_rfl) fun x => by kernel_rfl
def frame_Put_sig (k : Nat) : Sig := ⟨[(.int .i64), .str], [.str, (.int .i64)], fun x => frame_Put k x.1 x.2.1⟩
theorem frame_Put_ok (k : Nat) : FnOk pg 92 (frame_Put_sig k) := fn_okE k [⟨_, _, wire_Text_ok⟩, ⟨_, _, wire_Int_ok⟩, ⟨_, _, sum_Over_ok⟩] nh pm (by kernel_rfl) fun x => by kernel_rfl
def wire_GetInt_sig (k : Nat) : Sig := ⟨[.str], [(.int .i64), .str, (.int .i64)], fun x => wire_GetInt k x.1⟩
theorem wire_GetInt_ok (k : Nat) : FnOk pg 99 (wire_GetInt_sig k) := fn_okE k [] (hs [(99, [(3, ⟨[.tmp 5 (.int .i64), .tmp 11 (.int .i64)], [12, 13, 6, 14, 15, 16, 17, 18, 19], false⟩), (14, ⟨[.tmp 2 (.int .i64), .tmp 3 .str, .tmp 4 (.int .i64), .tmp 7 (.int .i64), .tmp 8 (.int .i64)], [28, 29, 32, 33, 34, 35, 36, 37, 38, 39, 40, 41, 42, 43, 44, 45, 46, 47, 48, 49, 50, 51, 52, 53, 54, 30, 31], false⟩)])]) pm (by kernel_rfl) fun x => by kernel_rfl
def wire_GetText_sig (k : Nat) : Sig := ⟨[.str], [.str, .str, (.int .i64)], fun x => wire_GetText k x.1⟩
theorem wire_GetText_ok (k : Nat) : FnOk pg 165 (wire_GetText_sig k) := fn_okE k [⟨_, _, wire_GetInt_ok⟩] nh pm (by kernel_rfl) fun x => by kernel_rfl
def frame_Get_sig (k : Nat) : Sig := ⟨[.str], [(.int .i64), .str, .str, (.int .i64)], fun x => frame_Get k x.1⟩
theorem frame_Get_ok (k : Nat) : FnOk pg 127 (frame_Get_sig k) := fn_okE k [⟨_, _, sum_Of_ok⟩, ⟨_, _, wire_GetInt_ok⟩, ⟨_, _, wire_GetText_ok⟩] nh pm (by kernel_rfl) fun x => by kernel_rfl
end
end Go.Proofs.YtfhphiedbdinmaaGreatDoor.A
