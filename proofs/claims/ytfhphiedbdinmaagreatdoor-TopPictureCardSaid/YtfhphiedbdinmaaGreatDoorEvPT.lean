import Derived.Test.YtfhphiedbdinmaaGreatDoorEvKT
set_option linter.all false
namespace Go.Proofs.YtfhphiedbdinmaaGreatDoor.A
open Go Ab
set_option maxRecDepth 100000
noncomputable section
private noncomputable abbrev pg : Program := Go.Proofs.Tryz.prog
private theorem pm : pg.follows .mixedOrders = true := by kernel_rfl
private noncomputable abbrev T0 : Ty := (.cons (.int .i64) (.cons (.int .i64) (.cons (.int .i64) (.cons (.int .i64) (.cons (.int .i64) (.cons (.int .i64) (.cons (.int .i64) (.cons (.int .i64) .nil))))))))
def machine_within_sig (k : Nat) : Sig := ⟨[(.int .i64), (.int .i64), (.int .i64)], [.bool], fun x => machine_within k x.1 x.2.1 x.2.2.1⟩
theorem machine_within_ok (k : Nat) : FnOk pg 86 (machine_within_sig k) := fn_okE k [] nh pm (by kernel_rfl) fun x => by kernel_rfl
def spot_place_may_sig (k : Nat) : Sig := ⟨[(.cons (.int .i64) (.cons (.int .i64) .nil))], [.bool], fun x => spot_place_may k x.1⟩
theorem spot_place_may_ok (k : Nat) : FnOk pg 119 (spot_place_may_sig k) := fn_okE k [] nh pm (by kernel_rfl) fun x => by kernel_rfl
def spot_Is_sig (k : Nat) : Sig := ⟨[(.cons (.int .i64) (.cons (.int .i64) .nil))], [.bool], fun x => spot_Is k x.1⟩
theorem spot_Is_ok (k : Nat) : FnOk pg 87 (spot_Is_sig k) := fn_okE k [⟨_, _, spot_place_may_ok⟩] nh pm (by kernel_rfl) fun x => by kernel_rfl
def machine_May_sig (k : Nat) : Sig := ⟨[T0], [.bool], fun x => machine_May k x.1⟩
theorem machine_May_ok (k : Nat) : FnOk pg 44 (machine_May_sig k) := fn_okE k [⟨_, _, machine_within_ok⟩, ⟨_, _, spot_Is_ok⟩] nh pm (by kernel_rfl) fun x => by kernel_rfl
def packet_numbers_sig (k : Nat) : Sig := ⟨[(.sl (.int .i64))], [.str], fun x => packet_numbers k x.1⟩
theorem packet_numbers_ok (k : Nat) : FnOk pg 46 (packet_numbers_sig k) := fn_okE k [⟨_, _, wire_Ints_ok⟩] nh pm (by kernel_rfl) fun x => by kernel_rfl
def packet_put_sig (k : Nat) : Sig := ⟨[(.int .i64), .str, (.sl .str)], [.str, (.int .i64)], fun x => packet_put k x.1 x.2.1 x.2.2.1⟩
theorem packet_put_ok (k : Nat) : FnOk pg 45 (packet_put_sig k) := fn_okE k [⟨_, _, frame_Row_ok⟩] nh pm (by kernel_rfl) fun x => by kernel_rfl
def packet_PutCmd_sig (k : Nat) : Sig := ⟨[T0], [.str, (.int .i64)], fun x => packet_PutCmd k x.1⟩
theorem packet_PutCmd_ok (k : Nat) : FnOk pg 17 (packet_PutCmd_sig k) := fn_okE k [⟨_, _, machine_May_ok⟩, ⟨_, _, packet_numbers_ok⟩, ⟨_, _, packet_put_ok⟩] nh pm (by kernel_rfl) fun x => by kernel_rfl
end
end Go.Proofs.YtfhphiedbdinmaaGreatDoor.A
