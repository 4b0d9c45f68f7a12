import Derived.Test.YtfhphiedbdinmaaGreatDoorFnTP
import Derived.Test.YtfhphiedbdinmaaGreatDoorAbI
import Derived.Test.YtfhphiedbdinmaaGreatDoorProg
set_option linter.all false
namespace Go.Proofs.YtfhphiedbdinmaaGreatDoor.A
open Go Ab
set_option maxRecDepth 100000
noncomputable section
private noncomputable abbrev pg : Program := Go.Proofs.Tryz.prog
private theorem pm : pg.follows .mixedOrders = true := by kernel_rfl
private noncomputable abbrev T0 : Ty := (.cons (.int .i64) (.cons (.int .i64) (.cons (.int .i64) (.cons (.int .i64) (.cons (.int .i64) (.cons (.int .i64) .nil))))))
private noncomputable abbrev L0 : List Ty := [(.int .i64)]
def rank_alarm_press_sig (k : Nat) : Sig := ⟨[T0], L0, fun x => rank_alarm_press k x.1⟩
theorem rank_alarm_press_ok (k : Nat) : FnOk pg 234 (rank_alarm_press_sig k) := fn_okE k [] (hs [(234, [(2, ⟨[.tmp 2 (.int .i64), .tmp 6 (.int .i64)], [7, 8, 9, 3, 4, 10, 11, 12, 13, 14, 15], false⟩)])]) pm (by kernel_rfl) fun x => by kernel_rfl
def cmp_isNaN_int_sig (k : Nat) : Sig := ⟨L0, [.bool], fun x => cmp_isNaN_int k x.1⟩
theorem cmp_isNaN_int_ok (k : Nat) : FnOk pg 172 (cmp_isNaN_int_sig k) := fn_okE k [] nh pm (by kernel_rfl) fun x => by kernel_rfl
def cmp_Compare_int_sig (k : Nat) : Sig := ⟨[(.int .i64), (.int .i64)], L0, fun x => cmp_Compare_int k x.1 x.2.1⟩
theorem cmp_Compare_int_ok (k : Nat) : FnOk pg 138 (cmp_Compare_int_sig k) := fn_okE k [⟨_, _, cmp_isNaN_int_ok⟩] nh pm (by kernel_rfl) fun x => by kernel_rfl
def rank_first_sig (k : Nat) : Sig := ⟨[(.sl (.int .i64))], L0, fun x => rank_first k x.1⟩
theorem rank_first_ok (k : Nat) : FnOk pg 233 (rank_first_sig k) := fn_okE k [] (hs [(233, [(2, ⟨[.tmp 2 (.int .i64), .tmp 7 (.int .i64)], [8, 9, 10, 4, 11, 12, 13, 14], false⟩)])]) pm (by kernel_rfl) fun x => by kernel_rfl
def rank_alarm_to_sig (k : Nat) : Sig := ⟨[T0, T0], L0, fun x => rank_alarm_to k x.1 x.2.1⟩
theorem rank_alarm_to_ok (k : Nat) : FnOk pg 217 (rank_alarm_to_sig k) := fn_okE k [⟨_, _, rank_alarm_press_ok⟩, ⟨_, _, cmp_Compare_int_ok⟩, ⟨_, _, rank_first_ok⟩] nh pm (by kernel_rfl) fun x => by kernel_rfl
def rank_Compare_sig (k : Nat) : Sig := ⟨[T0, T0], L0, fun x => rank_Compare k x.1 x.2.1⟩
theorem rank_Compare_ok (k : Nat) : FnOk pg 188 (rank_Compare_sig k) := fn_okE k [⟨_, _, rank_alarm_to_ok⟩] nh pm (by kernel_rfl) fun x => by kernel_rfl
def cmp_Or_int_sig (k : Nat) : Sig := ⟨[(.sl (.int .i64))], L0, fun x => cmp_Or_int k x.1⟩
theorem cmp_Or_int_ok (k : Nat) : FnOk pg 137 (cmp_Or_int_sig k) := fn_okE k [] (hs [(137, [(3, ⟨[.tmp 2 (.int .i64), .tmp 8 (.int .i64)], [9, 10, 11, 5, 12, 13, 14, 15, 16], false⟩)])]) pm (by kernel_rfl) fun x => by kernel_rfl
def mute_joined_1_sig (k : Nat) : Sig := ⟨[(.cons (.int .i64) (.cons (.int .i64) (.cons (.int .i64) .nil))), (.cons (.int .i64) (.cons (.int .i64) (.cons (.int .i64) .nil)))], L0, fun x => mute_joined_1 k x.1 x.2.1⟩
theorem mute_joined_1_ok (k : Nat) : FnOk pg 228 (mute_joined_1_sig k) := fn_okE k [⟨_, _, cmp_Compare_int_ok⟩, ⟨_, _, cmp_Or_int_ok⟩] nh pm (by kernel_rfl) fun x => by kernel_rfl
end
end Go.Proofs.YtfhphiedbdinmaaGreatDoor.A
