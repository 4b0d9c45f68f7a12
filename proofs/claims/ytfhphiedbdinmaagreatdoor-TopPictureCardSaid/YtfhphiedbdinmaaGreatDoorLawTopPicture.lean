/- The statement TopPicture is carried, as its tied card, by what the law's function answers on all data (the text APureTopPicture): a call comes to true, and turns nothing that was there. Its conditions are those of the given row. -/
import Derived.Test.YtfhphiedbdinmaaGreatDoorEvTP
import Derived.Test.YtfhphiedbdinmaaGreatDoorAPureTopPicture
import Derived.Test.YtfhphiedbdinmaaGreatDoorAbK
import Derived.OpenShut
import Derived.ShutString
import Derived.ChangeOld
import Derived.SizedLaws
import Derived.LaidLaws
import Derived.Handed
import Derived.Test.YtfhphiedbdinmaaGreatDoorCards
import Derived.Test.YtfhphiedbdinmaaGreatDoorTie
set_option linter.all false
namespace Go.Proofs.YtfhphiedbdinmaaGreatDoor.topPicture
open Go.ChangeShapes Go.WideShapes Go.ChangeAt Go.RowKit Ab A
open Go.ChangeMaps (open_string shut_string)
theorem own : ownKnob Tryz.prog.godebug = none := by kernel_rfl
theorem laidOut : laidOutB Tryz.prog = true := by kernel_rfl
theorem rd0 (W : World) : RdT Tryz.prog W 22 (.sl (.cons (.int .i64) (.cons (.int .i64) (.cons (.int .i64) (.cons (.int .i64) (.cons (.int .i64) (.cons (.int .i64) (.cons (.int .i64) (.cons (.int .i64) .nil))))))))) := by
 have h : RdT Tryz.prog W 22 (.sl (.cons (.int .i64) (.cons (.int .i64) (.cons (.int .i64) (.cons (.int .i64) (.cons (.int .i64) (.cons (.int .i64) (.cons (.int .i64) (.cons (.int .i64) .nil))))))))) := (RdT.sl Tryz.underlying22 (by kernel_rfl) (RdT.struct Tryz.underlying70 (by kernel_rfl) (RdS.cons rfl (by kernel_rfl) (RdT.int Tryz.underlying3) (RdS.cons rfl (by kernel_rfl) (RdT.int Tryz.underlying3) (RdS.cons rfl (by kernel_rfl) (RdT.int Tryz.underlying3) (RdS.struct (a := (.cons (.int .i64) (.cons (.int .i64) .nil))) (b := (.cons (.int .i64) (.cons (.int .i64) (.cons (.int .i64) .nil)))) rfl rfl (by kernel_rfl) (RdT.struct Tryz.underlying68 (by kernel_rfl) (RdS.cons rfl (by kernel_rfl) (RdT.int Tryz.underlying3) (RdS.cons rfl (by kernel_rfl) (RdT.int Tryz.underlying3) RdS.nil))) (RdS.cons rfl (by kernel_rfl) (RdT.int Tryz.underlying3) (RdS.cons rfl (by kernel_rfl) (RdT.int Tryz.underlying3) (RdS.cons rfl (by kernel_rfl) (RdT.int Tryz.underlying3) RdS.nil)))))))))
 exact h
def valsOf : DataW Unit -> Array Value
 | .agg l => (l.map fun | .lit (.int k z) => Value.int k z | _ => .int .i64 0).toArray
 | _ => #[]
def laidTo (vs : Array Value) : Obj -> Obj
 | .cells _ t frozen => .cells vs t frozen
 | o => o
noncomputable def laidWorld (os : Os) : World :=
 let w0 := World.holding Tryz.prog os ⟨#[], #[], []⟩
 { w0 with heap := ((w0.heap.modify 1 (laidTo (valsOf Rows.laid_internal_strconv_uint64pow10))).modify 2 (laidTo (valsOf Rows.laid_math_bits_deBruijn32tab))).modify 3 (laidTo (valsOf Rows.laid_math_bits_deBruijn64tab)) }
set_option maxRecDepth 100000 in
theorem laid_met (os : Os) (args : Array Value) : laidMet Tryz.prog Rows.topPictureRow.laid ((laidWorld os).forCall (fun _ _ => 0) ⟨#[], args, []⟩).memory :=
 laidMet_of_run' 8 (by kernel_rfl) (by kernel_rfl)
theorem laid_eq : (Rows.laid_internal_strconv_uint64pow10 : DataW Unit) = Lib.tabData .u64 Lib.pow10Tab := by kernel_rfl
theorem tab_named : Tryz.prog.globalNamed "internal/strconv.uint64pow10" = some 1 := by kernel_rfl
theorem tab_type : (Tryz.prog.globals[1]?).map (·.type) = some 401 := by kernel_rfl
theorem tab_of_laid {W : World} (h : laidMet Tryz.prog Rows.topPictureRow.laid W) : GT Tryz.prog W := by
 obtain ⟨ps, ⟨g1, t1, cs1, f1, p1, q1, _, _, _, _, ⟨g2, t2, cs2, f2, p2, q2, _, _, _, _, ⟨g, t, cs, fuel, p, q, hg, ht, hvar, hd, _⟩, _⟩, _⟩, _⟩ := h
 obtain rfl := Option.some.inj (tab_named.symm.trans hg)
 obtain rfl := Option.some.inj (tab_type.symm.trans ht)
 unfold GT Lib.TabIs
 rw [hvar, <- Lib.cells_of_tab (k := .u64) (zs := Lib.pow10Tab) Tryz.underlying401 Tryz.underlying378 (by kernel_rfl) (by kernel_rfl) (laid_eq ▸ hd)]
set_option maxRecDepth 100000 in
theorem lifted (os : Os) (started : os.Started) (H : Type) (enc : TypeId × Value -> H) :
 ReturnsInHanded {} Tryz.checked os 4 .any (fun w args => (Rows.topPictureSpec.pre enc Tryz.prog Tryz.f4 Rows.topPictureRow.domain false w args /\ laidMet Tryz.prog Rows.topPictureRow.laid w) /\ sizedMet enc Tryz.prog Tryz.f4 (OpenSpec.ofChange Rows.topPictureSpec) false w args) (Rows.topPictureSpec.post enc Tryz.prog Tryz.f4 false true false false) := by
 refine returnsInHanded_of_change_and (C := Tryz.checked) (X := fun w _ => laidMet Tryz.prog Rows.topPictureRow.laid w) (fun _ _ _ hh h => h.of_heap hh) own started (by kernel_rfl) Tryz.func4
  (ChangeSpec.witness_at (enc := enc) (C := Tryz.checked) (os := os) (X := fun w _ => laidMet Tryz.prog Rows.topPictureRow.laid w) false (laidWorld os) #[.slice none 0 0, .int .i64 0, .int .i64 0, .int .i64 0, .int .i64 0] 8 rfl (by kernel_rfl) (by kernel_rfl) (by kernel_rfl) (by kernel_rfl) (by kernel_rfl) (laid_met os _)) ?_
 intro W base args ds gs before hval0 hW hcnd hsz0 hL _
 have hsz : (DataW.weightsEach Tryz.prog (Tryz.f4.params.toList ++ Rows.topPictureSpec.plain.varTypes Tryz.prog) (ds ++ gs)).all (· <= reachBytes) = true := hsz0
 have hval : ∀ (j : Nat) t v, Tryz.f4.params[j]? = some t -> args[j]? = some v -> Value.okWide Tryz.prog W .any base t v := hval0
 have hW' := hW
 obtain ⟨p, q, hA0, hV, rfl, hfz, hnd⟩ := hW
 have hA : DataW.TrodAll enc Tryz.prog W 0 (fun _ => true) true Tryz.f4.params.toList args.toList ds p := hA0
 rw [Tryz.params4] at hA hval hsz
 obtain ⟨v0, vs0, d0, ds0, p0, q0, hargs, rfl, rfl, h0, r0⟩ := trodAll_cons hA
 obtain ⟨v1, vs1, d1, ds1, p1, q1, rfl, rfl, rfl, h1, r1⟩ := trodAll_cons r0
 obtain ⟨v2, vs2, d2, ds2, p2, q2, rfl, rfl, rfl, h2, r2⟩ := trodAll_cons r1
 obtain ⟨v3, vs3, d3, ds3, p3, q3, rfl, rfl, rfl, h3, r3⟩ := trodAll_cons r2
 obtain ⟨v4, vs4, d4, ds4, p4, q4, rfl, rfl, rfl, h4, r4⟩ := trodAll_cons r3
 obtain ⟨rfl, rfl, rfl⟩ := trodAll_nil r4
 obtain rfl : args = #[v0, v1, v2, v3, v4] := by cases args; simp_all
 obtain ⟨rfl, rfl⟩ := trodVars_none hV
 obtain ⟨a_0, len0, cap0, rfl⟩ := okWide_slice Tryz.underlying22 (hval 0 22 v0 rfl rfl)
 have k0 := h0
 have lt0 : ∀ x ∈ p0, x.block < W.heap.size := by obtain ⟨m, hm⟩ := k0; exact DataW.trod_lt m _ _ _ hm
 obtain ⟨fu0, hf0⟩ := h0
 obtain ⟨a0, hr0, b0⟩ := rd0 W H enc fu0 _ _ hf0
 obtain ⟨a1, rfl, rfl, rfl, w1⟩ := open_int Tryz.underlying3 (hval 1 3 v1 rfl rfl) h1
 obtain ⟨a2, rfl, rfl, rfl, w2⟩ := open_int Tryz.underlying3 (hval 2 3 v2 rfl rfl) h2
 obtain ⟨a3, rfl, rfl, rfl, w3⟩ := open_int Tryz.underlying3 (hval 3 3 v3 rfl rfl) h3
 obtain ⟨a4, rfl, rfl, rfl, w4⟩ := open_int Tryz.underlying3 (hval 4 3 v4 rfl rfl) h4
 have sz0 : a0.length <= 2199023255552 := by
  obtain ⟨A, c, e0, _⟩ := hr0
  have e0 : len0 = a0.length := by injection (List.cons.inj e0).1
  rcases DataW.trod_slice Tryz.underlying22 hf0 with ⟨e1, _⟩ | ⟨a, len, cap, elems, rest, n, _, e1, e2, _, _, _, hl, _⟩
  . have : len0 = 0 := by injection (List.cons.inj e1).1
    omega
  . have e1 : len0 = len := by injection (List.cons.inj e1).1
    have z := sized_slice hsz (j := 0) (t := 22) rfl (congrArg some (congrArg Prod.fst e2)) Tryz.underlying22
    rw [show Tryz.prog.bytesOf 70 = 64 by kernel_rfl, List.length_map] at z
    have := reachBytes_lt
    omega
 clear hA0 hval0 hsz0 hsz
 obtain ⟨k_, h_⟩ := Pure.TopPicture a0 a1 a2 a3 a4 sz0 w1 w2 w3 w4
 refine ((top_TopPicture_okT k_).calls (a0, a1, a2, a3, a4, ()) (true, ()) h_ W.cell? W [_, _, _, _, _] (tab_of_laid hL) (fun p v h => h) ⟨hr0, rfl, rfl, rfl, rfl, trivial⟩).mono fun e W' ⟨u, S', he, _, _, _, hres, bel⟩ => ?_
 have hres : [u] = [Value.bool true] := hres
 obtain rfl : u = .bool true := by simpa using hres
 subst he
 exact ⟨_, rfl, _, _, _, [], _, [], hW', trodAll_mk1 (shut_bool Tryz.underlying4 _), (trodAll_cons_mk (Below.trod laidOut (by kernel_rfl) (of_decide_eq_true (by kernel_rfl)) k0 bel lt0) (trodAll_cons_mk (shut_int Tryz.underlying3 w1) (trodAll_cons_mk (shut_int Tryz.underlying3 w2) (trodAll_cons_mk (shut_int Tryz.underlying3 w3) (trodAll_cons_mk (shut_int Tryz.underlying3 w4) trodAll_mk0))))), rfl, bel.frame _, fun h => by cases h⟩
theorem over : Rows.topPictureRow.holds Tryz.pinned (OpenSpec.ofChange Rows.topPictureSpec) :=
 OpenClaim.holds_of_wide 4 Tryz.f4 rfl rfl rfl rfl rfl rfl rfl ⟨rfl, rfl, rfl, rfl, rfl⟩ rfl rfl rfl rfl rfl (by kernel_rfl) Tryz.func4 (by kernel_rfl)
  (of_decide_eq_true (by kernel_rfl)) (by unfold Func.isWrapper; first | (rw [if_pos (by decide +kernel)]; kernel_rfl) | (rw [if_neg (by decide +kernel)]; exact ⟨rfl, rfl⟩))
  (fun os started H enc _ => lifted os started H enc)
end Go.Proofs.YtfhphiedbdinmaaGreatDoor.topPicture
namespace Go.Proofs.YtfhphiedbdinmaaGreatDoor
theorem topPicture_holds : Rows.TopPictureCardSaid :=
 Claim7.holds_tied_plain_at .later [] [.data, .data, .data] true (true, "fbb970e5e7cda91ff920c142639bf660850efb42e89178bb380b3dd68047f3f2") true
  topPicture.over (fun _ h => by cases h) (by kernel_rfl) (fun _ h => by cases h) topPicture_row_tie rfl ⟨rfl, rfl⟩ (by kernel_rfl) rfl
  (fun f fn hf hfn => by
   obtain rfl : f = 4 := Option.some.inj ((show Tryz.prog.funcNamed "watchman/watchmantop.TopPicture" = some 4 by kernel_rfl).symm.trans hf) |>.symm
   obtain rfl : fn = Tryz.f4 := (Option.some.inj (Tryz.func4.symm.trans hfn)).symm
   exact ⟨by kernel_rfl, fun j t ht => by
    rw [Tryz.params4] at ht
    have h3 : t = 22 \/ t = 3 := by
     rcases j with _ | _ | _ | _ | _ | j <;> simp at ht <;> first | exact .inl ht.symm | exact .inr ht.symm | exact .inl ht | exact .inr ht
    rcases h3 with rfl | rfl
    . exact (show Tryz.prog.wantsStandIn 22 = false by kernel_rfl)
    . exact (show Tryz.prog.wantsStandIn 3 = false by kernel_rfl)⟩)
  (by kernel_rfl)
#print axioms topPicture_holds
end Go.Proofs.YtfhphiedbdinmaaGreatDoor
