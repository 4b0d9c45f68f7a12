/- RecordCrash, of data alone. -/
import Derived.Test.YtbllbljligmglaaARecLaw
import Derived.Test.YtbllbljligmglaaAbB
namespace Go.Proofs.Ytbllbljligmglaa.Pure
open Go Go.Proofs.Ytbllbljligmglaa.Ab Go.Proofs.Ytbllbljligmglaa.A
set_option linter.unusedVariables false

theorem RecordCrash : ∀ (a0 : Int) (a1 : Int) (a2 : (List ByteArray)) (a3 : (List ByteArray)) (a4 : Int) (a5 : ByteArray), (Lit.int .i64 a0).wf = true → (Lit.int .i64 a1).wf = true → bnd (.sl .str) a2 → bnd (.sl .str) a3 → (Lit.int .i64 a4).wf = true → a5.size ≤ 140737488351232 → ∃ k, law13_RecordCrash k a0 a1 a2 a3 a4 a5 = some (true, ()) := by
  intro m n l2 l3 cr z _ _ h2 h3 _ _
  refine Ev.get ?_
  have h2 : l2.length ≤ maxLen := h2.1
  have h3 : l3.length ≤ maxLen := h3.1
  have hE : EB.size = 0 := EB_size
  have hn := bad_ok (m := m)
  unfold newF at hn
  cases g : decide (1 ≤ m ∧ m ≤ 4000) with
  | false => rw [g] at hn; exact Ev.bind hn (Ev.t rfl (Ev.bind recorded_ok (Ev.now _)))
  | true =>
    rw [g] at hn
    have hm := of_decide_eq_true g
    refine Ev.bind hn (Ev.f rfl ?_)
    obtain ⟨x2, hx2, s2⟩ := rfar_ok m EB EB l2 h2
    cases x2 with
    | true => exact Ev.bind hx2 (Ev.t rfl (Ev.bind recorded_ok (Ev.now _)))
    | false =>
    refine Ev.bind hx2 (Ev.f rfl ?_)
    obtain ⟨x3, hx3, s3⟩ := rfar_ok m EB EB l3 h3
    cases x3 with
    | true => exact Ev.bind hx3 (Ev.t rfl (Ev.bind recorded_ok (Ev.now _)))
    | false =>
    refine Ev.bind hx3 (Ev.f rfl ?_)
    by_cases hneg : n < 0
    · exact Ev.dt hneg (Ev.bind recorded_ok (Ev.now _))
    refine Ev.df hneg ?_
    by_cases hbig : n > 900000000
    · exact Ev.dt hbig (Ev.bind recorded_ok (Ev.now _))
    refine Ev.df hbig ?_
    by_cases hz : (z.size : Int) > 200
    · exact Ev.dt hz (Ev.bind recorded_ok (Ev.now _))
    refine Ev.df hz ?_
    obtain ⟨_, _, s2, _⟩ := s2 rfl
    obtain ⟨_, _, s3, _⟩ := s3 rfl
    obtain ⟨L2, rfl⟩ := all_texts l2
    obtain ⟨L3, rfl⟩ := all_texts l3
    obtain ⟨u, rfl⟩ := all_text z
    have hu := mkB_size u
    have m2 : (L2.map mkB).length = L2.length := List.length_map ..
    have m3 : (L3.map mkB).length = L3.length := List.length_map ..
    have g0 : okF m EB EB = true := decide_eq_true ⟨hm.1, hm.2, by omega⟩
    have wn : IntKind.i64.wrap (n + ((L2.map mkB).length : Int)) = n + L2.length := by rw [m2, wrap_id (by omega) (by omega)]
    have hA := (AddR_both m EB EB (by omega) (by omega) n L2 (by omega)).1
    rcases addR_cases m EB EB n L2 with ⟨_, ok2, g2, e2⟩ | ⟨e, he, e2, _⟩
    case inr =>
      rw [e2] at hA
      have hS : Ev (fun k => file_Sync k (F 0 EB EB)) (F 0 EB EB, 1, ()) := Ev.all fun k => Sync_ok k 0 EB EB (by omega) (by omega)
      have hB := (AddR_both 0 EB EB (by omega) (by omega) (IntKind.i64.wrap (n + ((L2.map mkB).length : Int))) L3 (by omega)).1
      exact Ev.bind hA (Ev.bind hS (Ev.bind hB (Ev.t (nbne_i he) (Ev.bind recorded_ok (Ev.now _)))))
    rw [e2] at hA
    rw [E_app] at hA g2
    obtain ⟨X2, hX2⟩ : ∃ X, mkB (recsB n L2) = X := ⟨_, rfl⟩
    rw [hX2] at hA g2
    have b2 := okF_bd g2
    have hS : Ev (fun k => file_Sync k (F m EB X2)) (F m X2 EB, 0, ()) := Ev.all fun k => by rw [Sync_ok k m EB X2 (by omega) (by omega), g2, E_app]; rfl
    have hB : Ev (fun k => record_Add k (F m X2 EB) (IntKind.i64.wrap (n + ((L2.map mkB).length : Int))) (L3.map mkB)) (addR m X2 EB (n + L2.length) L3) := by
      rw [wn]; exact (AddR_both m X2 EB (by omega) (by omega) _ L3 (by omega)).1
    rcases addR_cases m X2 EB (n + L2.length) L3 with ⟨_, ok3, g3, e3⟩ | ⟨e, he, e3, _⟩
    case inr =>
      rw [e3] at hB
      exact Ev.bind hA (Ev.bind hS (Ev.bind hB (Ev.f rfl (Ev.f rfl (Ev.t (nbne_i he) (Ev.bind recorded_ok (Ev.now _)))))))
    rw [e3, E_app] at hB
    rw [E_app] at g3
    refine Ev.bind hA (Ev.bind hS (Ev.bind hB (Ev.f rfl (Ev.f rfl (Ev.f rfl ?_)))))
    clear e2 e3 hA hS hB
    obtain ⟨X3, hX3⟩ : ∃ X, mkB (recsB (n + L2.length) L3) = X := ⟨_, rfl⟩
    rw [hX3] at g3 ⊢
    have b3 := okF_bd g3
    -- the crash
    have hl := leftN_le cr X3.size
    obtain ⟨j, hj⟩ : ∃ j, leftN cr X3.size = j := ⟨_, rfl⟩
    rw [hj] at hl
    have hC : Ev (fun k => file_Crash k (F m X2 X3) cr) (F m (X2 ++ X3.extract 0 j) EB, 0, ()) := Ev.all fun k => by rw [Crash_ok k m X2 X3 (by omega) (by omega) cr, crashF, g3, hj]; rfl
    have hz4 : (X2 ++ X3.extract 0 j).size ≤ X2.size + X3.size := by rw [ByteArray.size_append, ByteArray.size_extract]; omega
    obtain ⟨Y, hY⟩ : ∃ Y, X2 ++ X3.extract 0 j = Y := ⟨_, rfl⟩
    rw [hY] at hC hz4
    have g4 : okF m Y EB = true := decide_eq_true ⟨hm.1, hm.2, by omega⟩
    -- which records are there
    have hsc : ∃ ts rest, ScanIs (Y ++ EB).data.toList n ts rest ∧ L2.length ≤ ts.length ∧ ts.length ≤ (L2 ++ L3).length ∧ ts = (L2 ++ L3).take ts.length := by
      obtain ⟨i, rest, hi, hs⟩ := scan_part ok3 j
      refine ⟨L2 ++ L3.take i, rest, ?_, by simp, by simp; omega, ?_⟩
      · have e : (Y ++ EB).data.toList = recsB n L2 ++ (recsB (n + L2.length) L3).take j := by
          rw [app_E, ← hY, bytes_append, ← hX2, bytes_extract, ← hX3, List.drop_zero]; rfl
        rw [e]
        exact scan_behind ok2 hs
      · have hlen : (L2 ++ L3.take i).length = L2.length + i := by rw [List.length_append, List.length_take, Nat.min_eq_left hi]
        rw [hlen, List.take_append, show L2.take (L2.length + i) = L2 from List.take_of_length_le (by omega), Nat.add_sub_cancel_left]
    obtain ⟨ts, rest, hsc, lo, hi, hts⟩ := hsc
    rw [List.length_append] at hi
    have okt : recsOk n ts := hsc.1
    have gl := scan_len hsc
    rw [size_toList, ByteArray.size_append] at gl
    have hM := (MendR_both (m := m) (s := Y) (t := EB) (by omega) (by omega) hsc).1
    have eM : mendR m Y EB n ts = (F m (mkB (recsB n ts)) EB, (ts.length : Int), 0, ()) := by unfold mendR; rw [g4]; rfl
    rw [eM] at hM
    obtain ⟨W, hW⟩ : ∃ W, mkB (recsB n ts) = W := ⟨_, rfl⟩
    have hWs := mkB_size (recsB n ts)
    rw [hW] at hM hWs
    have g5 : okF m W EB = true := decide_eq_true ⟨hm.1, hm.2, by omega⟩
    have scW : ScanIs (W ++ EB).data.toList n ts [] := by rw [app_E, ← hW]; exact scan_whole okt
    have hR := (ReadR_both (m := m) (s := W) (t := EB) (by omega) (by omega) scW).1
    have eR : readR m W EB ts = (ts.map mkB, 0, ()) := by unfold readR; rw [g5]; rfl
    rw [eR] at hR
    refine Ev.bind hC (Ev.bind hM (Ev.bind hR ?_))
    have mt : (ts.map mkB).length = ts.length := List.length_map ..
    have wt : IntKind.i64.wrap (n + (ts.length : Int)) = n + ts.length := wrap_id (by omega) (by omega)
    have wt1 : IntKind.i64.wrap ((ts.length : Int) + 1) = ((ts.length + 1 : Nat) : Int) := wrap_succ (by omega)
    have tx := Texts_ok (ts.map mkB) (by omega)
    -- what is added behind
    have hD : Ev (fun k => record_Add k (F m W EB) (IntKind.i64.wrap (n + (ts.length : Int))) ([u].map mkB)) (addR m W EB (n + ts.length) [u]) := by
      rw [wt]; exact (AddR_both m W EB (by omega) (by omega) _ [u] (by simp)).1
    have k1 : ¬ ((ts.map mkB).length : Int) ≠ (ts.length : Int) := by omega
    have c4 : ((((ts.map mkB).length : Nat) : Int) != (ts.length : Int)) = false := nbeq_i (by omega)
    have c5 : ¬ (ts.length : Int) < ((L2.map mkB).length : Int) := by omega
    have c6 : (0 : Int) ≤ (ts.length : Int) := by omega
    have fin : ∀ T : List ByteArray, T = (L2 ++ L3).map mkB → Ev (fun k => bif decide ((0 : Int) ≤ (ts.length : Int)) then (bif decide ((ts.length : Int) ≤ (T.length : Int)) then ((ref01_Texts k (ts.map mkB) (List.drop 0 (List.take (Int.toNat (ts.length : Int)) T))).bind fun r28 => bif !r28.1 then some (false, ()) else (record_Add k (F m W EB) (IntKind.i64.wrap (n + (ts.length : Int))) [mkB u]).bind fun r29 => bif r29.2.1 != 0 then ((law13_recorded k).bind fun r33 => bif r33.1 then some (r29.2.1 == 81, ()) else some (false, ())) else ((record_Read k (r29.1.1, r29.1.2.1, r29.1.2.2.1, ()) n).bind fun r30 => (law13_recorded k).bind fun r31 => bif r31.1 then (bif r30.2.1 == 0 then (bif ((List.length r30.1 : Nat) : Int) == IntKind.i64.wrap ((ts.length : Int) + 1) then (bif decide ((0 : Int) ≤ (ts.length : Int)) then (bif decide ((ts.length : Int) < ((List.length r30.1 : Nat) : Int)) then (bif ByteArray.toList (List.getD r30.1 (Int.toNat (ts.length : Int)) Ty.str.zero) == ByteArray.toList (mkB u) then (bif decide ((0 : Int) ≤ (ts.length : Int)) then (bif decide ((ts.length : Int) ≤ ((List.length r30.1 : Nat) : Int)) then ((ref01_Texts k (List.drop 0 (List.take (Int.toNat (ts.length : Int)) r30.1)) (ts.map mkB)).bind fun r32 => some (r32.1, ())) else none) else none) else some (false, ())) else none) else none) else some (false, ())) else some (false, ())) else some (false, ()))) else none) else none) (true, ()) := by
      rintro T rfl
      have eT : List.drop 0 (List.take (Int.toNat (ts.length : Int)) ((L2 ++ L3).map mkB)) = ts.map mkB := by
        rw [List.drop_zero, Int.toNat_natCast, ← List.map_take, ← hts]
      rw [eT]
      refine Ev.dt c6 (Ev.dt (by rw [List.length_map, List.length_append]; omega) (Ev.bind tx (Ev.f rfl ?_)))
      rcases addR_cases m W EB (n + ts.length) [u] with ⟨_, ok5, g6, e5⟩ | ⟨e, he, e5, h81⟩
      case inr =>
        have : e = 81 := h81 g5 (by
          refine ⟨⟨by omega, by omega, ?_⟩, trivial⟩
          omega)
        subst this
        rw [e5] at hD
        exact Ev.bind hD (Ev.t (nbne_i he) (Ev.bind recorded_ok (Ev.t rfl (Ev.now _))))
      rw [e5, E_app] at hD
      rw [E_app] at g6
      have b6 := okF_bd g6
      refine Ev.bind hD (Ev.f rfl ?_)
      have scV : ScanIs (W ++ mkB (recsB (n + ts.length) [u])).data.toList n (ts ++ [u]) [] := by
        rw [← hW, two_app, ← recsB_app]
        exact scan_whole ((recsOk_app n ts [u]).2 ⟨okt, ok5⟩)
      have hR2 := (ReadR_both (m := m) (s := W) (t := mkB (recsB (n + ts.length) [u])) (by omega) (by omega) scV).1
      have eR2 : readR m W (mkB (recsB (n + ts.length) [u])) (ts ++ [u]) = ((ts ++ [u]).map mkB, 0, ()) := by unfold readR; rw [g6]; rfl
      rw [eR2] at hR2
      have ml : (((ts ++ [u]).map mkB).length : Int) = ((ts.length + 1 : Nat) : Int) := by simp
      have eg : ((ts ++ [u]).map mkB).getD (Int.toNat (ts.length : Int)) Ty.str.zero = mkB u := getD_mid ts u []
      have ek : List.drop 0 (List.take (Int.toNat (ts.length : Int)) ((ts ++ [u]).map mkB)) = ts.map mkB := by
        rw [List.drop_zero, Int.toNat_natCast, ← List.map_take, List.take_left]
      have d1 : ((((((ts ++ [u]).map mkB).length : Nat) : Int)) == IntKind.i64.wrap ((ts.length : Int) + 1)) = true := beq_i (by rw [wt1, ml])
      have d2 : (ByteArray.toList (((ts ++ [u]).map mkB).getD (Int.toNat (ts.length : Int)) Ty.str.zero) == ByteArray.toList (mkB u)) = true := by rw [eg]; exact beq_self_eq_true _
      have tx2 : Ev (fun k => ref01_Texts k (List.drop 0 (List.take (Int.toNat (ts.length : Int)) ((ts ++ [u]).map mkB))) (ts.map mkB)) (true, ()) := by rw [ek]; exact tx
      exact Ev.bind hR2 (Ev.bind recorded_ok (Ev.t rfl (Ev.t rfl (Ev.t d1 (Ev.dt c6 (Ev.dt (by rw [ml]; omega) (Ev.t d2 (Ev.dt c6 (Ev.dt (by rw [ml]; omega) (Ev.bind tx2 (Ev.now _)))))))))))
    cases L2 with
    | nil =>
      cases L3 with
      | nil =>
        have ht0 : ts.length = 0 := by simpa using hi
        have := fin _ rfl
        have ht1 : ts = [] := List.length_eq_zero_iff.1 ht0
        subst ht1
        exact Ev.t rfl (Ev.t rfl (Ev.f rfl (Ev.f rfl (Ev.f rfl (Ev.f rfl (Ev.df c5 (Ev.df (by show ¬ ((0 : Nat) : Int) > 0; omega) this)))))))
      | cons y L3 => exact Ev.t rfl (Ev.f rfl (Ev.dt (by show ((y :: L3).map mkB).length * 16 ≤ _; omega) (Ev.f rfl (Ev.f rfl (Ev.f rfl (Ev.f c4 (Ev.df c5 (Ev.df (by show ¬ (ts.length : Int) > (((y :: L3).map mkB).length : Int); simp at hi m3 ⊢; omega) (fin _ rfl)))))))))
    | cons x L2 =>
      cases L3 with
      | nil => exact Ev.f rfl (Ev.dt (by show ((x :: L2).map mkB).length * 16 ≤ _; omega) (Ev.t rfl (Ev.f rfl (Ev.f rfl (Ev.f rfl (Ev.f c4 (Ev.df c5 (Ev.df (by show ¬ (ts.length : Int) > (((x :: L2).map mkB).length : Int); simp at hi m2 ⊢; omega) (fin _ (by rw [List.append_nil]))))))))))
      | cons y L3 => exact Ev.f rfl (Ev.dt (by show ((x :: L2).map mkB).length * 16 ≤ _; omega) (Ev.f rfl (Ev.dt (by show (((x :: L2).map mkB).length + ((y :: L3).map mkB).length) * 16 ≤ _; omega) (Ev.f rfl (Ev.f rfl (Ev.f rfl (Ev.f c4 (Ev.df c5 (Ev.df (by show ¬ (ts.length : Int) > ((((x :: L2).map mkB) ++ ((y :: L3).map mkB)).length : Int); rw [List.length_append]; omega) (fin _ (by rw [List.map_append])))))))))))
end Go.Proofs.Ytbllbljligmglaa.Pure
