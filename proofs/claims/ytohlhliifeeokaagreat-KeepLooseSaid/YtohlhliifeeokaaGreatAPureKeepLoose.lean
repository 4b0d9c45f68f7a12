/- KeepLoose, of data alone. -/
import Derived.Test.YtohlhliifeeokaaGreatAKeepFar
import Derived.Test.YtohlhliifeeokaaGreatAKeepCrash
import Derived.Test.YtohlhliifeeokaaGreatAbB
namespace Go.Proofs.YtohlhliifeeokaaGreat.Pure
open Go Go.Proofs.YtohlhliifeeokaaGreat.Ab Go.Proofs.YtohlhliifeeokaaGreat.A
set_option linter.unusedVariables false

def klEnd (k : Nat) (K : KT) (v : Int) : Option (Bool × Unit) := (keep_Crash k K v).bind fun r11 => (keep_Crash k r11.1 v).bind fun r12 => (law17_kept k).bind fun r13 => (bif r13.1 then (bif r11.2.1 != 0 then some (true, ()) else (bif r12.2.1 == r11.2.1 then ((ref17_Same k r11.1 r12.1).bind fun r14 => some (r14.1, ())) else some (false, ()))) else some (false, ()))
theorem KSame_ok (m : Int) (a b : ByteArray) (m' : Int) (c d : ByteArray) (hm : Int) (ha hb : ByteArray) (hm' : Int) (hc hd : ByteArray) (z n : Int) (fs : List FT) (hl : fs.length ≤ 1000000) : Ev (fun k => ref17_Same k (KM (S6 m a b m' c d) (H6 hm ha hb hm' hc hd) (SG z n fs)) (KM (S6 m a b m' c d) (H6 hm ha hb hm' hc hd) (SG z n fs))) (true, ()) :=
  Ev.t (same6 (S6 m a b m' c d)) (Ev.t (same6 (H6 hm ha hb hm' hc hd)) (Ev.bind (Same_ok z n fs hl) (Ev.now _)))
theorem klEnd_no {K : KT} (h : Ev (fun k => keep_parts_may k K) (false, ())) (v : Int) : Ev (fun k => klEnd k K v) (true, ()) :=
  Ev.bind (Crash_no h v) (Ev.bind (Crash_no mayZ v) (Ev.bind kept17_ok (Ev.t rfl (Ev.t rfl (Ev.now _)))))
theorem klEnd_ev {m : Int} {a b c d : ByteArray} {hm : Int} {ha hb hc hd : ByteArray} {z n : Int} {pre : List ByteArray} {s t : ByteArray} (sm : smallS a b c d) (ok : okS m a b m c d = true) (hsm : smallH ha hb hc hd) (hok : okH hm ha hb hm hc hd = true) (lok : okL z n pre s t) (v : Int) : Ev (fun k => klEnd k (KM (S6 m a b m c d) (H6 hm ha hb hm hc hd) (SL z n pre s t)) v) (true, ()) := by
  obtain ⟨a1, c1, ha1, hc1, pre1, s1, T1, h1⟩ := crashed sm ok hsm hok lok v
  obtain ⟨a2, c2, ha2, hc2, pre2, s2, T2, h2⟩ := crashed h1.sm h1.ok h1.hsm h1.hok h1.lok v
  obtain ⟨rfl, rfl, rfl, rfl, rfl, rfl⟩ := h2.same rfl rfl rfl rfl rfl ⟨_, h1.w⟩
  exact Ev.bind h1.ev (Ev.bind h2.ev (Ev.bind kept17_ok (Ev.t rfl (Ev.f rfl (Ev.t rfl (Ev.bind (KSame_ok _ _ _ _ _ _ _ _ _ _ _ _ z n _ (Nat.le_trans h1.lok.len (by decide))) (Ev.now _)))))))
theorem KeepLoose : ∀ (a0 : KT) (a1 : Int), bnd (.cons (.int .i64) (.cons .str (.cons .str (.cons (.int .i64) (.cons .str (.cons .str (.cons (.int .i64) (.cons .str (.cons .str (.cons (.int .i64) (.cons .str (.cons .str (.cons (.int .i64) (.cons (.int .i64) (.cons (.sl (.cons (.int .i64) (.cons .str (.cons .str .nil)))) .nil))))))))))))))) a0 → (Lit.int .i64 a1).wf = true → ∃ k, law17_KeepLoose k a0 a1 = some (true, ()) := by
  intro K v h1 _
  refine Ev.get ?_
  obtain ⟨nm, a, b, nm', c, d, hm, ha, hb, hm', hc, hd, z, n, fs, ⟨⟩⟩ := K
  have hf : fs.length ≤ maxLen := h1.2.2.2.2.2.2.2.2.2.2.2.2.2.2.1.1
  obtain ⟨x2, hx2, s2⟩ := kfar_ok nm a b nm' c d hm ha hb hm' hc hd z n fs [] hf (by simp)
  cases x2 with
  | true => exact Ev.bind hx2 (Ev.t rfl (Ev.now _))
  | false =>
  refine Ev.bind hx2 (Ev.f rfl ?_)
  obtain ⟨p1, p2, ⟨p3, p4⟩, _, _⟩ := s2 rfl
  have sS : smallS a b c d := ⟨by omega, by omega, by omega, by omega⟩
  have sH : smallH ha hb hc hd := ⟨by omega, by omega, by omega, by omega⟩
  rcases right_or (m := nm) (m' := nm') (hm := hm) (hm' := hm') (z := z) (n := n) sS sH (by omega : fs.length ≤ 1000) p4 with ⟨rfl, rfl, ok, hok, pre, s, t, rfl, lok⟩ | hno
  · have last := klEnd_ev sS ok sH hok lok v
    obtain ⟨a1, c1, ha1, hc1, pre1, s1, T1, h1⟩ := crashed sS ok sH hok lok 1000000
    rcases keep_or (m := nm) (m' := nm) (hm := hm) (hm' := hm) (z := z) (n := n) sS sH (by omega : (files z pre s t).length ≤ 1000) p4 with ⟨pre2, s2, t2, tx, base, P, T, e1, ho, _, _⟩ | hs
    · obtain ⟨rfl, rfl, rfl⟩ := files_inj e1
      have ho2 := h1.open sS ok sH hok ho
      have e2 := tells_one ho2.lok ho2.tells (.inl h1.w)
      have t1 := Texts_big P (by have := ho.pl; omega)
      have hl := ho.tl
      have t2 := Texts_big ((T.drop (base - n).toNat).map mkB) (by rw [List.length_map, List.length_drop]; omega)
      exact Ev.bind ho.open (Ev.bind h1.ev (Ev.bind ho2.open (Ev.t rfl (Ev.f rfl (Ev.f rfl (Ev.f (by show (!(tx.toList == tx.toList)) = false; simp) (Ev.f (nbeq_i rfl) (Ev.bind t1 (Ev.f rfl (Ev.bind t2 (Ev.f rfl last)))))))))))
    · have hex : ∃ R, Ev (fun k => keep_Open k (KM (S6 nm a1 EB nm c1 EB) (H6 hm ha1 EB hm hc1 EB) (SL z n pre1 s1 EB))) R := by
        rcases keep_or (m := nm) (m' := nm) (hm := hm) (hm' := hm) (z := z) (n := n) h1.sm h1.hsm h1.lok.len h1.lok.bd with ⟨pre2, s2, t2, tx, base, P, T, e1, ho, _, _⟩ | hs2
        · obtain ⟨rfl, rfl, rfl⟩ := files_inj e1; exact ⟨_, ho.open⟩
        · exact ⟨_, hs2.open⟩
      obtain ⟨R, hR⟩ := hex
      exact Ev.bind hs.open (Ev.bind h1.ev (Ev.bind hR (Ev.f rfl last)))
  · have hsh : Shut (KM (S6 nm a b nm' c d) (H6 hm ha hb hm' hc hd) (SG z n fs)) := fun α F e => Ev.bind hno (Ev.t rfl (Ev.now _))
    exact Ev.bind hsh.open (Ev.bind (Crash_no hno _) (Ev.bind shutZ.open (Ev.f rfl (klEnd_no hno v))))
end Go.Proofs.YtohlhliifeeokaaGreat.Pure
