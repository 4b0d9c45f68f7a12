/- Shelves' laws: what is saved, crashed and new. -/
import Derived.Test.YthgeadmcliiaoaaASnapThy
namespace Go.Proofs.Ythgeadmcliiaoaa.A
open Go Go.Proofs.Ythgeadmcliiaoaa.Ab
set_option linter.unusedVariables false
set_option linter.unusedSimpArgs false

/-- What a file becomes with more behind it. -/
def addF (m : Int) (s t c : ByteArray) : FT × Int × Unit := bif okF m s t then (bif okF m s (t ++ c) then (F m s (t ++ c), 0, ()) else (F 0 EB EB, 81, ())) else (F 0 EB EB, 1, ())
section
variable (k : Nat) (m : Int) (s t : ByteArray)
theorem Add_ok (hs : s.size ≤ 1000000) (ht : t.size ≤ 1000000) (l : List ByteArray) (h0 : l.length ≤ 100) (h1 : (cat l).size ≤ 900000) : file_Add k (F m s t) l = some (addF m s t (cat l)) := by
  unfold file_Add addF
  show (file_right k (F m s t)).bind _ = _
  rw [right_ok k m s t hs ht]
  cases h : okF m s t
  · rfl
  · have hb := okF_bd h
    show (strings_Join k l EB).bind _ = _
    rw [Join_ok k l (by omega) (by omega)]
    have g : t.size + (cat l).size ≤ 9223372036854775807 := by omega
    refine (bif_t g _ _).trans ?_
    show (file_bytes_may k (F m s (t ++ cat l))).bind _ = _
    rw [may_ok k m s _ hs (by rw [ByteArray.size_append]; omega)]
    cases okF m s (t ++ cat l) <;> rfl
end
theorem Add1_ok {m : Int} {p : ByteArray} (h1 : 1 ≤ m) (h2 : m ≤ 4000) (hp : (p.size : Int) ≤ m) (k : Nat) : file_Add k (F m EB EB) [p] = some (F m EB p, 0, ()) := by
  have hE : EB.size = 0 := EB_size
  have hc : cat [p] = p := by rw [cat_cons, cat_nil, app_E]
  rw [Add_ok k m EB EB (by omega) (by omega) [p] (by simp) (by rw [hc]; omega), hc]
  unfold addF
  rw [show okF m EB EB = true from decide_eq_true ⟨h1, h2, by omega⟩, E_app, show okF m EB p = true from decide_eq_true ⟨h1, h2, by omega⟩]
  rfl
abbrev HZ : HT := (0, EB, EB, 0, EB, EB, ())
def nrm (D : Int) : Int := if D < 0 ∨ D > 3 then 3 else D
theorem nrm_bd (D : Int) : 0 ≤ nrm D ∧ nrm D ≤ 3 := by unfold nrm; split <;> omega
def saveJ (m : Int) (a b : ByteArray) (m' : Int) (c d p : ByteArray) (J : Int) : HT := if J = 0 then H6 m a b m' c d else if J = 1 then H6 m a b m EB p else if J = 2 then H6 m a b m p EB else H6 m p EB m EB EB
def saveA (m : Int) (a b : ByteArray) (m' : Int) (c d : ByteArray) (n : Int) (L : List (List UInt8)) (D : Int) : HT × Bool × Int × Unit :=
  bif okH m a b m' c d then (if (PicA n L).2.1 ≠ 0 then (HZ, false, (PicA n L).2.1, ()) else if ((PicA n L).1.size : Int) > m then (HZ, false, 81, ()) else (saveJ m a b m' c d (PicA n L).1 (nrm D), nrm D == 3, 0, ())) else (HZ, false, 1, ())
section
variable {m : Int} {a b : ByteArray} {m' : Int} {c d p : ByteArray} {N : Int} {R : AExit × (Bool × (Int × (Int × (HT × (HT × Unit)))))}
theorem sv0 (h1 : 1 ≤ m) (h2 : m ≤ 4000) (hp : (p.size : Int) ≤ m) (h : 0 < N) (hR : Ev (fun k => snap_Save_l1 (H6 m a b m' c d) N (p, 0, ()) k (false, 0, 1, HZ, H6 m a b m EB p, ())) R) (hm : m' = m) :
    Ev (fun k => snap_Save_l1 (H6 m a b m' c d) N (p, 0, ()) k (false, 0, 0, HZ, H6 m a b m' c d, ())) R := by
  subst hm
  have w : IntKind.i64.wrap ((0 : Int) + 1) = 1 := wrap_id (by omega) (by omega)
  have hR' : Ev (fun k => snap_Save_l1 (H6 m' a b m' c d) N (p, 0, ()) k (false, 0, IntKind.i64.wrap ((0 : Int) + 1), HZ, H6 m' a b m' EB p, ())) R := by rw [w]; exact hR
  have c0 : (0 : Int) < (N.toNat : Int) := by omega
  exact Ev.step (Ev.dt c0 (Ev.dt (Int.le_refl 0) (Ev.dt c0 (Ev.t (beq_i rfl) (Ev.bind (Ev.all fun k => Add1_ok h1 h2 hp k) (Ev.f rfl hR'))))))
theorem sv1 (h1 : 1 ≤ m) (h2 : m ≤ 4000) (hp : (p.size : Int) ≤ m) (h : 1 < N) (hR : Ev (fun k => snap_Save_l1 (H6 m a b m' c d) N (p, 0, ()) k (false, 0, 2, HZ, H6 m a b m p EB, ())) R) :
    Ev (fun k => snap_Save_l1 (H6 m a b m' c d) N (p, 0, ()) k (false, 0, 1, HZ, H6 m a b m EB p, ())) R := by
  have w : IntKind.i64.wrap ((1 : Int) + 1) = 2 := wrap_id (by omega) (by omega)
  have hR' : Ev (fun k => snap_Save_l1 (H6 m a b m' c d) N (p, 0, ()) k (false, 0, IntKind.i64.wrap ((1 : Int) + 1), HZ, H6 m a b m p EB, ())) R := by rw [w]; exact hR
  have c0 : (1 : Int) < (N.toNat : Int) := by omega
  have hE : EB.size = 0 := EB_size
  have hs : Ev (fun k => snap_Save_2 k (H6 m a b m EB p)) (H6 m a b m p EB, 0, ()) := by
    have : Ev (fun k => file_Sync k (F m EB p)) (F m p EB, 0, ()) := Ev.all fun k => by
      rw [Sync_ok k m EB p (by omega) (by omega), show okF m EB p = true from decide_eq_true ⟨h1, h2, by omega⟩, E_app]; rfl
    exact Ev.bind this (Ev.now _)
  exact Ev.step (Ev.dt c0 (Ev.dt (by show (0 : Int) ≤ 1; omega) (Ev.dt c0 (Ev.f (bne_i (by show ¬ (1 : Int) = 0; omega)) (Ev.t (beq_i rfl) (Ev.bind hs (Ev.f rfl hR')))))))
theorem sv2 (h : 2 < N) (hR : Ev (fun k => snap_Save_l1 (H6 m a b m' c d) N (p, 0, ()) k (false, 0, 3, HZ, H6 m p EB m EB EB, ())) R) :
    Ev (fun k => snap_Save_l1 (H6 m a b m' c d) N (p, 0, ()) k (false, 0, 2, HZ, H6 m a b m p EB, ())) R := by
  have w : IntKind.i64.wrap ((2 : Int) + 1) = 3 := wrap_id (by omega) (by omega)
  have hR' : Ev (fun k => snap_Save_l1 (H6 m a b m' c d) N (p, 0, ()) k (false, 0, IntKind.i64.wrap ((2 : Int) + 1), HZ, H6 m p EB m EB EB, ())) R := by rw [w]; exact hR
  have c0 : (2 : Int) < (N.toNat : Int) := by omega
  exact Ev.step (Ev.dt c0 (Ev.dt (by show (0 : Int) ≤ 2; omega) (Ev.dt c0 (Ev.f (bne_i (by show ¬ (2 : Int) = 0; omega)) (Ev.f (bne_i (by show ¬ (2 : Int) = 0 + 1; omega)) (Ev.t (beq_i rfl) hR'))))))
theorem svN {x : HT} (h : 0 ≤ N) : Ev (fun k => snap_Save_l1 (H6 m a b m' c d) N (p, 0, ()) k (false, 0, N, HZ, x, ())) (.exit 0, false, 0, N, HZ, x, ()) :=
  Ev.step (Ev.df (by show ¬ N < (N.toNat : Int); omega) (Ev.now _))
theorem sv_all (h1 : 1 ≤ m) (h2 : m ≤ 4000) (hp : (p.size : Int) ≤ m) (hm : m' = m) (h0 : 0 ≤ N) (h3 : N ≤ 3) :
    Ev (fun k => snap_Save_l1 (H6 m a b m' c d) N (p, 0, ()) k (false, 0, 0, HZ, H6 m a b m' c d, ())) (.exit 0, false, 0, N, HZ, saveJ m a b m' c d p N, ()) := by
  obtain hN | hN | hN | hN : N = 0 ∨ N = 1 ∨ N = 2 ∨ N = 3 := by omega
  · subst hN; exact svN (by omega)
  · subst hN; exact sv0 h1 h2 hp (by omega) (svN (by omega)) hm
  · subst hN; exact sv0 h1 h2 hp (by omega) (sv1 h1 h2 hp (by omega) (svN (by omega))) hm
  · subst hN; exact sv0 h1 h2 hp (by omega) (sv1 h1 h2 hp (by omega) (sv2 (by omega) (svN (by omega)))) hm
theorem okH_bd (h : okH m a b m' c d = true) : okF m a b = true ∧ okF m' c d = true ∧ m' = m := by
  unfold okH at h
  cases g1 : okF m a b with
  | false => rw [g1] at h; cases h
  | true =>
    cases g2 : okF m' c d with
    | false => rw [g1, g2] at h; cases h
    | true =>
      rw [g1, g2] at h
      exact ⟨rfl, rfl, ((by simpa using h : m = m')).symm⟩
theorem PicA_eta (n : Int) (L : List (List UInt8)) (h : (PicA n L).2.1 = 0) : PicA n L = ((PicA n L).1, 0, ()) := by
  exact Prod.ext rfl (Prod.ext h rfl)
theorem Save_both (sm : smallH a b c d) (n : Int) (L : List (List UInt8)) (hL : L.length ≤ 1000000) (D : Int) :
    Ev (fun k => snap_Save k (H6 m a b m' c d) n (L.map mkB) D) (saveA m a b m' c d n L D) ∧ Ev (fun k => ref16_Save k (H6 m a b m' c d) n (L.map mkB) D) (saveA m a b m' c d n L D) := by
  have i1 : Ev (fun k => snap_is k (H6 m a b m' c d)) (okH m a b m' c d, ()) := Ev.all fun k => isH_ok sm k
  have i2 : Ev (fun k => ref16_Is k (H6 m a b m' c d)) (okH m a b m' c d, ()) := Ev.all fun k => risH_ok sm k
  have p1 : Ev (fun k => snap_picture k n (L.map mkB)) (PicA n L) := Ev.all fun k => Pic_ok k n L hL
  have p2 := rPic_ok n L hL
  unfold saveA
  cases g : okH m a b m' c d with
  | false =>
    rw [g] at i1 i2
    exact ⟨Ev.bind i1 (Ev.t rfl (Ev.now _)), Ev.bind i2 (Ev.t rfl (Ev.now _))⟩
  | true =>
    obtain ⟨g1, g2, rfl⟩ := okH_bd g
    have b1 := okF_bd g1
    rw [g] at i1 i2
    rw [cond_true]
    by_cases he : (PicA n L).2.1 = 0
    · rw [if_neg (by omega)]
      have eta := PicA_eta n L he
      obtain ⟨p, hp⟩ : ∃ p, (PicA n L).1 = p := ⟨_, rfl⟩
      rw [hp] at eta ⊢
      rw [eta] at p1 p2
      by_cases hsz : (p.size : Int) > m'
      · rw [if_pos hsz]
        exact ⟨Ev.bind i1 (Ev.f rfl (Ev.bind p1 (Ev.f rfl (Ev.dt hsz (Ev.now _))))), Ev.bind i2 (Ev.f rfl (Ev.bind p2 (Ev.f rfl (Ev.dt hsz (Ev.now _)))))⟩
      · rw [if_neg hsz]
        constructor
        · refine Ev.bind i1 (Ev.f rfl (Ev.bind p1 (Ev.f rfl (Ev.df hsz ?_))))
          by_cases d1 : D < 0
          · have hn : nrm D = 3 := if_pos (.inl d1)
            rw [hn]
            have := sv_all (a := a) (b := b) (c := c) (d := d) (p := p) (N := 3) b1.1 b1.2.1 (by omega) rfl (by omega) (by omega)
            exact Ev.dt d1 (Ev.bind this (Ev.t rfl (Ev.now _)))
          · by_cases d2 : D > 3
            · have hn : nrm D = 3 := if_pos (.inr d2)
              rw [hn]
              have := sv_all (a := a) (b := b) (c := c) (d := d) (p := p) (N := 3) b1.1 b1.2.1 (by omega) rfl (by omega) (by omega)
              exact Ev.df d1 (Ev.dt d2 (Ev.bind this (Ev.t rfl (Ev.now _))))
            · have hn : nrm D = D := if_neg (by omega)
              rw [hn]
              have := sv_all (a := a) (b := b) (c := c) (d := d) (N := D) b1.1 b1.2.1 (show (p.size : Int) ≤ m' by omega) rfl (by omega) (by omega)
              exact Ev.df d1 (Ev.df d2 (Ev.dt (by show (0 : Int) ≤ D; omega) (Ev.dt (by show D ≤ 3; omega) (Ev.bind this (Ev.t rfl (Ev.now _))))))
        · refine Ev.bind i2 (Ev.f rfl (Ev.bind p2 (Ev.f rfl (Ev.df hsz ?_))))
          by_cases d0 : D = 0
          · subst d0; exact Ev.t (beq_i rfl) (Ev.now _)
          refine Ev.f (bne_i d0) ?_
          by_cases d1 : D = 1
          · subst d1; exact Ev.t (beq_i rfl) (Ev.now _)
          refine Ev.f (bne_i d1) ?_
          by_cases d2 : D = 2
          · subst d2; exact Ev.t (beq_i rfl) (Ev.now _)
          refine Ev.f (bne_i d2) ?_
          have hn : nrm D = 3 := by unfold nrm; split <;> omega
          rw [hn]; exact Ev.now _
    · rw [if_pos he]
      exact ⟨Ev.bind i1 (Ev.f rfl (Ev.bind p1 (Ev.t (nbne_i he) (Ev.now _)))), Ev.bind i2 (Ev.f rfl (Ev.bind p2 (Ev.t (nbne_i he) (Ev.now _))))⟩
/-- What a crash makes of a shelf. -/
def crashH (m : Int) (a b : ByteArray) (m' : Int) (c d : ByteArray) (x : Int) : HT × Int × Unit := bif okH m a b m' c d then (H6 m (a ++ b.extract 0 (leftN x b.size)) EB m' (c ++ d.extract 0 (leftN x d.size)) EB, 0, ()) else (HZ, 1, ())
theorem CrashH_both (sm : smallH a b c d) (x : Int) : Ev (fun k => snap_Crash k (H6 m a b m' c d) x) (crashH m a b m' c d x) ∧ Ev (fun k => ref16_Crash k (H6 m a b m' c d) x) (crashH m a b m' c d x) := by
  have s1 := sm.a; have s2 := sm.b; have s3 := sm.c; have s4 := sm.d
  have i1 : Ev (fun k => snap_is k (H6 m a b m' c d)) (okH m a b m' c d, ()) := Ev.all fun k => isH_ok sm k
  have i2 : Ev (fun k => ref16_Is k (H6 m a b m' c d)) (okH m a b m' c d, ()) := Ev.all fun k => risH_ok sm k
  unfold crashH
  cases g : okH m a b m' c d with
  | false =>
    rw [g] at i1 i2
    exact ⟨Ev.bind i1 (Ev.t rfl (Ev.now _)), Ev.bind i2 (Ev.t rfl (Ev.now _))⟩
  | true =>
    obtain ⟨g1, g2, _⟩ := okH_bd g
    rw [g] at i1 i2
    have c1 : Ev (fun k => file_Crash k (F m a b) x) (F m (a ++ b.extract 0 (leftN x b.size)) EB, 0, ()) := Ev.all fun k => by rw [Crash_ok k m a b (by omega) (by omega), crashF, g1]; rfl
    have c2 : Ev (fun k => file_Crash k (F m' c d) x) (F m' (c ++ d.extract 0 (leftN x d.size)) EB, 0, ()) := Ev.all fun k => by rw [Crash_ok k m' c d (by omega) (by omega), crashF, g2]; rfl
    have e1 : Ev (fun k => ref12_Crash k (F m a b) x) (F m (a ++ b.extract 0 (leftN x b.size)) EB, 0, ()) := Ev.all fun k => by rw [rCrash_ok k m a b (by omega) (by omega), crashF, g1]; rfl
    have e2 : Ev (fun k => ref12_Crash k (F m' c d) x) (F m' (c ++ d.extract 0 (leftN x d.size)) EB, 0, ()) := Ev.all fun k => by rw [rCrash_ok k m' c d (by omega) (by omega), crashF, g2]; rfl
    exact ⟨Ev.bind i1 (Ev.f rfl (Ev.bind c1 (Ev.bind c2 (Ev.now _)))), Ev.bind i2 (Ev.f rfl (Ev.bind e1 (Ev.bind e2 (Ev.now _))))⟩
theorem rBigH_ok (k : Nat) : ref16_Big k (H6 m a b m' c d) = some (decide (a.size > 2000 ∨ b.size > 2000 ∨ c.size > 2000 ∨ d.size > 2000), ()) := by
  unfold ref16_Big
  show (ref12_Big k (F m a b)).bind _ = _
  rw [rBig_ok]
  by_cases h : a.size > 2000 ∨ b.size > 2000
  · rw [decide_eq_true h, decide_eq_true (by omega)]; rfl
  · rw [decide_eq_false h]
    show (ref12_Big k (F m' c d)).bind _ = _
    rw [rBig_ok]
    show some (decide (c.size > 2000 ∨ d.size > 2000), ()) = _
    congr 2
    rw [decide_eq_decide]; omega
theorem hfar_l (l : List ByteArray) (hl : l.length ≤ 110) (dd : Nat) : ∀ i : Nat, i + dd = l.length → (∃ i', Ev (fun k => law16_far_l1 l k (false, (i : Int), ())) (.exit 0, false, i', ())) ∨ ∃ i', Ev (fun k => law16_far_l1 l k (false, (i : Int), ())) (.ret, true, i', ()) := by
  induction dd with
  | zero =>
    intro i hi
    obtain rfl : i = l.length := by omega
    exact .inl ⟨_, Ev.step (Ev.df (by show ¬ (l.length : Int) < l.length; omega) (Ev.now _))⟩
  | succ dd ih =>
    intro i hi
    have c0 : (i : Int) < (l.length : Int) := by omega
    have c1 : (0 : Int) ≤ (i : Int) := by omega
    have c2 : (l.length : Int) ≤ 110 := by omega
    have ih := ih (i + 1) (by omega)
    rw [← wrap_succ (by omega)] at ih
    by_cases g : ((l.getD (Int.toNat (i : Int)) Ty.str.zero).size : Int) > 300
    · exact .inr ⟨_, Ev.step (Ev.dt c0 (Ev.dt c2 (Ev.dt c1 (Ev.dt c0 (Ev.dt g (Ev.now _))))))⟩
    · rcases ih with ⟨i', h⟩ | ⟨i', h⟩
      · exact .inl ⟨i', Ev.step (Ev.dt c0 (Ev.dt c2 (Ev.dt c1 (Ev.dt c0 (Ev.df g h)))))⟩
      · exact .inr ⟨i', Ev.step (Ev.dt c0 (Ev.dt c2 (Ev.dt c1 (Ev.dt c0 (Ev.df g h)))))⟩
theorem hfar_ok (l : List ByteArray) : ∃ x, Ev (fun k => law16_far k (H6 m a b m' c d) l) (x, ()) ∧ (x = false → smallH a b c d ∧ a.size ≤ 2000 ∧ b.size ≤ 2000 ∧ c.size ≤ 2000 ∧ d.size ≤ 2000 ∧ l.length ≤ 110) := by
  have big : Ev (fun k => ref16_Big k (H6 m a b m' c d)) (decide (a.size > 2000 ∨ b.size > 2000 ∨ c.size > 2000 ∨ d.size > 2000), ()) := Ev.all fun k => rBigH_ok k
  have fin : ∀ i', Ev (fun k => law16_far_l1 l k (false, 0, ())) (.exit 0, false, i', ()) → ∃ x, Ev (fun k => law16_far k (H6 m a b m' c d) l) (x, ()) ∧ (x = false → smallH a b c d ∧ a.size ≤ 2000 ∧ b.size ≤ 2000 ∧ c.size ≤ 2000 ∧ d.size ≤ 2000 ∧ l.length ≤ 110) := by
    intro i' h
    cases g : decide (a.size > 2000 ∨ b.size > 2000 ∨ c.size > 2000 ∨ d.size > 2000) with
    | true => rw [g] at big; exact ⟨true, Ev.bind h (Ev.t rfl (Ev.bind big (Ev.t rfl (Ev.now _)))), fun h => by cases h⟩
    | false =>
      rw [g] at big
      have g' := of_decide_eq_false g
      exact ⟨decide ((l.length : Int) > 110), Ev.bind h (Ev.t rfl (Ev.bind big (Ev.f rfl (Ev.now _)))), fun h => ⟨⟨by omega, by omega, by omega, by omega⟩, by omega, by omega, by omega, by omega, by have := of_decide_eq_false h; omega⟩⟩
  by_cases hl : l.length ≤ 110
  · rcases hfar_l l hl l.length 0 (by omega) with ⟨i', h⟩ | ⟨i', h⟩
    · exact fin i' h
    · exact ⟨true, Ev.bind h (Ev.now _), fun h => by cases h⟩
  · exact fin 0 (Ev.step (Ev.dt (by show (0 : Int) < (l.length : Int); omega) (Ev.df (by show ¬ (l.length : Int) ≤ 110; omega) (Ev.now _))))
end
def newH (m : Int) : HT × Int × Unit := bif decide (1 ≤ m ∧ m ≤ 4000) then (H6 m EB EB m EB EB, 0, ()) else (HZ, 1, ())
theorem NewH_both (m : Int) : Ev (fun k => snap_New k m) (newH m) ∧ Ev (fun k => ref16_New k m) (newH m) := by
  have h1 : Ev (fun k => file_New k m) (newF m) := Ev.all fun k => New_ok k m
  have h2 : Ev (fun k => ref12_New k m) (newF m) := Ev.all fun k => rNew_ok k m
  unfold newF at h1 h2
  unfold newH
  cases g : decide (1 ≤ m ∧ m ≤ 4000) with
  | true => rw [g] at h1 h2; exact ⟨Ev.bind h1 (Ev.now _), Ev.bind h2 (Ev.f rfl (Ev.now _))⟩
  | false => rw [g] at h1 h2; exact ⟨Ev.bind h1 (Ev.now _), Ev.bind h2 (Ev.t rfl (Ev.now _))⟩
theorem OwnT_ok (l : List ByteArray) (h : l.length ≤ 1000000) : Ev (fun k => ref01_OwnTexts k l) (l, ()) := by
  cases l with
  | nil => exact Ev.t rfl (Ev.now _)
  | cons y l => exact Ev.f rfl (Ev.dt (by show (y :: l).length * 16 ≤ _; omega) (Ev.now _))
theorem same6 (x : HT) : (x.1 == x.1 && (x.2.1.toList == x.2.1.toList && (x.2.2.1.toList == x.2.2.1.toList && true)) && (x.2.2.2.1 == x.2.2.2.1 && (x.2.2.2.2.1.toList == x.2.2.2.2.1.toList && (x.2.2.2.2.2.1.toList == x.2.2.2.2.2.1.toList && true)) && true)) = true := by simp
theorem same3 (x : FT) : (x.1 == x.1 && (x.2.1.toList == x.2.1.toList && (x.2.2.1.toList == x.2.2.1.toList && true))) = true := by simp
theorem load_len {l : List UInt8} {o : Option (Int × List (List UInt8))} (h : TellIs l o) (ok : Bool) : (loadH ok o).2.1.length ≤ 1000000 := by
  cases ok with
  | false => simp [loadH]
  | true =>
    cases o with
    | none => simp [loadH, loadO]
    | some p => have := h.2.2.1; simp [loadH, loadO]; omega
theorem tell_ex (l : List UInt8) (hl : l.length ≤ 1000000) : ∃ o, TellIs l o := let ⟨o, h, _⟩ := tell_both l hl; ⟨o, h⟩
theorem saveA_cases (m : Int) (a b : ByteArray) (m' : Int) (c d : ByteArray) (n : Int) (L : List (List UInt8)) (D : Int) :
    (okH m a b m' c d = true ∧ ∃ l, PicIs l n L ∧ (l.length : Int) ≤ m ∧ saveA m a b m' c d n L D = (saveJ m a b m' c d (mkB l) (nrm D), nrm D == 3, 0, ())) ∨ ∃ e, e ≠ 0 ∧ saveA m a b m' c d n L D = (HZ, false, e, ()) := by
  unfold saveA
  cases g : okH m a b m' c d with
  | false => exact .inr ⟨1, by decide, rfl⟩
  | true =>
    rw [cond_true]
    by_cases he : (PicA n L).2.1 = 0
    · obtain ⟨l, e, hl⟩ := PicA_is he
      rw [if_neg (by omega), e]
      by_cases hz : ((mkB l).size : Int) > m
      · exact .inr ⟨81, by decide, by rw [if_pos hz]⟩
      · rw [if_neg hz]
        rw [mkB_size] at hz
        exact .inl ⟨rfl, l, hl, by omega, rfl⟩
    · exact .inr ⟨_, he, by rw [if_pos he]⟩
theorem ok_two {m : Int} {x y z w : ByteArray} (h1 : 1 ≤ m) (h2 : m ≤ 4000) (h3 : ((x.size + y.size : Nat) : Int) ≤ m) (h4 : ((z.size + w.size : Nat) : Int) ≤ m) : okH m x y m z w = true ∧ smallH x y z w := by
  refine ⟨?_, ⟨by omega, by omega, by omega, by omega⟩⟩
  unfold okH
  rw [show okF m x y = true from decide_eq_true ⟨h1, h2, h3⟩, show okF m z w = true from decide_eq_true ⟨h1, h2, h4⟩]
  simp
theorem saveJ_ok {m : Int} {a b : ByteArray} {m' : Int} {c d p : ByteArray} (h : okH m a b m' c d = true) (hp : (p.size : Int) ≤ m) {J : Int} (h0 : 0 ≤ J) (h3 : J ≤ 3) :
    ∃ x y z w, saveJ m a b m' c d p J = H6 m x y m z w ∧ okH m x y m z w = true ∧ smallH x y z w ∧ ((x.size + y.size : Nat) : Int) ≤ m ∧ ((z.size + w.size : Nat) : Int) ≤ m ∧ 1 ≤ m ∧ m ≤ 4000 ∧ (J ≠ 3 → x = a ∧ y = b) ∧ (J = 3 → x = p ∧ y = EB ∧ z = EB ∧ w = EB) := by
  obtain ⟨g1, g2, rfl⟩ := okH_bd h
  have b1 := okF_bd g1
  have b2 := okF_bd g2
  have hE : EB.size = 0 := EB_size
  obtain hN | hN | hN | hN : J = 0 ∨ J = 1 ∨ J = 2 ∨ J = 3 := by omega
  · subst hN; have k := ok_two b1.1 b1.2.1 b1.2.2 b2.2.2
    exact ⟨a, b, c, d, rfl, k.1, k.2, b1.2.2, b2.2.2, b1.1, b1.2.1, fun _ => ⟨rfl, rfl⟩, fun h => by omega⟩
  · subst hN; have k := ok_two (z := EB) (w := p) b1.1 b1.2.1 b1.2.2 (by omega)
    exact ⟨a, b, EB, p, rfl, k.1, k.2, b1.2.2, by omega, b1.1, b1.2.1, fun _ => ⟨rfl, rfl⟩, fun h => by omega⟩
  · subst hN; have k := ok_two (z := p) (w := EB) b1.1 b1.2.1 b1.2.2 (by omega)
    exact ⟨a, b, p, EB, rfl, k.1, k.2, b1.2.2, by omega, b1.1, b1.2.1, fun _ => ⟨rfl, rfl⟩, fun h => by omega⟩
  · subst hN; have k := ok_two (m := m') (x := p) (y := EB) (z := EB) (w := EB) b1.1 b1.2.1 (by omega) (by omega)
    exact ⟨p, EB, EB, EB, rfl, k.1, k.2, by omega, by omega, b1.1, b1.2.1, fun h => absurd rfl h, fun _ => ⟨rfl, rfl, rfl, rfl⟩⟩
theorem crash_ok {m : Int} {x y z w : ByteArray} (h : okH m x y m z w = true) (t : Int) : ∃ x' z', crashH m x y m z w t = (H6 m x' EB m z' EB, 0, ()) ∧ okH m x' EB m z' EB = true ∧ smallH x' EB z' EB ∧ x' = x ++ y.extract 0 (leftN t y.size) := by
  obtain ⟨g1, g2, _⟩ := okH_bd h
  have b1 := okF_bd g1
  have b2 := okF_bd g2
  have hE : EB.size = 0 := EB_size
  have e1 := ByteArray.size_append (a := x) (b := y.extract 0 (leftN t y.size))
  have e2 := ByteArray.size_append (a := z) (b := w.extract 0 (leftN t w.size))
  have e3 : (y.extract 0 (leftN t y.size)).size ≤ y.size := by rw [ByteArray.size_extract]; omega
  have e4 : (w.extract 0 (leftN t w.size)).size ≤ w.size := by rw [ByteArray.size_extract]; omega
  have k := ok_two (m := m) (x := x ++ y.extract 0 (leftN t y.size)) (y := EB) (z := z ++ w.extract 0 (leftN t w.size)) (w := EB) b1.1 b1.2.1 (by omega) (by omega)
  exact ⟨_, _, by unfold crashH; rw [h]; rfl, k.1, k.2, rfl⟩
theorem small_Z : smallH EB EB EB EB := by have hE : EB.size = 0 := EB_size; exact ⟨by omega, by omega, by omega, by omega⟩
theorem okZ : okH 0 EB EB 0 EB EB = false := by unfold okH okF; simp
end Go.Proofs.Ythgeadmcliiaoaa.A
