/- Files: what the program's and the reference's functions answer, in plain words. -/
import Derived.Test.YtaadndikbecdbaaQx3
import Derived.Test.YtaadndikbecdbaaQx4
import Derived.Test.YtaadndikbecdbaaQx5
import Derived.Test.YtaadndikbecdbaaQx5
import Derived.Test.YtaadndikbecdbaaQx6
import Derived.Test.YtaadndikbecdbaaQx5
import Derived.Test.YtaadndikbecdbaaQx5
import Derived.Test.YtaadndikbecdbaaQx6
import Derived.Test.YtaadndikbecdbaaQx6
import Derived.Test.YtaadndikbecdbaaQx6
import Derived.Test.YtaadndikbecdbaaQx6
import Derived.Test.YtaadndikbecdbaaQx6
import Derived.Test.YtaadndikbecdbaaQx2
import Derived.Test.YtaadndikbecdbaaQx6
import Derived.KernelRfl
import Derived.Test.YtaadndikbecdbaaPlain
set_option linter.unusedVariables false
set_option linter.unusedSimpArgs false
namespace Go.Proofs.Ytaadndikbecdbaa.Q
open Go.RowKit Go.Proofs.YtaadndikbecdbaaW.PrintWords Go.Proofs.YtaadndikbecdbaaW.PrintLast

theorem wrap64_of {n : Int} (h0 : -9223372036854775808 ≤ n) (h1 : n ≤ 9223372036854775807) : wrap64 n = n := by unfold wrap64; omega
theorem i64_wf {a : Int} (h : (Lit.int .i64 a).wf = true) : -9223372036854775808 ≤ a ∧ a ≤ 9223372036854775807 := by
  have h2 := h
  simp only [Lit.wf, Bool.and_eq_true, decide_eq_true_eq] at h2
  have e1 : IntKind.i64.min = -9223372036854775808 := rfl
  have e2 : IntKind.i64.max = 9223372036854775807 := rfl
  omega
theorem bytes_append (a b : ByteArray) : (a ++ b).data.toList = a.data.toList ++ b.data.toList := by rw [ByteArray.data_append, Array.toList_append]
theorem bytes_extract (a : ByteArray) (i j : Nat) : (a.extract i j).data.toList = (a.data.toList.take j).drop i := by
  rw [ByteArray.data_extract, Array.toList_extract, List.extract_eq_take_drop, List.drop_take]
theorem size_toList (a : ByteArray) : a.data.toList.length = a.size := by rw [Array.length_toList]; rfl
theorem bytes_inj {a b : ByteArray} (h : a.data.toList = b.data.toList) : a = b := by
  cases a; cases b; congr 1; exact Array.toList_inj.1 h
abbrev EB : ByteArray := ⟨#[]⟩
theorem EB_size : EB.size = 0 := rfl
theorem app_E (s : ByteArray) : s ++ EB = s := bytes_inj (by rw [bytes_append]; simp)
theorem E_app (s : ByteArray) : EB ++ s = s := bytes_inj (by rw [bytes_append]; simp)
theorem app_assoc (a b c : ByteArray) : a ++ b ++ c = a ++ (b ++ c) := bytes_inj (by simp only [bytes_append, List.append_assoc])

/-- All texts, one behind the other. -/
def cat (l : List ByteArray) : ByteArray := ⟨(l.flatMap (·.data.toList)).toArray⟩
theorem cat_bytes (l : List ByteArray) : (cat l).data.toList = l.flatMap (·.data.toList) := by simp [cat]
theorem cat_nil : cat [] = EB := rfl
theorem cat_cons (a : ByteArray) (l : List ByteArray) : cat (a :: l) = a ++ cat l := bytes_inj (by rw [bytes_append, cat_bytes, cat_bytes]; rfl)
theorem cat_append (l m : List ByteArray) : cat (l ++ m) = cat l ++ cat m := bytes_inj (by rw [bytes_append, cat_bytes, cat_bytes, cat_bytes, List.flatMap_append])
theorem cat_one (a : ByteArray) : cat [a] = a := by rw [cat_cons, cat_nil, app_E]
theorem cat_take_succ (l : List ByteArray) (i : Nat) (h : i < l.length) : cat (l.take (i + 1)) = cat (l.take i) ++ l[i] := by
  rw [List.take_succ_eq_append_getElem h, cat_append, cat_one]
theorem cat_take_le (l : List ByteArray) (i : Nat) : (cat (l.take i)).size ≤ (cat l).size := by
  conv => rhs; rw [← List.take_append_drop i l, cat_append, ByteArray.size_append]
  omega
theorem cat_size_le (l : List ByteArray) (m : Nat) (h : ∀ x ∈ l, x.size ≤ m) : (cat l).size ≤ m * l.length := by
  induction l with
  | nil => simp [cat_nil, EB_size]
  | cons a l ih =>
    rw [cat_cons, ByteArray.size_append, List.length_cons, Nat.mul_succ]
    have := h a (by simp); have := ih (fun x hx => h x (by simp [hx])); omega
theorem join_bytes (l : List ByteArray) : Lib.join (l.map (·.data.toList)) (EB).data.toList = l.flatMap (·.data.toList) := by
  unfold Lib.join
  show List.intercalate [] _ = _
  have : ∀ xs : List (List UInt8), List.intercalate [] xs = xs.flatten := by
    intro xs
    induction xs with
    | nil => rfl
    | cons a xs ih => cases xs <;> simp_all [List.intercalate, List.intersperse]
  rw [this, List.flatMap_def]
theorem Join_ok (l : List ByteArray) (h0 : l.length ≤ 140737488355328) (h1 : (cat l).size ≤ 140737488355328) : strings_Join.f l EB = some (cat l) := by
  unfold strings_Join.f joinOf
  rw [join_bytes, if_pos ⟨h0, by rw [← cat_bytes, size_toList]; exact h1⟩]
  rfl

/-- Is a file right? -/
def okF (m : Int) (s t : ByteArray) : Bool := decide (1 ≤ m ∧ m ≤ 4000 ∧ ((s.size + t.size : Nat) : Int) ≤ m)
/-- A file, or an error. -/
def resF (b : Bool) (e : Int) (m : Int) (s t : ByteArray) : Int × ByteArray × ByteArray × Int := if b then (m, s, t, 0) else (0, EB, EB, e)

section
variable {m : Int} {s t : ByteArray} (hs : s.size ≤ 1000000000000) (ht : t.size ≤ 1000000000000)
include hs ht
theorem all_ok : file_bytes_all.f m s t = some (s ++ t) := by unfold file_bytes_all.f; rw [if_pos (by omega)]
theorem may_ok : file_bytes_may.f m s t = some (okF m s t) := by
  unfold file_bytes_may.f
  by_cases h1 : m ≥ 1
  · rw [if_pos h1]
    by_cases h2 : m ≤ 4000
    · rw [if_pos h2, all_ok hs ht]
      simp only [Option.bind_some, ByteArray.size_append, okF]
      congr 1
      simp only [decide_eq_decide]
      omega
    · rw [if_neg h2]; unfold okF; rw [decide_eq_false (by omega)]
  · rw [if_neg h1]; unfold okF; rw [decide_eq_false (by omega)]
theorem refIs_ok : watchmanref12_Is.f m s t = some (okF m s t) := by
  unfold watchmanref12_Is.f
  by_cases h1 : m ≥ 1
  · rw [if_pos h1]
    by_cases h2 : m ≤ 4000
    · rw [if_pos h2, wrap64_of (by omega) (by omega)]
      unfold okF
      congr 1
      simp only [decide_eq_decide]
      omega
    · rw [if_neg h2]; unfold okF; rw [decide_eq_false (by omega)]
  · rw [if_neg h1]; unfold okF; rw [decide_eq_false (by omega)]
theorem Is_ok : file_Is.f m s t = some (okF m s t) := by unfold file_Is.f; rw [may_ok hs ht]; rfl
theorem Read_ok : file_Read.f m s t = some (s ++ t) := by unfold file_Read.f; rw [all_ok hs ht]; rfl
theorem refRead_ok : watchmanref12_Read.f m s t = some (s ++ t) := by unfold watchmanref12_Read.f; rw [if_pos (by omega)]
theorem right_ok : file_right.f m s t = some (resF (okF m s t) 1 m s t) := by
  unfold file_right.f
  rw [may_ok hs ht]
  cases h : okF m s t <;> simp [resF]
omit hs ht in
theorem okF_le (h : okF m s t = true) : 1 ≤ m ∧ m ≤ 4000 ∧ ((s.size + t.size : Nat) : Int) ≤ m := of_decide_eq_true h
theorem Add_ok (l : List ByteArray) (h0 : l.length ≤ 140737488355328) (h1 : (cat l).size ≤ 100000000000000) :
    file_Add.f m s t l = some (if okF m s t then resF (okF m s (t ++ cat l)) 81 m s (t ++ cat l) else (0, EB, EB, 1)) := by
  unfold file_Add.f
  rw [right_ok hs ht]
  cases h : okF m s t
  · simp [resF]
  · have hm := okF_le h
    have h4 : file_bytes_may.f m s (t ++ cat l) = some (okF m s (t ++ cat l)) := by
      unfold file_bytes_may.f
      rw [if_pos (by omega), if_pos (by omega)]
      unfold file_bytes_all.f
      rw [ByteArray.size_append, if_pos (by omega)]
      simp only [Option.bind_some, ByteArray.size_append, okF]
      congr 1
      simp only [decide_eq_decide]
      omega
    simp only [Option.bind_some, resF, if_true, Join_ok l h0 (by omega)]
    rw [if_pos (by omega), h4]
    cases okF m s (t ++ cat l) <;> simp
theorem Sync_ok : file_Sync.f m s t = some (resF (okF m s t) 1 m (s ++ t) EB) := by
  unfold file_Sync.f
  rw [right_ok hs ht]
  cases h : okF m s t
  · simp [resF]
  · simp only [Option.bind_some, resF, if_true, all_ok hs ht]
    unfold file_bytes_kept.f
    rw [all_ok hs ht]
    simp only [Option.bind_some]
    rw [if_pos (by omega), if_pos (by omega)]
    simp only [Option.bind_some]
    rw [show (s ++ t).extract 0 (((s ++ t).size : Int)).toNat = s ++ t from bytes_inj (by rw [bytes_extract, Int.toNat_natCast, List.drop_zero, List.take_of_length_le (by rw [size_toList]; omega)])]
theorem refSync_ok : watchmanref12_Sync.f m s t = some (resF (okF m s t) 1 m (s ++ t) EB) := by
  unfold watchmanref12_Sync.f
  rw [refIs_ok hs ht, refRead_ok hs ht]
  cases h : okF m s t <;> simp [resF]
/-- How many loose bytes a crash leaves. -/
def left_ (n : Int) (t : ByteArray) : Nat := (mn (mx n 0) (t.size : Int)).toNat
omit hs ht in
theorem left_le (n : Int) : mn (mx n 0) (t.size : Int) = ((left_ n t : Nat) : Int) ∧ left_ n t ≤ t.size := by
  unfold left_ mn mx
  split <;> split <;> omega
omit hs ht in
theorem cut_app (q : Nat) (hq : q ≤ t.size) : (s ++ t).extract 0 (s.size + q) = s ++ t.extract 0 q := bytes_inj (by
  simp only [bytes_extract, bytes_append, List.drop_zero]
  rw [List.take_append, List.take_of_length_le (by rw [size_toList]; omega), size_toList, Nat.add_sub_cancel_left])
theorem Crash_ok (n : Int) : file_Crash.f m s t n = some (resF (okF m s t) 1 m (s ++ t.extract 0 (left_ n t)) EB) := by
  unfold file_Crash.f
  rw [right_ok hs ht]
  have hl := left_le (t := t) n
  cases h : okF m s t
  · simp [resF]
  · simp only [Option.bind_some, resF, if_true, hl.1]
    unfold file_bytes_kept.f
    rw [all_ok hs ht, wrap64_of (by omega) (by omega)]
    simp only [Option.bind_some]
    rw [if_pos (by omega), if_pos (by rw [ByteArray.size_append]; omega)]
    simp only [Option.bind_some]
    rw [show ((s.size : Int) + ((left_ n t : Nat) : Int)).toNat = s.size + left_ n t by omega, cut_app _ hl.2]
theorem refCrash_ok (n : Int) : watchmanref12_Crash.f m s t n = some (resF (okF m s t) 1 m (s ++ t.extract 0 (left_ n t)) EB) := by
  unfold watchmanref12_Crash.f
  rw [refIs_ok hs ht]
  have hl := left_le (t := t) n
  cases h : okF m s t
  · simp [resF]
  · simp only [Option.bind_some, if_true, hl.1]
    rw [if_pos (by omega), if_pos (by omega), if_pos (by rw [ByteArray.size_extract]; omega)]
    simp [resF]
def cutF (m : Int) (s t : ByteArray) (n : Int) : Bool := okF m s t && decide (0 ≤ n) && decide (n ≤ ((s.size + t.size : Nat) : Int))
theorem Cut_ok (n : Int) : file_Cut.f m s t n = some (resF (cutF m s t n) 1 m ((s ++ t).extract 0 n.toNat) EB) := by
  unfold file_Cut.f
  rw [right_ok hs ht]
  cases h : okF m s t
  · simp [resF, cutF, h]
  · simp only [Option.bind_some, resF, if_true, cutF, h, Bool.true_and]
    by_cases h1 : n < 0
    · rw [if_pos h1, decide_eq_false (by omega)]; rfl
    · rw [if_neg h1, all_ok hs ht, decide_eq_true (by omega : 0 ≤ n)]
      simp only [Option.bind_some]
      by_cases h2 : n > ((s ++ t).size : Int)
      · rw [if_pos h2, decide_eq_false (by rw [ByteArray.size_append] at h2; omega)]; rfl
      · rw [if_neg h2, decide_eq_true (by rw [ByteArray.size_append] at h2; omega)]
        unfold file_bytes_kept.f
        rw [all_ok hs ht]
        simp only [Option.bind_some]
        rw [if_pos (by omega), if_pos (by omega)]
        rfl
theorem refCut_ok (n : Int) : watchmanref12_Cut.f m s t n = some (resF (cutF m s t n) 1 m ((s ++ t).extract 0 n.toNat) EB) := by
  unfold watchmanref12_Cut.f
  rw [refIs_ok hs ht]
  cases h : okF m s t
  · simp [resF, cutF, h]
  · simp only [Option.bind_some, resF, if_true, cutF, h, Bool.true_and]
    by_cases h1 : n < 0
    · rw [if_pos h1, decide_eq_false (by omega)]; rfl
    · rw [if_neg h1, refRead_ok hs ht, decide_eq_true (by omega : 0 ≤ n)]
      simp only [Option.bind_some]
      by_cases h2 : n > ((s ++ t).size : Int)
      · rw [if_pos h2, decide_eq_false (by rw [ByteArray.size_append] at h2; omega)]; rfl
      · rw [if_neg h2, decide_eq_true (by rw [ByteArray.size_append] at h2; omega)]
        rw [if_pos (by omega), if_pos (by omega)]
        rfl
end
theorem okF_mono {m : Int} {s t u : ByteArray} (h : okF m s (t ++ u) = true) : okF m s t = true := by
  have := okF_le h; rw [ByteArray.size_append] at this
  exact decide_eq_true (by omega)
theorem rd_at (l : List ByteArray) (i : Nat) (h : i < l.length) : rdOf ByteArray.empty l (i : Int) = l[i] := by
  unfold rdOf; rw [Int.toNat_natCast, List.getD_eq_getElem?_getD, List.getElem?_eq_getElem h]; rfl
theorem mem_at (l : List ByteArray) (i : Nat) (h : i < l.length) : l[i] ∈ l := List.getElem_mem h
theorem refAdd_loop {m : Int} {s : ByteArray} (t : ByteArray) (l : List ByteArray) (hl : l.length ≤ 1000000) (hx : ∀ x ∈ l, x.size ≤ 1000000) (d : Nat) : ∀ i : Nat, l.length - i = d → i ≤ l.length → okF m s (t ++ cat (l.take i)) = true →
    Ev (fun k => watchmanref12_Add.l0 k l (i : Int) m s (t ++ cat (l.take i))) (resF (okF m s (t ++ cat l)) 81 m s (t ++ cat l)) := by
  induction d with
  | zero =>
    intro i hd hi hk
    have e : i = l.length := by omega
    subst e
    rw [List.take_length] at hk ⊢
    refine Ev.step (f := fun _ => some (m, s, t ++ cat l, 0)) (fun k => ?_) ?_
    · rw [watchmanref12_Add.l0, if_neg (by omega)]
    · rw [hk]; exact Ev.now _
  | succ d ih =>
    intro i hd hi hk
    have hlt : i < l.length := by omega
    have hok := okF_le hk
    have hxi := hx _ (mem_at l i hlt)
    have hw : wrap64 (wrap64 ((s.size : Int) + ((t ++ cat (l.take i)).size : Int)) + (l[i].size : Int)) = ((s.size + (t ++ cat (l.take (i + 1))).size : Nat) : Int) := by
      rw [wrap64_of (n := (s.size : Int) + _) (by omega) (by omega), wrap64_of (by omega) (by omega), cat_take_succ l i hlt, ByteArray.size_append, ByteArray.size_append, ByteArray.size_append]
      omega
    by_cases hb : okF m s (t ++ cat (l.take (i + 1))) = true
    · have hb' := okF_le hb
      refine Ev.step (fun k => ?_) (ih (i + 1) (by omega) (by omega) hb)
      rw [watchmanref12_Add.l0, rd_at l i hlt, if_pos (by omega), if_pos (by omega), hw, if_neg (by omega), if_pos (by omega), wrap64_of (by omega) (by omega), app_assoc, ← cat_take_succ l i hlt]
      rfl
    · have hno : okF m s (t ++ cat l) = false := by
        cases h : okF m s (t ++ cat l)
        · rfl
        · refine absurd ?_ hb
          refine okF_mono (u := cat (l.drop (i + 1))) ?_
          rw [app_assoc, ← cat_append, List.take_append_drop]; exact h
      refine Ev.step (f := fun _ => some (0, EB, EB, 81)) (fun k => ?_) ?_
      · have hb' : ¬ (((s.size + (t ++ cat (l.take (i + 1))).size : Nat) : Int) ≤ m) := fun h => hb (decide_eq_true ⟨by omega, by omega, h⟩)
        rw [watchmanref12_Add.l0, rd_at l i hlt, if_pos (by omega), if_pos (by omega), hw, if_pos (by omega)]
      · rw [hno]; exact Ev.now _
theorem refAdd_ok {m : Int} {s t : ByteArray} (hs : s.size ≤ 1000000000000) (ht : t.size ≤ 1000000000000) (l : List ByteArray) (hl : l.length ≤ 1000000) (hx : ∀ x ∈ l, x.size ≤ 1000000) :
    Ev (fun k => watchmanref12_Add.f k m s t l) (if okF m s t then resF (okF m s (t ++ cat l)) 81 m s (t ++ cat l) else (0, EB, EB, 1)) := by
  cases h : okF m s t
  · refine Ev.congr (fun k => ?_) (Ev.now _)
    unfold watchmanref12_Add.f
    rw [refIs_ok hs ht, h]; rfl
  · have := refAdd_loop (m := m) (s := s) t l hl hx l.length 0 (by omega) (by omega) (by rw [List.take_zero, cat_nil, app_E]; exact h)
    rw [List.take_zero, cat_nil, app_E] at this
    refine Ev.congr (fun k => ?_) this
    unfold watchmanref12_Add.f
    rw [refIs_ok hs ht, h]; rfl
theorem New_eq (n : Int) : file_New.f n = watchmanref12_New.f n := rfl
theorem New_some (n : Int) : ∃ x, watchmanref12_New.f n = some x := by
  unfold watchmanref12_New.f
  split
  · exact ⟨_, rfl⟩
  · split <;> exact ⟨_, rfl⟩

/-- Texts that are not more than is looked at. -/
def nearL (l : List ByteArray) : Prop := l.length ≤ 60 ∧ ∀ x ∈ l, x.size ≤ 300
theorem Short_loop (l : List ByteArray) (hl : l.length ≤ 9223372036854775807) (d : Nat) : ∀ i : Nat, l.length - i = d → i ≤ l.length →
    ∃ b, Ev (fun k => watchmanref01_Short.l0 k l (i : Int)) b ∧ (b = true → l.length ≤ 60 ∧ ∀ x ∈ l.drop i, x.size ≤ 300) := by
  induction d with
  | zero =>
    intro i hd hi
    refine ⟨decide ((l.length : Int) ≤ 60), Ev.step (f := fun _ => some (decide ((l.length : Int) ≤ 60))) (fun k => ?_) (Ev.now _), fun h => ⟨by have := of_decide_eq_true h; omega, fun x hx => ?_⟩⟩
    · rw [watchmanref01_Short.l0, if_neg (by omega)]
    · rw [List.drop_of_length_le (by omega)] at hx; simp at hx
  | succ d ih =>
    intro i hd hi
    have hlt : i < l.length := by omega
    by_cases hb : ((l[i].size : Nat) : Int) > 300
    · refine ⟨false, Ev.step (f := fun _ => some false) (fun k => ?_) (Ev.now _), fun h => by simp at h⟩
      rw [watchmanref01_Short.l0, rd_at l i hlt, if_pos (by omega), if_pos (by omega), if_pos hb]
    · obtain ⟨b, he, hi'⟩ := ih (i + 1) (by omega) (by omega)
      refine ⟨b, Ev.step (fun k => ?_) he, fun h => ⟨(hi' h).1, fun x hx => ?_⟩⟩
      · rw [watchmanref01_Short.l0, rd_at l i hlt, if_pos (by omega), if_pos (by omega), if_neg hb, wrap64_of (by omega) (by omega)]
        rfl
      · rw [List.drop_eq_getElem_cons hlt] at hx
        rcases List.mem_cons.1 hx with rfl | hx
        · omega
        · exact (hi' h).2 x hx
theorem far_ok (l : List ByteArray) (hl : l.length ≤ 9223372036854775807) : ∃ b, Ev (fun k => watchmanlaw12_far.f k l) b ∧ (b = false → nearL l) := by
  obtain ⟨b, he, hb⟩ := Short_loop l hl l.length 0 (by omega) (by omega)
  refine ⟨!b, ?_, fun h => hb (by simpa using h)⟩
  unfold watchmanlaw12_far.f watchmanref01_Short.f
  exact Ev.bind (f := fun _ t => some (!t)) he (Ev.now _)
theorem cat_near {l : List ByteArray} (h : nearL l) : (cat l).size ≤ 18000 := by
  have := cat_size_le l 300 h.2
  have := h.1
  omega
theorem Own_ok (l : List ByteArray) (h : l.length ≤ 1000000) : watchmanref01_OwnTexts.f l = some l := by
  unfold watchmanref01_OwnTexts.f
  rw [if_pos (by simp; omega)]; rfl
theorem Texts_loop (l : List ByteArray) (hl : l.length ≤ 1000000) (d : Nat) : ∀ i : Nat, l.length - i = d → i ≤ l.length → Ev (fun k => watchmanref01_Texts.l0 k l l (i : Int)) true := by
  induction d with
  | zero =>
    intro i hd hi
    refine Ev.step (f := fun _ => some true) (fun k => ?_) (Ev.now _)
    rw [watchmanref01_Texts.l0, if_neg (by omega)]
  | succ d ih =>
    intro i hd hi
    refine Ev.step (fun k => ?_) (ih (i + 1) (by omega) (by omega))
    rw [watchmanref01_Texts.l0, if_pos (by omega), if_pos (by omega), if_pos (by omega), if_pos rfl, wrap64_of (by omega) (by omega)]
    rfl
theorem Texts_ok (l : List ByteArray) (hl : l.length ≤ 1000000) : Ev (fun k => watchmanref01_Texts.f k l l) true := by
  refine Ev.congr (fun k => ?_) (Texts_loop l hl l.length 0 (by omega) (by omega))
  unfold watchmanref01_Texts.f; rw [if_pos rfl]; rfl
/-- Is a file more than is looked at? -/
theorem Big_ok (m : Int) (s t : ByteArray) : ∃ b, watchmanref12_Big.f m s t = some b ∧ (b = false → s.size ≤ 2000 ∧ t.size ≤ 2000) := by
  unfold watchmanref12_Big.f
  by_cases h : (s.size : Int) > 2000
  · exact ⟨true, if_pos h, fun h => by simp at h⟩
  · exact ⟨_, if_neg h, fun h2 => by have := of_decide_eq_false h2; omega⟩
/-! What a right file's calls answer. -/
section
variable {m : Int} {s t : ByteArray} (h : okF m s t = true)
include h
theorem okF_size : s.size ≤ 4000 ∧ t.size ≤ 4000 ∧ 1 ≤ m ∧ m ≤ 4000 ∧ ((s.size + t.size : Nat) : Int) ≤ m := by have := okF_le h; omega
theorem Is_t : file_Is.f m s t = some true := by have := okF_size h; rw [Is_ok (by omega) (by omega), h]
theorem Read_t : file_Read.f m s t = some (s ++ t) := by have := okF_size h; rw [Read_ok (by omega) (by omega)]
theorem Sync_t : file_Sync.f m s t = some (m, s ++ t, EB, 0) := by have := okF_size h; rw [Sync_ok (by omega) (by omega), h]; rfl
theorem Crash_t (n : Int) : file_Crash.f m s t n = some (m, s ++ t.extract 0 (left_ n t), EB, 0) := by have := okF_size h; rw [Crash_ok (by omega) (by omega), h]; rfl
theorem Cut_t (n : Int) (h0 : 0 ≤ n) (h1 : n ≤ ((s.size + t.size : Nat) : Int)) : file_Cut.f m s t n = some (m, (s ++ t).extract 0 n.toNat, EB, 0) := by
  have := okF_size h; rw [Cut_ok (by omega) (by omega), show cutF m s t n = true by unfold cutF; rw [h, decide_eq_true h0, decide_eq_true h1]; rfl]; rfl
theorem okF_sync : okF m (s ++ t) EB = true := by have := okF_size h; exact decide_eq_true (by rw [ByteArray.size_append, EB_size]; omega)
theorem okF_crash (q : Nat) : okF m (s ++ t.extract 0 q) EB = true := by have := okF_size h; exact decide_eq_true (by rw [ByteArray.size_append, EB_size, ByteArray.size_extract]; omega)
end
theorem extract_all (s : ByteArray) (n : Nat) (h : s.size ≤ n) : s.extract 0 n = s := bytes_inj (by rw [bytes_extract, List.drop_zero, List.take_of_length_le (by rw [size_toList]; omega)])
theorem extract_E (n : Nat) : EB.extract 0 n = EB := extract_all _ _ (by rw [EB_size]; omega)
theorem extract_head (s t : ByteArray) (n : Nat) (h : n ≤ s.size) : (s ++ t).extract 0 n = s.extract 0 n := bytes_inj (by
  simp only [bytes_extract, bytes_append, List.drop_zero]
  rw [List.take_append, show n - s.data.toList.length = 0 by rw [size_toList]; omega, List.take_zero, List.append_nil])
theorem extract_size (s : ByteArray) (n : Nat) (h : n ≤ s.size) : (s.extract 0 n).size = n := by rw [ByteArray.size_extract]; omega
theorem eq3 (a : Int) (b c : ByteArray) : (a == a && (b.toList == b.toList && (c.toList == c.toList))) = true := by simp
theorem E_toList : EB.toList = [] := by rw [toList_data]
theorem filed_ok : watchmanlaw12_filed.f = some true := by kernel_rfl
end Go.Proofs.Ytaadndikbecdbaa.Q
