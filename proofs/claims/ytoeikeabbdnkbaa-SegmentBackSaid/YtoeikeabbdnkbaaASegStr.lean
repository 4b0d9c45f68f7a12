/- Logs that were made: whole records in each file, and in what is kept of the last one. -/
import Derived.Test.YtoeikeabbdnkbaaASegFar
namespace Go.Proofs.Ytoeikeabbdnkbaa.A
open Go Go.Proofs.Ytoeikeabbdnkbaa.Ab
set_option linter.unusedVariables false
set_option linter.unusedSimpArgs false

abbrev Txt := List UInt8
structure Str (n : Int) (pre : List ByteArray) (s u : ByteArray) (ps : List (List Txt)) (B0 B1 : List Txt) : Prop where
  p : pre.map (fun x => x.data.toList) = filesB n ps
  o : partsOk n ps
  s : s = mkB (recsB (n + ps.flatten.length) B0)
  os : recsOk (n + ps.flatten.length) B0
  u : u = mkB (recsB (n + ps.flatten.length + B0.length) B1)
  ou : recsOk (n + ps.flatten.length + B0.length) B1
theorem contF_pre (z : Int) (x : ByteArray) : contF (F z x EB) = x.data.toList := by unfold contF; rw [show (F z x EB).2.1 ++ (F z x EB).2.2.1 = x from app_E x]
theorem files_cont (z : Int) (pre : List ByteArray) (s u : ByteArray) : (files z pre s u).map contF = pre.map (fun x => x.data.toList) ++ [(s ++ u).data.toList] := by
  unfold files
  rw [List.map_append, List.map_map]
  congr 1
  apply List.map_congr_left
  intro x _
  exact contF_pre z x
theorem Str.cont {n : Int} {pre : List ByteArray} {s u : ByteArray} {ps : List (List Txt)} {B0 B1 : List Txt} (h : Str n pre s u ps B0 B1) (z : Int) : (files z pre s u).map contF = filesB n (ps ++ [B0 ++ B1]) ∧ partsOk n (ps ++ [B0 ++ B1]) := by
  have e : (s ++ u).data.toList = recsB (n + ps.flatten.length) (B0 ++ B1) := by
    rw [h.s, h.u, two_app, ← recsB_app]
  refine ⟨?_, (partsOk_app n ps _).2 ⟨h.o, (recsOk_app _ B0 B1).2 ⟨h.os, h.ou⟩, trivial⟩⟩
  rw [files_cont, h.p, e, filesB_app]; rfl
theorem flat_last (ps : List (List Txt)) (B : List Txt) : (ps ++ [B]).flatten = ps.flatten ++ B := by simp
theorem Str.scan {z n : Int} {pre : List ByteArray} {s u : ByteArray} {ps : List (List Txt)} {B0 B1 : List Txt} (h : Str n pre s u ps B0 B1) (hok : okL z n pre s u) : ∃ x y, Ev (fun k => segment_scan k (SL z n pre s u)) (((ps.flatten ++ (B0 ++ B1)).map mkB, x, y, true, ()), ()) := by
  obtain ⟨h1, h2⟩ := h.cont z
  rw [← flat_last]
  exact scan_good z n _ hok.len hok.bd hok.n0 hok.n1 h1 h2
theorem Str.new (n : Int) : Str n [] EB EB [] [] [] := ⟨rfl, trivial, rfl, trivial, rfl, trivial⟩
theorem Str.step {z n : Int} {pre : List ByteArray} {s u : ByteArray} {ps : List (List Txt)} {B0 B1 : List Txt} {t : Txt} (h : Str n pre s u ps B0 B1) (hok : okL z n pre s u) (hn : n + (ps.flatten ++ (B0 ++ B1)).length ≤ 1000000000) (hs : (stepA z (n + (ps.flatten ++ (B0 ++ B1)).length) t pre s u).1 = 0) :
    ∃ ps' B0' B1', okL z n (stepA z (n + (ps.flatten ++ (B0 ++ B1)).length) t pre s u).2.1 (stepA z (n + (ps.flatten ++ (B0 ++ B1)).length) t pre s u).2.2.1 (stepA z (n + (ps.flatten ++ (B0 ++ B1)).length) t pre s u).2.2.2 ∧
      Str n (stepA z (n + (ps.flatten ++ (B0 ++ B1)).length) t pre s u).2.1 (stepA z (n + (ps.flatten ++ (B0 ++ B1)).length) t pre s u).2.2.1 (stepA z (n + (ps.flatten ++ (B0 ++ B1)).length) t pre s u).2.2.2 ps' B0' B1' ∧
      ps'.flatten ++ (B0' ++ B1') = (ps.flatten ++ (B0 ++ B1)) ++ [t] ∧ ps.flatten.length + B0.length ≤ ps'.flatten.length + B0'.length := by
  obtain ⟨k1, k2⟩ := stepA_ok hok hs
  have hn0 := hok.n0
  have eN : n + ((ps.flatten ++ (B0 ++ B1)).length : Int) = n + ps.flatten.length + B0.length + B1.length := by simp only [List.length_append]; omega
  obtain ⟨N, hN⟩ : ∃ N : Int, n + ((ps.flatten ++ (B0 ++ B1)).length : Int) = N := ⟨_, rfl⟩
  rw [hN] at hs k1 hn eN ⊢
  have hrec : recOk N t := ⟨by omega, hn, k2⟩
  have hE := EB_size
  unfold stepA at hs k1 ⊢
  split at hs
  · cases hs
  · rename_i h1
    split at hs
    · cases hs
    · rename_i h2
      rw [if_neg h1, if_neg h2] at k1 ⊢
      split at hs
      · rename_i h3
        rw [if_pos h3] at k1 ⊢
        refine ⟨ps, B0, B1 ++ [t], k1, ⟨h.p, h.o, h.s, h.os, ?_, ?_⟩, by simp only [List.append_assoc], Nat.le_refl _⟩
        · show u ++ mkB (recB N t) = _
          rw [recsB_app, ← mkB_append, ← h.u, ← eN]
          show _ = u ++ mkB (recB N t ++ [])
          rw [List.append_nil]
        · rw [recsOk_app, ← eN]; exact ⟨h.ou, hrec, trivial⟩
      · rename_i h3
        rw [if_neg h3] at k1 ⊢
        split at hs
        · cases hs
        · rename_i h4
          rw [if_neg h4] at k1 ⊢
          have e2 : n + (((ps ++ [B0 ++ B1]).flatten.length : Nat) : Int) = N := by rw [flat_last, eN]; simp only [List.length_append]; omega
          have c := h.cont z
          rw [files_cont] at c
          refine ⟨ps ++ [B0 ++ B1], [], [t], k1, ⟨?_, c.2, ?_, trivial, ?_, ?_⟩, by rw [flat_last]; simp, ?_⟩
          · show (pre ++ [s ++ u]).map _ = _
            rw [List.map_append, ← c.1]; rfl
          · show EB = _; rfl
          · show mkB (recB N t) = _
            rw [e2]
            have : N + ((([] : List Txt).length : Nat) : Int) = N := by simp
            rw [this]
            show _ = mkB (recB N t ++ [])
            rw [List.append_nil]
          · rw [e2]
            have : N + ((([] : List Txt).length : Nat) : Int) = N := by simp
            rw [this]; exact ⟨hrec, trivial⟩
          · rw [flat_last]; simp only [List.length_append, List.length_nil]; omega
theorem Str.run {z n : Int} : ∀ (L : List Txt) (σ : Lg) (ps : List (List Txt)) (B0 B1 : List Txt), okL z n σ.1 σ.2.1 σ.2.2 → Str n σ.1 σ.2.1 σ.2.2 ps B0 B1 → n + (ps.flatten ++ (B0 ++ B1)).length + L.length ≤ 1000000000 → (runA z (n + (ps.flatten ++ (B0 ++ B1)).length) L σ).1 = 0 →
    ∃ ps' B0' B1', okL z n (runA z (n + (ps.flatten ++ (B0 ++ B1)).length) L σ).2.1 (runA z (n + (ps.flatten ++ (B0 ++ B1)).length) L σ).2.2.1 (runA z (n + (ps.flatten ++ (B0 ++ B1)).length) L σ).2.2.2 ∧
      Str n (runA z (n + (ps.flatten ++ (B0 ++ B1)).length) L σ).2.1 (runA z (n + (ps.flatten ++ (B0 ++ B1)).length) L σ).2.2.1 (runA z (n + (ps.flatten ++ (B0 ++ B1)).length) L σ).2.2.2 ps' B0' B1' ∧
      ps'.flatten ++ (B0' ++ B1') = (ps.flatten ++ (B0 ++ B1)) ++ L ∧ ps.flatten.length + B0.length ≤ ps'.flatten.length + B0'.length
  | [], σ, ps, B0, B1, hok, hS, hn, hs => ⟨ps, B0, B1, hok, hS, by simp, Nat.le_refl _⟩
  | t :: L, σ, ps, B0, B1, hok, hS, hn, hs => by
    rw [List.length_cons] at hn
    rw [runA] at hs ⊢
    by_cases h : (stepA z (n + (ps.flatten ++ (B0 ++ B1)).length) t σ.1 σ.2.1 σ.2.2).1 = 0
    · rw [if_pos h] at hs ⊢
      obtain ⟨ps1, C0, C1, k1, k2, k3, k4⟩ := hS.step hok (by omega) h
      have e : n + ((ps.flatten ++ (B0 ++ B1)).length : Int) + 1 = n + ((ps1.flatten ++ (C0 ++ C1)).length : Int) := by rw [k3, List.length_append]; simp; omega
      rw [e] at hs ⊢
      obtain ⟨ps', B0', B1', g1, g2, g3, g4⟩ := Str.run L _ ps1 C0 C1 k1 k2 (by omega) hs
      exact ⟨ps', B0', B1', g1, g2, by rw [g3, k3]; simp, by omega⟩
    · rw [if_neg h] at hs
      exact absurd hs h
end Go.Proofs.Ytoeikeabbdnkbaa.A
