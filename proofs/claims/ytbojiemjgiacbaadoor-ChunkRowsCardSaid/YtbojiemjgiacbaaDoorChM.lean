/- Chapter 7: chunks one behind the other: contract. -/
import Derived.Test.YtbojiemjgiacbaaDoorChL
import Derived.Test.YtbojiemjgiacbaaDoorWtC
namespace Go.Proofs.YtbojiemjgiacbaaDoor
open Go Go.RowKit Towline Towline.Tlv Towline.Chunk
set_option linter.unusedVariables false
set_option linter.unusedSimpArgs false
set_option maxRecDepth 20000
set_option maxHeartbeats 1000000
theorem flat_take (l : List Ch) (k : Nat) (h : k < l.length) : (l.drop k).flatMap encC = encC (l.getD k default) ++ (l.drop (k + 1)).flatMap encC := by
  rw [List.drop_eq_getElem_cons h, List.flatMap_cons, List.getD_eq_getElem?_getD, List.getElem?_eq_getElem h]
  rfl
theorem rows7_spec (l : List Ch) (hr : ∀ c ∈ l, ChR c) : PSpec Tryd.prog 4 [.d (slT 14 encCh l)] (· = tvb true) := by
  refine PSpec.run (tysOk) followsB Tryd.func4 (by decide) rfl Tryd.ntmps4 (Nat.le_of_ble_eq_true rfl) rfl fun w0 R0 => ?_
  conv => whnf
  refine ⟨_, shown7_spec, ?_⟩
  rintro q rfl
  conv => whnf
  split <;> rename_i g1
  · conv => whnf
    exact ⟨_, .refl _, rfl, rfl⟩
  replace g1 := of_decide_eq_false g1
  try simp only [Int.toNat_natCast] at g1
  conv => whnf
  refine ALoop.adopt 5 1000 14 29 (fun _ => []) rfl rfl rfl ?_
  refine ALoop.introR tysOk followsB (fun x : {x : Nat × List Ch // x.1 ≤ l.length ∧ x.2.length ≤ x.1 ∧ ∀ c ∈ x.2, goodC c = true ∧ ChR c ∧ ChOk c ∧ (encC c).length ≤ 1400} => ([(0, .d (slT 14 encCh l)), (4, tvs (x.1.2.flatMap encC)), (5, .rsl 1000 14 0 x.1.2.length), (6, tvi x.1.1)], [(1000, .row 29 14 x.1.2.length (fun k => encCh (x.1.2.getD k default)))])) (fun x => l.length - x.1.1) ⟨(0, []), by simp⟩ ?_ ?_
  · exact ⟨.refl _, .refl _, .refl _, .refl _, ⟨rfl, rfl, rfl, fun _ hj => by simp at hj⟩, trivial⟩
  rintro ⟨⟨k, pre⟩, hk, hpk, hpre⟩
  dsimp only at hk hpk hpre ⊢
  have hlen : ∀ m : List Ch, (∀ c ∈ m, (encC c).length ≤ 1400) → (m.flatMap encC).length ≤ 1400 * m.length := by
    intro m
    induction m with
    | nil => simp
    | cons x m ih =>
      intro h
      rw [List.flatMap_cons, List.length_append, List.length_cons]
      have := ih (fun c hc => h c (by simp [hc]))
      have := h x (by simp)
      omega
  have hpl := hlen pre (fun c hc => (hpre c hc).2.2.2)
  conv => whnf
  split <;> rename_i h1
  · have hlt : k < l.length := by simpa using h1
    have hra : ChR (l.getD (Int.toNat k) default) := by
      show ChR (l.getD k default)
      rw [List.getD_eq_getElem?_getD, List.getElem?_eq_getElem hlt]
      exact hr _ (List.getElem_mem hlt)
    conv => whnf
    refine ⟨by first | omega | (simp only [Int.toNat_natCast]; omega) | (simp; done) | (simp; omega), ?_⟩
    conv => whnf
    refine ⟨_, small7_spec (l.getD (Int.toNat k) default), ?_⟩
    rintro q ⟨b, rfl, hb⟩
    cases b
    · conv => whnf
      exact ⟨_, .refl _, rfl, rfl⟩
    have hok := ChOk.of hra (hb rfl)
    have hbs := build_spec7 (l.getD (Int.toNat k) default) hok
    conv => whnf
    refine ⟨by first | omega | (simp only [Int.toNat_natCast]; omega) | (simp; done) | (simp; omega), ?_⟩
    conv => whnf
    by_cases he : (buildC (l.getD (Int.toNat k) default)).2 = 0
    rotate_left
    · refine ⟨_, hbs, ?_⟩
      rintro q rfl
      conv => whnf
      rw [show ((buildC (l.getD (Int.toNat k) default)).2 == 0) = false from beq_eq_false_iff_ne.2 he]
      conv => whnf
      refine ⟨by first | omega | (simp only [Int.toNat_natCast]; omega) | (simp; done) | (simp; omega), ?_⟩
      conv => whnf
      exact ⟨⟨(k + 1, pre), by dsimp only; omega, by dsimp only; omega, hpre⟩, [], by dsimp only; omega, .refl _, .refl _, .refl _, .refl _, OLe.refl _, trivial⟩
    obtain ⟨b1, b2', b3⟩ := build_good he
    rw [b3] at hbs
    dsimp only at hbs
    have hel2 : (encC (l.getD (Int.toNat k) default)).length ≤ 1400 := b2'
    refine ⟨_, hbs, ?_⟩
    rintro q rfl
    conv => whnf
    refine ⟨by first | omega | (simp only [Int.toNat_natCast]; omega) | (simp; done) | (simp; omega), ?_⟩
    conv => whnf
    refine ⟨by first | omega | (simp only [Int.toNat_natCast]; omega) | (simp; done) | (simp; omega), ?_⟩
    conv => whnf
    refine ⟨⟨⟨rfl, by omega, by simp only [ty29]; omega⟩, by omega⟩, ?_⟩
    conv => whnf
    conv => whnf
    try (refine ⟨by kernel_rfl, ?_⟩; conv => whnf)
    refine ⟨by first | omega | (simp only [Int.toNat_natCast]; omega) | (simp; done) | (simp; omega), ?_⟩
    conv => whnf
    refine ⟨⟨(k + 1, pre ++ [l.getD k default]), by dsimp only; omega, by simp only [List.length_append, List.length_cons, List.length_nil]; omega, fun c hc => ?_⟩, [(55, 1000)], by dsimp only; omega, .refl _, .of_eq ?_, .of_eq (by rw [List.length_append]; rfl), .refl _, ⟨rfl, rfl, by simp, fun j hj => ?_⟩, trivial⟩
    · rcases List.mem_append.1 hc with hc | hc
      · exact hpre c hc
      · rw [List.mem_singleton] at hc
        subst hc
        exact ⟨b1, hra, hok, b2'⟩
    · rw [List.flatMap_append]
      simp [List.flatMap_cons]
    · simp only [fcat]
      split
      · rename_i hlt2
        rw [List.getD_eq_getElem?_getD, List.getD_eq_getElem?_getD, List.getElem?_append_left hlt2]
      · have hj2 : j = pre.length := by
          have hj3 : j < pre.length + 1 := hj
          omega
        subst hj2
        rw [Nat.sub_self, getD_end]
        rfl
  have hlt : ¬ k < l.length := by simpa using h1
  conv => whnf
  refine ALoop.introR tysOk followsB (fun i : {i // i ≤ pre.length} => ([(4, tvs ((pre.drop i.1).flatMap encC)), (5, .rsl 1000 14 0 pre.length), (10, tvi i.1)], [(1000, .row 29 14 pre.length (fun k => encCh (pre.getD k default)))])) (fun i => pre.length - i.1) ⟨0, by omega⟩ ?_ ?_
  · exact ⟨.refl _, .refl _, .refl _, OLe.refl _, trivial⟩
  rintro ⟨i, hi⟩
  dsimp only
  conv => whnf
  split <;> rename_i k1
  · have klt : i < pre.length := by simpa using k1
    have hin := hpre _ (List.getElem_mem klt)
    obtain ⟨y1, y2, y3, y4⟩ := hin
    have eg : pre.getD i default = pre[i] := by rw [List.getD_eq_getElem?_getD, List.getElem?_eq_getElem klt]; rfl
    rw [← eg] at y1 y2 y3 y4
    have hdl := hlen (pre.drop i) (fun c hc => (hpre c (List.mem_of_mem_drop hc)).2.2.2)
    have hsz : (pre.drop i).length = pre.length - i := List.length_drop
    rw [flat_take pre i klt] at hdl ⊢
    have hps := parseC_spec (encC (pre.getD i default) ++ (pre.drop (i + 1)).flatMap encC) (by omega)
    rw [parse_enc y1 y2 y4] at hps
    dsimp only at hps
    have hS := sameL_spec (pre.getD i default) y3
    conv => whnf
    refine ⟨_, hps, ?_⟩
    rintro q rfl
    conv => whnf
    refine ⟨by first | omega | (simp only [Int.toNat_natCast]; omega) | (simp; done) | (simp; omega), ?_⟩
    conv => whnf
    refine ⟨by first | omega | (simp only [Int.toNat_natCast]; omega) | (simp; done) | (simp; omega), ?_⟩
    conv => whnf
    refine ⟨_, hS.argsC ⟨.refl _, .of_eq (by rw [Nat.zero_add]; rfl), trivial⟩, ?_⟩
    conv => whnf
    refine ⟨by kernel_rfl, ?_⟩
    conv => whnf
    refine ⟨⟨by omega, by rw [List.length_append]; omega⟩, ?_⟩
    conv => whnf
    have hcut : cutS (encC (pre.getD i default) ++ (pre.drop (i + 1)).flatMap encC) (some ((encC (pre.getD i default)).length : Int)) none = (pre.drop (i + 1)).flatMap encC := by
      show (_ : List UInt8).drop (Int.toNat _) = _
      rw [Int.toNat_natCast, List.drop_left]
    rw [hcut]
    refine ⟨by first | omega | (simp only [Int.toNat_natCast]; omega) | (simp; done) | (simp; omega), ?_⟩
    conv => whnf
    exact ⟨⟨i + 1, by omega⟩, [], by dsimp only; omega, .of_eq rfl, .refl _, .refl _, OLe.refl _, trivial⟩
  · have klt : ¬ i < pre.length := by simpa using k1
    obtain rfl : i = pre.length := by omega
    rw [List.drop_length]
    conv => whnf
    exact ⟨_, .refl _, rfl, rfl⟩
end Go.Proofs.YtbojiemjgiacbaaDoor
