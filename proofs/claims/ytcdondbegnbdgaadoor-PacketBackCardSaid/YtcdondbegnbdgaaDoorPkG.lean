/- Chapter 8: what the statements are made of: contracts. -/
import Derived.Test.YtcdondbegnbdgaaDoorPkE
namespace Go.Proofs.YtcdondbegnbdgaaDoor
open Go Go.RowKit Towline Towline.Tlv Towline.Chunk Towline.Packet Towline.Crc
set_option linter.unusedVariables false
set_option linter.unusedSimpArgs false
set_option maxRecDepth 20000
set_option maxHeartbeats 1000000
def lightC (c : Ch) : Prop := c.items.length ≤ 30 ∧ c.gaps.length ≤ 200 ∧ c.dups.length ≤ 200
theorem small8_spec (l : List Ch) : PSpec Tryd.prog 7 [.d (slT 14 encCh l)] (fun r => ∃ b, r = tvb b ∧ (b = true → l.length ≤ 60 ∧ ∀ c ∈ l, lightC c)) := by
  refine PSpec.run (tysOk) followsB Tryd.func7 (by decide) rfl Tryd.ntmps7 (Nat.le_of_ble_eq_true rfl) rfl fun w0 R0 => ?_
  conv => whnf
  split <;> rename_i h1
  · conv => whnf
    exact ⟨_, .refl _, ⟨false, rfl, fun h => by cases h⟩, rfl⟩
  replace h1 := of_decide_eq_false h1
  try simp only [Int.toNat_natCast] at h1
  conv => whnf
  refine ALoop.introR tysOk followsB (fun k : {k // k ≤ l.length ∧ ∀ j, j < k → lightC (l.getD j default)} => ([(0, .d (slT 14 encCh l)), (3, tvi k.1)], [])) (fun k => l.length - k.1) ⟨0, by omega, fun j hj => by omega⟩ ⟨.refl _, .refl _, trivial⟩ ?_
  rintro ⟨k, hk, hj⟩
  dsimp only
  conv => whnf
  split <;> rename_i h5
  · have hlt : k < l.length := by simpa using h5
    conv => whnf
    refine ⟨by first | omega | (simp only [Int.toNat_natCast]; omega) | (simp; done) | (simp; omega), ?_⟩
    conv => whnf
    refine ⟨_, light_spec (l.getD (Int.toNat k) default), ?_⟩
    rintro q ⟨b, rfl, hb⟩
    cases b
    · conv => whnf
      exact ⟨_, .refl _, ⟨false, rfl, fun h => by cases h⟩, rfl⟩
    · conv => whnf
      refine ⟨by first | omega | (simp only [Int.toNat_natCast]; omega) | (simp; done) | (simp; omega), ?_⟩
      conv => whnf
      exact ⟨⟨k + 1, by omega, fun j hj' => (Nat.lt_or_eq_of_le (Nat.le_of_lt_succ hj')).elim (hj j) (fun e => e ▸ hb rfl)⟩, [], by dsimp only; omega, .refl _, .refl _, trivial⟩
  · have hlt : ¬ k < l.length := by simpa using h5
    conv => whnf
    refine ⟨_, .refl _, ⟨true, rfl, fun _ => ⟨by omega, fun c hc => ?_⟩⟩, rfl⟩
    obtain ⟨i, hi, rfl⟩ := List.getElem_of_mem hc
    have := hj i (by omega)
    rwa [List.getD_eq_getElem?_getD, List.getElem?_eq_getElem hi] at this
theorem all8_spec (l : List Ch) (hl : l.length ≤ 2 ^ 30) (hi : ∀ c ∈ l, c.items.length ≤ 2 ^ 40) : PSpec Tryd.prog 31 [.d (slT 14 encCh l)] (· = .d (slT 14 encCh l)) := by
  refine PSpec.run (tysOk) followsB Tryd.func31 (by decide) rfl Tryd.ntmps31 (Nat.le_of_ble_eq_true rfl) rfl fun w0 R0 => ?_
  conv => whnf
  refine ALoop.adopt 3 1000 14 77 (fun _ => []) rfl rfl rfl ?_
  refine ALoop.introR tysOk followsB (fun k : {k // k ≤ l.length} => ([(0, .d (slT 14 encCh l)), (4, tvi k.1), (3, .rsl 1000 14 0 k.1)], [(1000, .row 77 14 k.1 (fun j => encCh (l.getD j default)))])) (fun k => l.length - k.1) ⟨0, by omega⟩ ?_ ?_
  · exact ⟨.refl _, .refl _, .refl _, ⟨rfl, rfl, rfl, fun _ hj => by simp at hj⟩, trivial⟩
  rintro ⟨k, hk⟩
  dsimp only
  conv => whnf
  split <;> rename_i h5
  · have hlt : k < l.length := by simpa using h5
    conv => whnf
    refine ⟨by first | omega | (simp only [Int.toNat_natCast]; omega) | (simp; done) | (simp; omega), ?_⟩
    conv => whnf
    refine ⟨_, as8_spec (l.getD (Int.toNat k) default) (mem_getD (p := fun c => c.items.length ≤ 2 ^ 40) hi hlt), ?_⟩
    rintro q rfl
    conv => whnf
    refine ⟨⟨⟨rfl, by omega, by simp only [ty77]; omega⟩, by omega⟩, ?_⟩
    conv => whnf
    conv => whnf
    refine ⟨by first | omega | (simp only [Int.toNat_natCast]; omega) | (simp; done) | (simp; omega), ?_⟩
    conv => whnf
    refine ⟨⟨k + 1, by omega⟩, [(18, 1000)], by dsimp only; omega, .refl _, .refl _, .refl _, ⟨rfl, rfl, rfl, fun j hj => ?_⟩, trivial⟩
    simp only [fcat]
    split
    · rfl
    · have : j = k := by
        have hj : j < k + 1 := hj
        omega
      subst this; rw [Nat.sub_self]; rfl
  · have hlt : ¬ k < l.length := by simpa using h5
    obtain rfl : k = l.length := by omega
    conv => whnf
    refine ⟨by first | omega | (simp only [Int.toNat_natCast]; omega) | (simp; done) | (simp; omega), ?_⟩
    conv => whnf
    exact ⟨_, .refl _, rfl, rfl⟩
theorem ref8_spec (p : Pk) (hl : p.chunks.length ≤ 2 ^ 30) (hi : ∀ c ∈ p.chunks, c.items.length ≤ 2 ^ 40) : PSpec Tryd.prog 14 [pA p] (· = pA p) := by
  refine PSpec.run (tysOk) followsB Tryd.func14 (by decide) rfl Tryd.ntmps14 (Nat.le_of_ble_eq_true rfl) rfl fun w0 R0 => ?_
  conv => whnf
  refine ⟨_, all8_spec p.chunks hl hi, ?_⟩
  conv => whnf
  refine ⟨by kernel_rfl, ?_⟩
  conv => whnf
  exact ⟨_, .refl _, rfl, rfl⟩
theorem same8_spec (p : Pk) (hl : p.chunks.length ≤ 2 ^ 30) (hk : ∀ c ∈ p.chunks, ChOk c) : PSpec Tryd.prog 13 [pA p, pA p] (· = tvb true) := by
  refine PSpec.run (tysOk) followsB Tryd.func13 (by decide) rfl Tryd.ntmps13 (Nat.le_of_ble_eq_true rfl) rfl fun w0 R0 => ?_
  conv => whnf
  rw [bne_self_eq_false]
  conv => whnf
  rw [bne_self_eq_false]
  conv => whnf
  rw [bne_self_eq_false]
  conv => whnf
  rw [bne_self_eq_false]
  conv => whnf
  refine ALoop.introR tysOk followsB (fun k : {k // k ≤ p.chunks.length} => ([(2, .ptr 2 0), (3, .ptr 3 0), (5, tvi k.1)], [(2, .box (pL p) none), (3, .box (pL p) none)])) (fun k => p.chunks.length - k.1) ⟨0, by omega⟩ ⟨.refl _, .refl _, .refl _, OLe.refl _, OLe.refl _, trivial⟩ ?_
  rintro ⟨k, hk'⟩
  dsimp only
  conv => whnf
  split <;> rename_i h5
  · have hlt : k < p.chunks.length := by simpa using h5
    have hok := mem_getD hk hlt
    have hS := rsame_spec (p.chunks.getD k default) (p.chunks.getD k default) hok.gaps hok.dups (Nat.le_trans hok.items (by decide))
    rw [decide_eq_true rfl] at hS
    conv => whnf
    refine ⟨by first | omega | (simp only [Int.toNat_natCast]; omega) | (simp; done) | (simp; omega), ?_⟩
    conv => whnf
    refine ⟨by first | omega | (simp only [Int.toNat_natCast]; omega) | (simp; done) | (simp; omega), ?_⟩
    conv => whnf
    refine ⟨_, hS, ?_⟩
    conv => whnf
    refine ⟨by kernel_rfl, ?_⟩
    conv => whnf
    refine ⟨by first | omega | (simp only [Int.toNat_natCast]; omega) | (simp; done) | (simp; omega), ?_⟩
    conv => whnf
    exact ⟨⟨k + 1, by omega⟩, [], by dsimp only; omega, .refl _, .refl _, .refl _, OLe.refl _, OLe.refl _, trivial⟩
  · conv => whnf
    exact ⟨_, .refl _, rfl, rfl⟩
end Go.Proofs.YtcdondbegnbdgaaDoor
namespace Go.Proofs.YtcdondbegnbdgaaDoor
open Go Go.RowKit Towline Towline.Tlv Towline.Chunk Towline.Packet Towline.Crc
set_option linter.unusedVariables false
set_option linter.unusedSimpArgs false
set_option maxRecDepth 20000
/-- Such a chunk is left out. -/
def delB (f t g : Int) (most : Int) (c : Ch) : Bool := !(shapedP ⟨f, t, g, [c]⟩).2 || decide (most < (shapedP ⟨f, t, g, [c]⟩).1)
/-- As many chunks as go into a packet. -/
def grab (most : Int) : List Ch → Nat → List Ch → List Ch × List Ch
  | acc, _, [] => (acc, [])
  | acc, n, c :: r => if most < ((n + sizeC c : Nat) : Int) ∨ fitsP acc c = false then (acc, c :: r) else grab most (acc ++ [c]) (n + sizeC c) r
theorem grab_len (most : Int) : ∀ (l acc : List Ch) (n : Nat), (grab most acc n l).2.length ≤ l.length
  | [], _, _ => Nat.le_refl _
  | c :: r, acc, n => by
    rw [grab]
    split
    · exact Nat.le_refl _
    · have := grab_len most r (acc ++ [c]) (n + sizeC c)
      rw [List.length_cons]; omega
def packs (f t g : Int) (most : Int) : List Ch → List Pk
  | [] => []
  | c :: r => ⟨f, t, g, (grab most [c] (12 + sizeC c) r).1⟩ :: packs f t g most (grab most [c] (12 + sizeC c) r).2
termination_by l => l.length
decreasing_by
  have := grab_len most r [c] (12 + sizeC c)
  rw [List.length_cons]; omega
def mostB (most : Int) : Int := max 100 (min most 1500)
def keptL (f t g : Int) (most : Int) (l : List Ch) : List Ch := l.filter fun c => !delB f t g most c
def bundleL (f t g : Int) (l : List Ch) (most : Int) : List Pk := packs f t g (mostB most) (keptL f t g (mostB most) l)
/-- What is asked of chunks that stand in a packet. -/
structure Row (most : Int) (acc : List Ch) (n : Nat) : Prop where
  sz : n = 12 + allSz acc
  le : ((n : Nat) : Int) ≤ most
  fit : ∀ i, i < acc.length → fitsP (acc.take i) (acc.getD i default) = true
theorem allSz_snoc (l : List Ch) (c : Ch) : allSz (l ++ [c]) = allSz l + sizeC c := by
  unfold allSz; rw [List.map_append, List.sum_append]; simp
theorem Row.snoc {most : Int} {acc : List Ch} {n : Nat} (h : Row most acc n) (c : Ch) (h1 : ((n + sizeC c : Nat) : Int) ≤ most) (h2 : fitsP acc c = true) : Row most (acc ++ [c]) (n + sizeC c) := by
  refine ⟨by rw [allSz_snoc, h.sz]; omega, h1, fun i hi => ?_⟩
  rw [List.length_append, List.length_cons, List.length_nil] at hi
  rcases Nat.lt_or_eq_of_le (show i ≤ acc.length from by omega) with h3 | rfl
  · rw [List.take_append_of_le_length (by omega), show (acc ++ [c]).getD i default = acc.getD i default from by
      rw [List.getD_eq_getElem?_getD, List.getD_eq_getElem?_getD, List.getElem?_append_left h3]]
    exact h.fit i h3
  · rw [List.take_left, getD_end]
    exact h2
theorem grab_row (most : Int) : ∀ (l acc : List Ch) (n : Nat), Row most acc n → ∃ m, Row most (grab most acc n l).1 m ∧ ∃ p, (grab most acc n l).1 = acc ++ p ∧ p ++ (grab most acc n l).2 = l
  | [], acc, n, h => ⟨n, h, [], by simp [grab], rfl⟩
  | c :: r, acc, n, h => by
    rw [grab]
    split
    · exact ⟨n, h, [], by simp, rfl⟩
    · rename_i hc
      have h1 : ((n + sizeC c : Nat) : Int) ≤ most := Int.not_lt.1 fun h => hc (.inl h)
      have h2 : fitsP acc c = true := by
        cases hf : fitsP acc c
        · exact (hc (.inr hf)).elim
        · rfl
      obtain ⟨m, k1, p, k2, k3⟩ := grab_row most r _ _ (h.snoc c h1 h2)
      exact ⟨m, k1, c :: p, by rw [k2, List.append_assoc]; rfl, by rw [List.cons_append, k3]⟩
/-- A chunk that is kept may be in a packet of its own. -/
theorem kept_ok {f t g most : Int} {c : Ch} (h : delB f t g most c = false) : PkOk ⟨f, t, g, [c]⟩ ∧ ((12 + sizeC c : Nat) : Int) ≤ most := by
  unfold delB at h
  simp only [Bool.or_eq_false_iff, Bool.not_eq_false'] at h
  have ho : okPk ⟨f, t, g, [c]⟩ = true := by
    cases ho : okPk ⟨f, t, g, [c]⟩
    · rw [shaped_no ho] at h; cases h.1
    · rfl
  refine ⟨(okPk_iff _).1 ho, ?_⟩
  have h2 := of_decide_eq_false h.2
  rw [shaped_yes ho] at h2
  have : lenP ⟨f, t, g, [c]⟩ = 12 + sizeC c := by simp [lenP, allSz]
  rw [this] at h2
  omega
theorem fits_nil (c : Ch) : fitsP [] c = true := rfl
/-- What is bundled is right packets, of no more bytes than is asked for. -/
theorem packs_ok {f t g most : Int} : ∀ (n : Nat) (l : List Ch), l.length ≤ n → (∀ c ∈ l, delB f t g most c = false) → ∀ p ∈ packs f t g most l, PkOk p ∧ ((lenP p : Nat) : Int) ≤ most ∧ ∀ c ∈ p.chunks, c ∈ l
  | 0, l, hn, h, p, hp => by
    have : l = [] := List.length_eq_zero_iff.1 (by omega)
    rw [this, packs] at hp
    cases hp
  | n + 1, [], hn, h, p, hp => by
    rw [packs] at hp
    cases hp
  | n + 1, c :: r, hn, h, p, hp => by
    rw [packs] at hp
    obtain ⟨k1, k2⟩ := kept_ok (h c (by simp))
    have hrow : Row most [c] (12 + sizeC c) := ⟨by simp [allSz], k2, fun i hi => by
      have : i = 0 := by simpa using hi
      subst this; rfl⟩
    obtain ⟨m, q1, q, q2, q3⟩ := grab_row most r [c] (12 + sizeC c) hrow
    rcases List.mem_cons.1 hp with rfl | hp
    · have hmem : ∀ d ∈ (grab most [c] (12 + sizeC c) r).1, d ∈ c :: r := by
        intro d hd
        rw [q2] at hd
        rcases List.mem_append.1 hd with hd | hd
        · exact List.mem_cons.2 (.inl (by simpa using hd))
        · exact List.mem_cons.2 (.inr (by rw [← q3]; exact List.mem_append.2 (.inl hd)))
      refine ⟨(okPk_iff _).1 ?_, ?_, hmem⟩
      · unfold okPk
        simp only [Bool.and_eq_true, bne_iff_ne, ne_eq, beq_iff_eq]
        refine ⟨⟨⟨⟨⟨?_, ?_⟩, k1.from_⟩, k1.to_⟩, ?_⟩, ?_⟩
        · rw [sizesOk_iff]
          intro i hi
          have hd := hmem _ (List.getElem_mem hi)
          have := (kept_ok (h _ hd)).1.right 0 (by show 0 < [_].length; simp)
          show (buildC ((grab most [c] (12 + sizeC c) r).1.getD i default)).2 = 0
          rw [List.getD_eq_getElem?_getD, List.getElem?_eq_getElem hi]
          exact this
        · show ¬ (grab most [c] (12 + sizeC c) r).1.length = 0
          rw [q2]; simp
        · show (g == 0) = (((grab most [c] (12 + sizeC c) r).1.getD 0 default).ty == 1)
          rw [q2]
          exact k1.tag
        · rw [fitsL_iff]; exact q1.fit
      · show ((12 + allSz (grab most [c] (12 + sizeC c) r).1 : Nat) : Int) ≤ most
        rw [← q1.sz]
        exact q1.le
    · have hl := grab_len most r [c] (12 + sizeC c)
      rw [List.length_cons] at hn
      obtain ⟨a1, a2, a3⟩ := packs_ok n _ (by omega) (fun d hd => h d (List.mem_cons.2 (.inr (by rw [← q3]; exact List.mem_append.2 (.inr hd))))) p hp
      exact ⟨a1, a2, fun d hd => List.mem_cons.2 (.inr (by rw [← q3]; exact List.mem_append.2 (.inr (a3 d hd))))⟩
theorem most_le (most : Int) : mostB most ≤ 1500 ∧ 100 ≤ mostB most := by unfold mostB; omega
theorem bundle_ok {f t g most : Int} {l : List Ch} : ∀ p ∈ bundleL f t g l most, PkOk p ∧ rightP p = true ∧ ∀ c ∈ p.chunks, c ∈ l := by
  intro p hp
  obtain ⟨a1, a2, a3⟩ := packs_ok _ _ (Nat.le_refl _) (fun c hc => by
    have := (List.mem_filter.1 hc).2
    simpa using this) p hp
  refine ⟨a1, ?_, fun c hc => (List.mem_filter.1 (a3 c hc)).1⟩
  unfold rightP
  rw [(okPk_iff p).2 a1, Bool.true_and]
  have := (most_le most).1
  unfold lenP at a2
  exact decide_eq_true (by omega)
theorem packs_cons (f t g most : Int) (c : Ch) (r : List Ch) : packs f t g most (c :: r) = ⟨f, t, g, (grab most [c] (12 + sizeC c) r).1⟩ :: packs f t g most (grab most [c] (12 + sizeC c) r).2 := by rw [packs]
theorem packs_nil (f t g most : Int) : packs f t g most [] = [] := by rw [packs]
end Go.Proofs.YtcdondbegnbdgaaDoor
