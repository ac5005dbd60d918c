/- Chapter 8: chunks left out: contracts of package slices' functions. -/
import Derived.Test.YtcdondbegnbdgaaDoorPkG
namespace Go.Proofs.YtcdondbegnbdgaaDoor
open Go Go.RowKit Towline Towline.Tlv Towline.Chunk Towline.Packet Towline.Crc
set_option linter.unusedVariables false
set_option linter.unusedSimpArgs false
set_option maxRecDepth 20000
set_option maxHeartbeats 1000000
abbrev capE (f t g most : Int) : List AVal := [.eptr 1 1 (fun _ => [.i .u16 f]) 0 0, .eptr 1 1 (fun _ => [.i .u16 t]) 0 0, .eptr 1 1 (fun _ => [.i .u32 g]) 0 0, .eptr 1 1 (fun _ => [.i .i64 most]) 0 0]
theorem del1_spec (f t g most : Int) (c : Ch) (hk : ChOk c) : PSpec Tryd.prog 20 (cA c :: capE f t g most) (· = tvb (delB f t g most c)) := by
  refine PSpec.run (tysOk) followsB Tryd.func20 (by decide) rfl Tryd.ntmps20 (Nat.le_of_ble_eq_true rfl) rfl fun w0 R0 => ?_
  conv => whnf
  refine ⟨by omega, ?_⟩
  conv => whnf
  refine ⟨_, (shaped8_spec ⟨f, t, g, [c]⟩ (fun d hd => (List.mem_singleton.1 hd) ▸ hk) (by simp)).argsC ⟨.agg ⟨.refl _, .refl _, .refl _, .sl rfl fun k hk => ?_, trivial⟩, trivial⟩, ?_⟩
  · have : k = 0 := by omega
    subst this; rfl
  rintro q rfl
  unfold delB
  generalize shapedP ⟨f, t, g, [c]⟩ = r
  obtain ⟨n, b⟩ := r
  cases b
  · conv => whnf
    exact ⟨_, .refl _, rfl, rfl⟩
  · conv => whnf
    exact ⟨_, .refl _, rfl, rfl⟩
theorem index8_spec (g : Nat) (caps : List AVal) (hcaps : ∃ a b c d, caps = capE a b c d) (keep : Ch → Bool) (l : List Ch) (h4 : l.length ≤ 2 ^ 40)
    (hk : ∀ m ∈ l, PSpec Tryd.prog g (cA m :: caps) (· = tvb (keep m))) :
    PSpec Tryd.prog 32 [.d (slT 14 encCh l), .fn g caps] (· = tvi (if l.findIdx keep < l.length then l.findIdx keep else -1)) := by
  obtain ⟨a, b, c, d, rfl⟩ := hcaps
  refine PSpec.run (tysOk) followsB Tryd.func32 (by decide) rfl Tryd.ntmps32 (Nat.le_of_ble_eq_true rfl) rfl fun w0 R0 => ?_
  conv => whnf
  refine ALoop.introR tysOk followsB (fun k : {k // k ≤ l.length ∧ ∀ j, j < k → keep (l.getD j default) = false} => ([(0, .d (slT 14 encCh l)), (1, .fn g (capE a b c d)), (7, tvi l.length), (8, tvi k.1)], [])) (fun k => l.length - k.1) ⟨0, by omega, fun j hj => by omega⟩ ?_ ?_
  · exact ⟨.refl _, .refl _, .refl _, .refl _, trivial⟩
  · rintro ⟨k, hk1, hk2⟩
    dsimp only
    conv => whnf
    split <;> rename_i h1
    · have hlt : k < l.length := by simpa using h1
      have hm : l.getD k default ∈ l := by
        rw [List.getD_eq_getElem?_getD, List.getElem?_eq_getElem hlt]
        exact List.getElem_mem hlt
      conv => whnf
      refine ⟨by first | omega | (simp only [Int.toNat_natCast]; omega) | (simp; done) | (simp; omega), ?_⟩
      conv => whnf
      refine ⟨_, hk (l.getD k default) hm, ?_⟩
      rintro q rfl
      conv => whnf
      split <;> rename_i h2
      · have h2 : keep (l.getD k default) = true := h2
        conv => whnf
        rw [findIdx_is hlt h2 hk2, if_pos hlt]
        exact ⟨_, .refl _, rfl, rfl⟩
      · have h2 : keep (l.getD k default) = false := h2
        conv => whnf
        refine ⟨by first | omega | (simp only [Int.toNat_natCast]; omega) | (simp; done) | (simp; omega), ?_⟩
        conv => whnf
        refine ⟨⟨k + 1, by omega, fun j hj => ?_⟩, [], by dsimp only; omega, .refl _, .refl _, .refl _, .refl _, trivial⟩
        rcases Nat.lt_or_eq_of_le (show j ≤ k from by omega) with h | rfl
        · exact hk2 j h
        · exact h2
    · have hlt : ¬ k < l.length := by simpa using h1
      obtain rfl : k = l.length := by omega
      conv => whnf
      rw [if_neg (findIdx_no hk2)]
      exact ⟨_, .refl _, rfl, rfl⟩
theorem clone8_spec (l : List Ch) (hl : l.length ≤ 2 ^ 30) :
    PSpec Tryd.prog 19 [.d (slT 14 encCh l)] (· = .fresh 35 14 l.length fun k => encCh (l.getD k default)) := by
  refine PSpec.runF (tysOk) followsB Tryd.func19 (by decide) rfl Tryd.ntmps19 (Nat.le_of_ble_eq_true rfl) rfl fun w0 R0 => ?_
  conv => whnf
  intro b hb
  cases b with
  | true =>
    have h0 : l.length = 0 := by
      rcases Nat.eq_zero_or_pos l.length with h | h
      · exact h
      · have := hb h; cases this
    conv => whnf
    exact ⟨35, 14, _, by rw [h0]⟩
  | false =>
    conv => whnf
    refine ⟨⟨rfl, by omega, by simp only [ty35]; omega⟩, ?_⟩
    conv => whnf
    refine ⟨rfl, rfl, l.length, _, by omega, fun k hk => ?_, rfl⟩
    simp [fcat]
abbrev E2 : Nat := 1000000002
abbrev E3 : Nat := 1000000003
abbrev E4 : Nat := 1000000004
abbrev capH (f t g most : Int) : Heap := [(E1, .box [cv16 f] none), (E2, .box [cv16 t] none), (E3, .box [cv32 g] none), (E4, .box [tvi most] none)]
abbrev capP : List AVal := [.ptr E1 0, .ptr E2 0, .ptr E3 0, .ptr E4 0]
abbrev rowF (n : Nat) (f : Nat → List D) : AObj := .row 35 14 n f
def keptN (p : Ch → Bool) (l : List Ch) (j : Nat) : List Ch := (l.take j).filter fun c => !p c
theorem kept_yes {p : Ch → Bool} {l : List Ch} {j : Nat} (h : j < l.length) (hp : p (l.getD j default) = false) : keptN p l (j + 1) = keptN p l j ++ [l.getD j default] := by
  unfold keptN
  rw [List.take_add_one, List.getElem?_eq_getElem h, List.filter_append]
  rw [List.getD_eq_getElem?_getD, List.getElem?_eq_getElem h] at hp ⊢
  simp at hp ⊢
  simp [hp]
theorem kept_no {p : Ch → Bool} {l : List Ch} {j : Nat} (h : j < l.length) (hp : p (l.getD j default) = true) : keptN p l (j + 1) = keptN p l j := by
  unfold keptN
  rw [List.take_add_one, List.getElem?_eq_getElem h, List.filter_append]
  rw [List.getD_eq_getElem?_getD, List.getElem?_eq_getElem h] at hp
  simp at hp
  simp [hp]
theorem kept_all {p : Ch → Bool} {l : List Ch} {j : Nat} (h : j ≤ l.length) (hp : ∀ k, k < j → p (l.getD k default) = false) : keptN p l j = l.take j := by
  unfold keptN
  rw [List.filter_eq_self]
  intro c hc
  obtain ⟨k, hk, rfl⟩ := List.getElem_of_mem hc
  rw [List.length_take] at hk
  have := hp k (by omega)
  rw [List.getD_eq_getElem?_getD, List.getElem?_eq_getElem (by omega)] at this
  rw [List.getElem_take]
  simp at this
  simp [this]
theorem kept_len (p : Ch → Bool) (l : List Ch) (j : Nat) : (keptN p l j).length ≤ j := by
  unfold keptN
  have := List.length_filter_le (fun c => !p c) (l.take j)
  have h2 : (l.take j).length ≤ j := by rw [List.length_take]; omega
  omega
theorem take_set_snoc {m : List Ch} {n : Nat} {x : Ch} (h : n < m.length) : (m.set n x).take (n + 1) = m.take n ++ [x] := by
  rw [List.take_add_one, List.getElem?_set_self h, List.take_set_of_le (Nat.le_refl _)]
  rfl
theorem fupd_set (m : List Ch) (n : Nat) (x : Ch) (h : n < m.length) (k : Nat) : fupd (fun k => encCh (m.getD k default)) n (encCh x) k = encCh ((m.set n x).getD k default) := by
  unfold fupd
  split
  · rename_i e
    subst e
    rw [List.getD_eq_getElem?_getD, List.getElem?_set_self h]
    rfl
  · rename_i e
    show encCh (m.getD k default) = encCh ((m.set n x).getD k default)
    rw [List.getD_eq_getElem?_getD, List.getD_eq_getElem?_getD, List.getElem?_set_ne (by omega)]
theorem delete8_spec (f t g most : Int) (l : List Ch) (hl : l.length ≤ 2 ^ 30) (hk : ∀ c ∈ l, ChOk c) (keep : List Ch) (hkeep : keep = l.filter fun c => !delB f t g most c) :
    LSpec Tryd.prog 18 [.rsl E0 14 0 l.length, .fn 20 capP] ((E0, rowF l.length fun k => encCh (l.getD k default)) :: capH f t g most)
      (fun r hl => r = .rsl E0 14 0 keep.length ∧ ∃ F, (∀ k, k < keep.length → F k = encCh (keep.getD k default)) ∧ hl = (E0, rowF l.length F) :: capH f t g most) := by
  refine LSpec.run (tysOk) followsB Tryd.func18 (by decide) rfl Tryd.ntmps18 (Nat.le_of_ble_eq_true rfl) rfl rfl fun w0 R0 Lo => ?_
  conv => whnf
  refine ⟨by first | omega | (simp only [Int.toNat_natCast]; omega) | (simp; done) | (simp; omega), ?_⟩
  conv => whnf
  refine ⟨_, index8_spec 20 (capE f t g most) ⟨_, _, _, _, rfl⟩ (delB f t g most) l (by omega) (fun m hm => del1_spec f t g most m (hk m hm)), ?_⟩
  rintro q rfl
  conv => whnf
  generalize hp : delB f t g most = p at *
  have hkn : keep = keptN p l l.length := by rw [hkeep]; unfold keptN; rw [List.take_length]
  by_cases hi : l.findIdx p < l.length
  rotate_left
  · rw [if_neg hi]
    have hall : ∀ k, k < l.length → p (l.getD k default) = false := fun k hkk => by
      have := List.not_of_lt_findIdx (p := p) (xs := l) (i := k) (by omega)
      rw [List.getD_eq_getElem?_getD, List.getElem?_eq_getElem hkk]
      simpa using this
    have hke : keep = l := by rw [hkn, kept_all (Nat.le_refl _) hall, List.take_length]
    conv => whnf
    rw [hke]
    exact ⟨_, (E0, rowF l.length fun k => encCh (l.getD k default)) :: capH f t g most, .refl _, ⟨OLe.refl _, OLe.refl _, OLe.refl _, OLe.refl _, OLe.refl _, trivial⟩, rfl, _, fun _ _ => rfl, rfl⟩
  rw [if_pos hi]
  obtain ⟨i, hie⟩ : ∃ i, i = l.findIdx p := ⟨_, rfl⟩
  have hpi : p (l.getD i default) = true := by
    have := List.findIdx_getElem (w := hi)
    rw [hie, List.getD_eq_getElem?_getD, List.getElem?_eq_getElem hi]
    exact this
  have hall : ∀ k, k < i → p (l.getD k default) = false := fun k hkk => by
    have := List.not_of_lt_findIdx (p := p) (xs := l) (i := k) (by omega)
    rw [List.getD_eq_getElem?_getD, List.getElem?_eq_getElem (by omega)]
    simpa using this
  rw [← hie] at hi ⊢
  have hki : keptN p l (i + 1) = l.take i := by rw [kept_no hi hpi, kept_all (by omega) hall]
  rw [show ((i : Int) == -1) = false from beq_eq_false_iff_ne.2 (by omega)]
  conv => whnf
  refine ⟨by first | omega | (simp only [Int.toNat_natCast]; omega) | (simp; done) | (simp; omega), ?_⟩
  conv => whnf
  refine ALoop.introR tysOk followsB (fun x : {x : Nat × List Ch // x.1 ≤ l.length ∧ x.2.length = l.length ∧ (keptN p l x.1).length < x.1 ∧ x.2.take (keptN p l x.1).length = keptN p l x.1 ∧ ∀ k, x.1 ≤ k → x.2.getD k default = l.getD k default} =>
    ([(0, .rsl E0 14 0 l.length), (1, .fn 20 capP), (5, tvi (keptN p l x.1.1).length), (6, tvi x.1.1)], (E0, rowF l.length fun k => encCh (x.1.2.getD k default)) :: capH f t g most)) (fun x => l.length - x.1.1) ⟨(i + 1, l), by dsimp only; omega, rfl, ?_, ?_, fun k _ => rfl⟩ ?_ ?_
  · dsimp only
    rw [hki, List.length_take]; omega
  · dsimp only
    rw [hki, List.length_take, Nat.min_eq_left (by omega)]
  · refine ⟨.refl _, .refl _, .of_eq ?_, .refl _, OLe.refl _, OLe.refl _, OLe.refl _, OLe.refl _, OLe.refl _, trivial⟩
    dsimp only
    rw [hki, List.length_take, Nat.min_eq_left (by omega)]
  rintro ⟨⟨j, m⟩, i1, i2, i3, i4, i5⟩
  dsimp only at i1 i2 i3 i4 i5 ⊢
  conv => whnf
  split <;> rename_i h1
  · have hlt : j < l.length := by simpa using h1
    have hm : l.getD j default ∈ l := by
      rw [List.getD_eq_getElem?_getD, List.getElem?_eq_getElem hlt]
      exact List.getElem_mem hlt
    have hd := del1_spec f t g most (m.getD (Int.toNat j) default) (by rw [show m.getD (Int.toNat j) default = l.getD j default from i5 j (Nat.le_refl _)]; exact hk _ hm)
    rw [hp, show m.getD (Int.toNat j) default = l.getD j default from i5 j (Nat.le_refl _)] at hd
    conv => whnf
    refine ⟨by first | omega | (simp only [Int.toNat_natCast]; omega) | (simp; done) | (simp; omega), ?_⟩
    conv => whnf
    refine ⟨by first | omega | (simp only [Int.toNat_natCast]; omega) | (simp; done) | (simp; omega), ?_⟩
    conv => whnf
    rw [show m.getD (0 + Int.toNat j) default = l.getD j default from by rw [Nat.zero_add]; exact i5 j (Nat.le_refl _)]
    refine ⟨_, hd, ?_⟩
    rintro q rfl
    conv => whnf
    cases hpj : p (l.getD j default)
    · have hkj := kept_yes hlt hpj
      have hlj : (keptN p l (j + 1)).length = (keptN p l j).length + 1 := by rw [hkj, List.length_append]; rfl
      have hkl := kept_len p l (j + 1)
      conv => whnf
      refine ⟨by first | omega | (simp only [Int.toNat_natCast]; omega) | (simp; done) | (simp; omega), ?_⟩
      conv => whnf
      refine ⟨by first | omega | (simp only [Int.toNat_natCast]; omega) | (simp; done) | (simp; omega), ?_⟩
      conv => whnf
      refine ⟨by first | omega | (simp only [Int.toNat_natCast]; omega) | (simp; done) | (simp; omega), ?_⟩
      conv => whnf
      refine ⟨by first | omega | (simp only [Int.toNat_natCast]; omega) | (simp; done) | (simp; omega), ?_⟩
      conv => whnf
      refine ⟨⟨(j + 1, m.set (keptN p l j).length (l.getD j default)), ?_, ?_, ?_, ?_, fun k hk' => ?_⟩, [], ?_, .refl _, .refl _, .of_eq ?_, .refl _, ⟨rfl, rfl, rfl, fun k hk' => ?_⟩, OLe.refl _, OLe.refl _, OLe.refl _, OLe.refl _, trivial⟩
      · dsimp only; omega
      · dsimp only; rw [List.length_set, i2]
      · dsimp only; omega
      · dsimp only
        rw [hlj, take_set_snoc (by omega), i4, hkj]
      · dsimp only at hk' ⊢
        rw [List.getD_eq_getElem?_getD, List.getElem?_set_ne (by omega), ← List.getD_eq_getElem?_getD]
        exact i5 k (by omega)
      · dsimp only; omega
      · dsimp only
        rw [hlj]; rfl
      · have hfu := fupd_set m (keptN p l j).length (l.getD j default) (by omega) k
        rw [show 0 + Int.toNat ((keptN p l j).length : Int) = (keptN p l j).length from by omega]
        exact hfu
    · have hkj := kept_no hlt hpj
      conv => whnf
      refine ⟨by first | omega | (simp only [Int.toNat_natCast]; omega) | (simp; done) | (simp; omega), ?_⟩
      conv => whnf
      refine ⟨⟨(j + 1, m), by dsimp only; omega, i2, by dsimp only; rw [hkj]; omega, by dsimp only; rw [hkj]; exact i4, fun k hk' => i5 k (by dsimp only at hk'; omega)⟩, [], by dsimp only; omega, .refl _, .refl _, .of_eq (by dsimp only; rw [hkj]), .refl _, OLe.refl _, OLe.refl _, OLe.refl _, OLe.refl _, OLe.refl _, trivial⟩
  · have hlt : ¬ j < l.length := by simpa using h1
    obtain rfl : j = l.length := by omega
    rw [← hkn] at i3 i4 ⊢
    obtain ⟨q, hq⟩ : ∃ q, q = keep.length := ⟨_, rfl⟩
    rw [← hq] at i3 i4 ⊢
    have hF : ∀ k, k < q → encCh (m.getD k default) = encCh (keep.getD k default) := fun k hk' => by
      rw [← i4, getD_take _ hk']
    cases q with
    | zero =>
      conv => whnf
      refine ⟨by first | omega | (simp only [Int.toNat_natCast]; omega) | (simp; done) | (simp; omega), ?_⟩
      conv => whnf
      refine ⟨by first | omega | (simp only [Int.toNat_natCast]; omega) | (simp; done) | (simp; omega), ?_⟩
      conv => whnf
      refine ⟨by first | omega | (simp only [Int.toNat_natCast]; omega) | (simp; done) | (simp; omega), ?_⟩
      conv => whnf
      exact ⟨_, (E0, .row 35 14 l.length _) :: capH f t g most, .refl _, ⟨OLe.refl _, OLe.refl _, OLe.refl _, OLe.refl _, OLe.refl _, trivial⟩, rfl, _, fun k hk' => by omega, rfl⟩
    | succ q =>
      conv => whnf
      refine ⟨by first | omega | (simp only [Int.toNat_natCast]; omega) | (simp; done) | (simp; omega), ?_⟩
      conv => whnf
      refine ⟨by first | omega | (simp only [Int.toNat_natCast]; omega) | (simp; done) | (simp; omega), ?_⟩
      conv => whnf
      refine ⟨by first | omega | (simp only [Int.toNat_natCast]; omega) | (simp; done) | (simp; omega), ?_⟩
      conv => whnf
      refine ⟨_, (E0, .row 35 14 l.length _) :: capH f t g most, .refl _, ⟨OLe.refl _, OLe.refl _, OLe.refl _, OLe.refl _, OLe.refl _, trivial⟩, rfl, _, fun k hk' => ?_, rfl⟩
      dsimp only
      rw [if_neg (by omega)]
      exact hF k (by omega)
end Go.Proofs.YtcdondbegnbdgaaDoor
