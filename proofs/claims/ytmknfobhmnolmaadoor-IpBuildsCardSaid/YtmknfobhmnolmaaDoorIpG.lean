/- Chapter 5: datagrams are built: contracts. -/
import Derived.Test.YtmknfobhmnolmaaDoorIpF
namespace Go.Proofs.YtmknfobhmnolmaaDoor
open Go Go.RowKit Towline Towline.Ip
set_option linter.unusedVariables false
set_option linter.unusedSimpArgs false
set_option maxRecDepth 20000
set_option maxHeartbeats 4000000
abbrev lentP : List (Nat × List Bool) := [(18, [])]
theorem lheap1 {P : Program} {f : FuncId} {args : List AVal} {i : Nat} {o o' : AObj} {post : AVal → Heap → Prop} (h : LSpec P f args [(i, o)] post) (ho : OLe o' o) : LSpec P f args [(i, o')] post := by
  have e1 : ∀ (o : AObj) id x, lookO id [(i, o)] = some x → id = i ∧ x = o := fun o id x hx => by
    simp only [lookO] at hx
    split at hx
    · rename_i hb
      exact ⟨(Nat.eq_of_beq_eq_true hb).symm, by cases hx; rfl⟩
    · cases hx
  have e2 : ∀ o : AObj, lookO i [(i, o)] = some o := fun o => by simp [lookO]
  have e : ∀ L, owned L (lko [(i, o')]) = owned L (lko [(i, o)]) := fun L => funext fun b => propext
    ⟨fun ⟨id, x, k1, k2⟩ => by obtain ⟨rfl, rfl⟩ := e1 _ _ _ k1; exact ⟨id, o, e2 o, k2⟩, fun ⟨id, x, k1, k2⟩ => by obtain ⟨rfl, rfl⟩ := e1 _ _ _ k1; exact ⟨id, o', e2 o', k2⟩⟩
  refine ⟨h.1, fun w R L vs k0 k1 k2 k3 k4 k5 k6 k7 => ?_⟩
  refine (h.2 w R L vs k0 k1 k2 (fun b => by rw [k3 b, e]) k4 (fun id x hx => ?_) (fun a b oa ob bb ha hb => ?_) (fun id x b hx => ?_)).mono ?_
  · obtain ⟨rfl, rfl⟩ := e1 _ _ _ hx
    exact (k5 _ _ (e2 o')).weaken ho
  · obtain ⟨rfl, rfl⟩ := e1 _ _ _ ha
    obtain ⟨rfl, rfl⟩ := e1 _ _ _ hb
    exact fun _ _ => rfl
  · obtain ⟨rfl, rfl⟩ := e1 _ _ _ hx
    exact k7 _ _ b (e2 o')
  · rintro e' w' ⟨v, r, hl', L', m1, m2, m3, m4⟩
    refine ⟨v, r, hl', L', m1, m2, ⟨?_, ?_, m3.inj, ?_, ?_⟩, ?_⟩
    · rw [e]; exact m3.below
    · have := m3.obj
      unfold lgood at this ⊢
      rw [e]; exact this
    · have := m3.own
      rw [e]; exact this
    · intro id x x' hx hx'
      obtain ⟨rfl, rfl⟩ := e1 _ _ _ hx
      exact m3.kept _ _ _ (e2 o) hx'
    · unfold lgood at m4 ⊢
      rw [e]; exact m4
@[simp] theorem b2_len (n : Nat) : (b2 n).length = 2 := rfl
theorem appN {s t : List UInt8} {f : Nat → List D} {n : Nat} (hn : s.length = n) (hf : ∀ k, k < n → f k = bytesF s k) {g : Nat → List D} (hg : ∀ k, k < t.length → g k = bytesF t k) (k : Nat) (hk : k < n + t.length) : fcat f n g k = bytesF (s ++ t) k := by
  subst hn
  exact (fcat_congr hf hg k hk).trans (fcat_bytes s t k hk)
theorem bytes_set (v : List UInt8) (i : Nat) (x : UInt8) (hi : i < v.length) (k : Nat) : fupd (bytesF v) i [.i .u8 (x.toNat : Nat)] k = bytesF (v.set i x) k := by
  unfold fupd bytesF
  by_cases h : k = i
  · subst h
    rw [if_pos rfl, List.getD_eq_getElem?_getD, List.getElem?_set_self hi]
    rfl
  · rw [if_neg h, List.getD_eq_getElem?_getD, List.getD_eq_getElem?_getD, List.getElem?_set_ne (fun e => h e.symm)]
theorem fupd_pt {f g : Nat → List D} {i : Nat} {r : List D} {k : Nat} (h : f k = g k) : fupd f i r k = fupd g i r k := by
  unfold fupd
  split
  · rfl
  · exact h
theorem fupd_congr {f g : Nat → List D} (h : ∀ k, f k = g k) (i : Nat) (r : List D) (k : Nat) : fupd f i r k = fupd g i r k := fupd_pt (h k)
theorem two_rows (k : Nat) (hk : k < 2) : (fun k => ([D.i IntKind.u8 69] :: [D.i IntKind.u8 0] :: replF 0 ty5.zero).getD k []) k = bytesF [69, 0] k := by
  have hh : k = 0 ∨ k = 1 := by omega
  rcases hh with rfl | rfl <;> rfl
theorem build5_spec (h : Hd) (p : List UInt8) (hp : p.length ≤ 2 ^ 30) : PSpec Tryd.prog 10 [hA h, tvs p] (· = .tup [tvs (buildH h p).1, tvi (buildH h p).2]) := by
  refine PSpec.run ((tysLOk lentP)) followsB Tryd.func10 (by decide) rfl Tryd.ntmps10 (Nat.le_of_ble_eq_true rfl) rfl fun w0 R0 hG => ?_
  conv => whnf
  refine ⟨_, (right5_spec h), ?_⟩
  rintro q rfl
  conv => whnf
  by_cases hr : OkH h
  rotate_left
  · rw [show rightH h = false from decide_eq_false hr]
    conv => whnf
    rw [show buildH h p = ([], 1) from by unfold buildH rightH; rw [if_pos (decide_eq_false hr)]]
    exact ⟨_, .refl _, rfl, rfl⟩
  rw [show rightH h = true from decide_eq_true hr]
  conv => whnf
  by_cases hl : 1500 < p.length
  · rw [show decide ((1500 : Int) < (p.length : Int)) = true from decide_eq_true (by omega)]
    conv => whnf
    rw [show buildH h p = ([], 4) from by unfold buildH; rw [if_neg (by simp [rightH, hr]), if_pos hl]]
    exact ⟨_, .refl _, rfl, rfl⟩
  rw [show decide ((1500 : Int) < (p.length : Int)) = false from decide_eq_false (by omega)]
  conv => whnf
  by_cases h6 : h.ver = 6
  · rw [show (h.ver == 6) = true from beq_iff_eq.2 h6]
    rw [build6 hr (by omega) h6]
    conv => whnf
    refine ⟨_, put4_spec, ?_⟩
    rintro q hq ⟨rfl, rfl⟩
    conv => whnf
    have e6 : ([96, 0, 0, 0] ++ b2 p.length).length = 6 := rfl
    have hft : h.from_.length = 16 ∧ h.to_.length = 16 := by rcases hr.1 with h4' | h6' <;> constructor <;> omega
    refine ⟨_, (put2_spec [96, 0, 0, 0] (by decide) p.length (by omega)), ?_⟩
    rintro q hq ⟨rfl, rfl⟩
    conv => whnf
    refine ⟨⟨⟨rfl, by omega, by simp only [ty5]; omega⟩, by omega⟩, ?_⟩
    conv => whnf
    refine ⟨[96, 0, 0, 0] ++ b2 p.length ++ [132, UInt8.ofNat h.hops.toNat], ⟨rfl, by simp only [b2, List.length_append, List.length_cons, List.length_nil]; omega, fun k hk => ?_⟩, ?_⟩
    · rw [Nat.zero_add]
      refine appN (t := [132, UInt8.ofNat h.hops.toNat]) rfl (fun _ _ => rfl) (fun k hk => ?_) k hk
      have hh : k = 0 ∨ k = 1 := by simp at hk; omega
      rcases hh with rfl | rfl
      · rfl
      · show [D.i .u8 (IntKind.u8.wrap h.hops)] = [D.i .u8 ((UInt8.ofNat h.hops.toNat).toNat : Nat)]
        rw [← wrap8, Int.toNat_of_nonneg hr.2.1]
    conv => whnf
    refine ⟨by first | omega | (simp only [Int.toNat_natCast]; omega) | (simp; done) | (simp; omega), ?_⟩
    conv => whnf
    refine ⟨by first | omega | (simp only [Int.toNat_natCast]; omega) | (simp; done) | (simp; omega), ?_⟩
    conv => whnf
    refine ⟨by first | omega | (simp only [Int.toNat_natCast]; omega) | (simp; done) | (simp; omega), ?_⟩
    conv => whnf
    exact ⟨_, .refl _, rfl, rfl⟩
  · rw [show (h.ver == 6) = false from beq_eq_false_iff_ne.2 h6]
    have h4 : h.ver = 4 := by rcases hr.1 with h4 | h6' <;> omega
    rw [build4 hr (by omega) h4]
    obtain ⟨m, hm⟩ : ∃ m : Nat, h.mark = m := ⟨h.mark.toNat, (Int.toNat_of_nonneg hr.2.2.2).symm⟩
    have hm2 : m ≤ 65535 := by rcases hr.1 with h4' | h6' <;> omega
    have hft : h.from_.length = 4 ∧ h.to_.length = 4 := by rcases hr.1 with h4' | h6' <;> constructor <;> omega
    obtain ⟨v, o, mk, fr, tt⟩ := h
    have hft0 := hft
    dsimp only at hm hft h4
    subst hm
    obtain ⟨a1, a2, a3, a4, rfl⟩ := len4 hft.1
    obtain ⟨b1, b2', b3, b4, rfl⟩ := len4 hft.2
    conv => whnf
    refine ⟨⟨by decide, by decide⟩, ?_⟩
    conv => whnf
    refine ⟨by first | omega | (simp only [Int.toNat_natCast]; omega) | (simp; done) | (simp; omega), ?_⟩
    conv => whnf
    rw [show (20 : Int) + (p.length : Int) = ((20 + p.length : Nat) : Int) from by omega]
    refine ⟨_, (lheap1 (put2_spec [69, 0] (by decide) (20 + p.length) (by omega)) ⟨rfl, rfl, rfl, two_rows⟩), ?_⟩
    rintro q hq ⟨rfl, rfl⟩
    conv => whnf
    have hf4 : (Hd.mk v o (m : Int) [a1, a2, a3, a4] [b1, b2', b3, b4]).from_.length = 4 := rfl
    have ht4 : (Hd.mk v o (m : Int) [a1, a2, a3, a4] [b1, b2', b3, b4]).to_.length = 4 := rfl
    have e4 : ([69, 0] ++ b2 (20 + p.length)).length = 4 := rfl
    have e6 : ([69, 0] ++ b2 (20 + p.length) ++ b2 m).length = 6 := rfl
    refine ⟨_, (put2_spec ([69, 0] ++ b2 (20 + p.length)) (by omega) m (by omega)), ?_⟩
    rintro q hq ⟨rfl, rfl⟩
    conv => whnf
    refine ⟨⟨⟨rfl, by omega, by simp only [ty5]; omega⟩, by omega⟩, ?_⟩
    conv => whnf
    refine ⟨⟨by omega, by omega, by simp only [ty5]; omega⟩, ?_⟩
    conv => whnf
    refine ⟨⟨by omega, by omega, by simp only [ty5]; omega⟩, ?_⟩
    conv => whnf
    refine ⟨by kernel_rfl, ?_⟩
    conv => whnf
    have er : raw4 (Hd.mk v o (m : Int) [a1, a2, a3, a4] [b1, b2', b3, b4]) p.length 0 = [69, 0] ++ b2 (20 + p.length) ++ b2 m ++ [64, 0, UInt8.ofNat o.toNat, 132, 0, 0] ++ [a1, a2, a3, a4] ++ [b1, b2', b3, b4] := by
      have : ((m : Int)).toNat = m := by omega
      show [69, 0] ++ b2 (20 + p.length) ++ b2 ((m : Int)).toNat ++ _ ++ b2 0 ++ _ ++ _ = _
      rw [this]
      rfl
    have h20 := raw4_len (Hd.mk v o (m : Int) [a1, a2, a3, a4] [b1, b2', b3, b4]) p.length 0 hft0.1 hft0.2
    refine ⟨raw4 (Hd.mk v o (m : Int) [a1, a2, a3, a4] [b1, b2', b3, b4]) p.length 0, ⟨by omega, by omega, fun k hk => ?_⟩, ?_⟩
    · rw [Nat.zero_add, er]
      refine appN (by simp <;> omega) (fun k hk => appN (by simp <;> omega) (fun k hk => appN (t := [64, 0, UInt8.ofNat o.toNat, 132, 0, 0]) rfl (fun _ _ => rfl) (fun k hk => ?_) k hk) (fun _ _ => rfl) k hk) (fun _ _ => rfl) k hk
      have hh : k = 0 ∨ k = 1 ∨ k = 2 ∨ k = 3 ∨ k = 4 ∨ k = 5 := by simp at hk; omega
      rcases hh with rfl | rfl | rfl | rfl | rfl | rfl
      · rfl
      · rfl
      · show [D.i .u8 (IntKind.u8.wrap o)] = [D.i .u8 ((UInt8.ofNat o.toNat).toNat : Nat)]
        rw [← wrap8, Int.toNat_of_nonneg hr.2.1]
      · rfl
      · rfl
      · rfl
    conv => whnf
    refine ⟨_, (check16_spec (raw4 (Hd.mk v o (m : Int) [a1, a2, a3, a4] [b1, b2', b3, b4]) p.length 0) (by omega)), ?_⟩
    rintro q rfl
    conv => whnf
    rw [shr8u]
    refine ⟨by first | omega | decide +kernel, ?_⟩
    conv => whnf
    refine ⟨by first | omega | (simp only [Int.toNat_natCast]; omega) | (simp; done) | (simp; omega), ?_⟩
    conv => whnf
    refine ⟨by first | omega | (simp only [Int.toNat_natCast]; omega) | (simp; done) | (simp; omega), ?_⟩
    conv => whnf
    refine ⟨by first | omega | (simp only [Int.toNat_natCast]; omega) | (simp; done) | (simp; omega), ?_⟩
    conv => whnf
    refine ⟨by first | omega | (simp only [Int.toNat_natCast]; omega) | (simp; done) | (simp; omega), ?_⟩
    conv => whnf
    have hc := c16_le (raw4 (Hd.mk v o (m : Int) [a1, a2, a3, a4] [b1, b2', b3, b4]) p.length 0)
    generalize c16 (raw4 (Hd.mk v o (m : Int) [a1, a2, a3, a4] [b1, b2', b3, b4]) p.length 0) = c at *
    have h20c := raw4_len (Hd.mk v o (m : Int) [a1, a2, a3, a4] [b1, b2', b3, b4]) p.length c hft0.1 hft0.2
    refine ⟨raw4 (Hd.mk v o (m : Int) [a1, a2, a3, a4] [b1, b2', b3, b4]) p.length c, ⟨by omega, by omega, fun k hk => ?_⟩, ?_⟩
    · rw [Nat.zero_add k]
      refine (fupd_pt (fupd_pt (g := bytesF (raw4 (Hd.mk v o (m : Int) [a1, a2, a3, a4] [b1, b2', b3, b4]) p.length 0)) ?_)).trans ?_
      · rw [er]
        refine appN (by simp <;> omega) (fun k hk => appN (by simp <;> omega) (fun k hk => appN (t := [64, 0, UInt8.ofNat o.toNat, 132, 0, 0]) rfl (fun _ _ => rfl) (fun k hk => ?_) k hk) (fun _ _ => rfl) k hk) (fun _ _ => rfl) k hk
        have hh : k = 0 ∨ k = 1 ∨ k = 2 ∨ k = 3 ∨ k = 4 ∨ k = 5 := by simp at hk; omega
        rcases hh with rfl | rfl | rfl | rfl | rfl | rfl
        · rfl
        · rfl
        · show [D.i .u8 (IntKind.u8.wrap o)] = [D.i .u8 ((UInt8.ofNat o.toNat).toNat : Nat)]
          rw [← wrap8, Int.toNat_of_nonneg hr.2.1]
        · rfl
        · rfl
        · rfl
      · rw [wrap8, wrap8]
        show fupd (fupd (bytesF _) 10 _) 11 _ k = _
        rw [fupd_congr (fun k => bytes_set _ 10 _ (by omega) k), bytes_set _ 11 _ (by rw [List.length_set]; omega) k]
        rfl
    conv => whnf
    refine ⟨by first | omega | (simp only [Int.toNat_natCast]; omega) | (simp; done) | (simp; omega), ?_⟩
    conv => whnf
    exact ⟨_, .refl _, rfl, rfl⟩
end Go.Proofs.YtmknfobhmnolmaaDoor
