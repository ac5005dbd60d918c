/- Chapter 6: the bytes of items: Build. -/
import Derived.Test.YtbghocipmlobnaaGreatTlvB
namespace Go.Proofs.YtbghocipmlobnaaGreat
open Go Go.RowKit Towline Towline.Tlv
set_option linter.unusedVariables false
set_option linter.unusedSimpArgs false
set_option maxRecDepth 20000
set_option maxHeartbeats 4000000
abbrev bldT : Tys := tysX false [] [(147, [false, true]), (106, []), (149, []), (107, [])] [208]
abbrev bldTOk : TysOk Tryz.prog bldT := tysXOk _ _ _ _
/-- Is the Builder written already? -/
abbrev pOf : Nat → AVal
  | 0 => nilP
  | _ + 1 => .ptr 4 0
abbrev S6 (l : List Tlv.It) (k : Nat) : Env × Heap := ([(2, tvs []), (3, tvi 0), (4, .ptr 4 0), (10, .d (slT 2 encI l)), (11, tvi l.length), (12, tvi k)], [(4, .box [pOf k, .rsl 1000 1 0 (Tlv.bytes (l.take k)).length] (some 208)), (1000, .row 5 1 (Tlv.bytes (l.take k)).length (bytesF (Tlv.bytes (l.take k))))])
theorem step_len (l : List Tlv.It) (k : Nat) (h : k < l.length) : (Tlv.bytes (l.take k)).length + 4 + ((l.getD k default).v ++ List.replicate (padN ((l.getD k default).v.length + 4)) 0).length = (Tlv.bytes (l.take (k + 1))).length := by
  rw [bytes_take l k h, List.length_append]
  simp only [Tlv.enc, hdr, tailB, List.length_append, List.length_cons, List.length_nil]
  omega
theorem step_row (l : List Tlv.It) (k : Nat) (h : k < l.length) (G : Nat → List D) (hG : ∀ j, j < 4 → G j = bytesF (hdr (l.getD k default)) j) : ∀ j, j < (Tlv.bytes (l.take k)).length + 4 + ((l.getD k default).v ++ List.replicate (padN ((l.getD k default).v.length + 4)) 0).length →
    fcat (fcat (bytesF (Tlv.bytes (l.take k))) (Tlv.bytes (l.take k)).length G) ((Tlv.bytes (l.take k)).length + 4) (bytesF ((l.getD k default).v ++ List.replicate (padN ((l.getD k default).v.length + 4)) 0)) j = bytesF (Tlv.bytes (l.take (k + 1))) j := by
  intro j hj
  have h1 : ∀ j, j < (Tlv.bytes (l.take k)).length + 4 → fcat (bytesF (Tlv.bytes (l.take k))) (Tlv.bytes (l.take k)).length G j = bytesF (Tlv.bytes (l.take k) ++ hdr (l.getD k default)) j := fun j hj =>
    (fcat_congr (fun _ _ => rfl) hG j hj).trans (fcat_bytes _ _ j hj)
  rw [fcat_congr h1 (fun _ _ => rfl) j hj]
  have hlen : (Tlv.bytes (l.take k)).length + 4 = (Tlv.bytes (l.take k) ++ hdr (l.getD k default)).length := by
    rw [List.length_append]; rfl
  rw [hlen] at hj ⊢
  rw [fcat_bytes _ _ j hj, bytes_take l k h, List.append_assoc]
  rfl
theorem hdr_row (x : Tlv.It) : ∀ j, j < 4 → ([D.i .u8 (IntKind.u8.wrap (shrOp .i64 x.ty 8))] :: [D.i .u8 (IntKind.u8.wrap x.ty)] :: [D.i .u8 (IntKind.u8.wrap (shrOp .i64 (x.v.length + 4) 8))] :: [D.i .u8 (IntKind.u8.wrap (x.v.length + 4))] :: replF 0 ty5.zero).getD j [] = bytesF (hdr x) j := by
  intro j hj
  match j, hj with
  | 0, _ => show [D.i .u8 (IntKind.u8.wrap (x.ty.fdiv 256))] = [D.i .u8 ((u8 (x.ty.fdiv 256)).toNat : Nat)]; rw [u8_wrap]
  | 1, _ => show [D.i .u8 (IntKind.u8.wrap x.ty)] = [D.i .u8 ((u8 x.ty).toNat : Nat)]; rw [u8_wrap]
  | 2, _ => show [D.i .u8 (IntKind.u8.wrap ((x.v.length + 4 : Int).fdiv 256))] = [D.i .u8 ((u8 (((x.v.length + 4 : Nat) : Int).fdiv 256)).toNat : Nat)]; rw [u8_wrap]; rfl
  | 3, _ => show [D.i .u8 (IntKind.u8.wrap (x.v.length + 4 : Int))] = [D.i .u8 ((u8 ((x.v.length + 4 : Nat) : Int)).toNat : Nat)]; rw [u8_wrap]; rfl
theorem build_spec (l : List Tlv.It) (h4 : l.length ≤ 2 ^ 20) : PSpec Tryz.prog 90 [.d (slT 2 encI l)] (· = .tup [tvs (buildL l).1, tvi (buildL l).2]) := by
  refine PSpec.run (bldTOk) followsB Tryz.func90 (by decide) rfl Tryz.ntmps90 (Nat.le_of_ble_eq_true rfl) rfl fun w0 R0 hGw => ?_
  conv => whnf
  refine ⟨_, contains_spec _ badTy l (by omega) bad_spec, ?_⟩
  rintro q rfl
  conv => whnf
  split <;> rename_i h0
  · have h0 : l.any badTy = true := h0
    conv => whnf
    rw [show buildL l = ([], 1) from by unfold buildL; rw [if_pos h0]]
    exact ⟨_, .refl _, rfl, rfl⟩
  have h0 : l.any badTy = false := h0
  conv => whnf
  refine ALoop.adoptCell 4 1 1000 1 5 (bytesF []) rfl rfl rfl rfl rfl ?_
  refine ALoop.introR bldTOk followsB (fun k : {k // k ≤ l.length ∧ ∀ j, j < k → longV (l.getD j default) = false} => S6 l k.1) (fun k => l.length - k.1) ⟨0, by omega, fun j hj => by omega⟩ ?_ ?_
  · refine ⟨.refl _, .refl _, .refl _, .refl _, .refl _, .refl _, ?_⟩
    exact ⟨⟨⟨.refl _, .refl _, trivial⟩, rfl⟩, ⟨rfl, rfl, rfl, fun k hk => by simp at hk⟩, trivial⟩
  · rintro ⟨k, hk1, hk2⟩
    dsimp only
    rcases k with _ | k
    ·
      conv => whnf
      split <;> rename_i h1
      · have hlt : 0 < l.length := Int.ofNat_lt.1 (of_decide_eq_true h1)
        conv => whnf
        refine ⟨by first | omega | (simp only [Int.toNat_natCast]; omega) | (simp; done) | (simp; omega), ?_⟩
        conv => whnf
        split <;> rename_i h2
        · have h2 : longV (l.getD 0 default) = true := decide_eq_true (Int.ofNat_lt.1 (of_decide_eq_true h2))
          conv => whnf
          rw [show buildL l = ([], 4) from by unfold buildL; rw [if_neg (by simp [h0]), if_pos (any_true hlt h2)]]
          exact ⟨_, .refl _, rfl, rfl⟩
        · have h2 : longV (l.getD 0 default) = false := decide_eq_false (fun h => of_decide_eq_false h2 (Int.ofNat_lt.2 h))
          have hb := bytes_len l 0 (by omega) hk2
          have hv : (l.getD 0 default).v.length ≤ 1400 := by
            have h : ¬ 1400 < (l.getD 0 default).v.length := of_decide_eq_false h2
            omega
          have hpad : padN ((l.getD 0 default).v.length + 4) < 4 := Nat.mod_lt _ (by decide)
          have hp := pad_spec ((l.getD 0 default).v.length + 4) (by omega)
          push_cast at hp
          conv => whnf
          refine ⟨by first | omega | (simp only [Int.toNat_natCast]; omega) | (simp; done) | (simp; omega), ?_⟩
          conv => whnf
          refine ⟨by first | omega | (simp only [Int.toNat_natCast]; omega) | (simp; done) | (simp; omega), ?_⟩
          conv => whnf
          refine ⟨by first | omega | (simp only [Int.toNat_natCast]; omega) | (simp; done) | (simp; omega), ?_⟩
          conv => whnf
          refine ⟨by first | omega | (simp only [Int.toNat_natCast]; omega) | (simp; done) | (simp; omega), ?_⟩
          conv => whnf
          refine ⟨_, write_fresh (Tlv.bytes (l.take 0)).length 4 _ _ (by omega), ?_⟩
          rintro q hq ⟨rfl, rfl⟩
          conv => whnf
          refine ⟨_, hp, ?_⟩
          conv => whnf
          refine ⟨_, repeat_spec _ (by omega), ?_⟩
          conv => whnf
          refine ⟨by simp only [List.length_replicate, Int.toNat_natCast]; omega, ?_⟩
          conv => whnf
          refine ⟨_, _, writeS_used ((Tlv.bytes (l.take 0)).length + 4) _ ((l.getD 0 default).v ++ List.replicate (padN ((l.getD 0 default).v.length + 4)) 0) (by simp only [List.length_append, List.length_replicate]; omega), ?_⟩
          conv => whnf
          refine ⟨by kernel_rfl, ?_⟩
          conv => whnf
          refine ⟨by first | omega | (simp only [Int.toNat_natCast]; omega) | (simp; done) | (simp; omega), ?_⟩
          conv => whnf
          refine ⟨⟨0 + 1, by omega, fun j hj => ?_⟩, [(45000, 1000)], by dsimp only; omega, ?_⟩
          · rcases Nat.lt_or_eq_of_le (show j ≤ 0 from by omega) with h | rfl
            · exact hk2 j h
            · exact h2
          · refine ⟨.refl _, .refl _, .refl _, .refl _, .refl _, .refl _, ⟨⟨.refl _, .of_eq (congrArg (AVal.rsl 1000 1 0) (step_len l 0 hlt)), trivial⟩, rfl⟩, ⟨rfl, rfl, step_len l 0 hlt, ?_⟩, trivial⟩
            exact step_row l 0 hlt _ (hdr_row _)
      · have hge : ¬ 0 < l.length := fun h => of_decide_eq_false h1 (Int.ofNat_lt.2 h)
        have hall : l.take 0 = l := List.take_of_length_le (by omega)
        have hb := bytes_len l 0 hk1 hk2
        have hlong : l.any longV = false := any_false fun j hj => hk2 j (by omega)
        rw [hall] at hb
        conv => whnf
        refine ⟨_, len_spec _ _ _ (by first | exact Or.inl rfl | exact Or.inr rfl), ?_⟩
        rintro q hq ⟨rfl, rfl⟩
        conv => whnf
        refine ⟨_, str_spec _ _ _ (Tlv.bytes (l.take 0)) rfl (fun _ _ => rfl), ?_⟩
        rintro q hq ⟨rfl, rfl⟩
        conv => whnf
        rw [hall, show buildL l = (Tlv.bytes l, 0) from by unfold buildL; rw [if_neg (by simp [h0]), if_neg (by simp [hlong]), if_neg (by omega)]]
        exact ⟨_, .refl _, rfl, rfl⟩
    ·
      conv => whnf
      split <;> rename_i h1
      · have hlt : (k + 1) < l.length := Int.ofNat_lt.1 (of_decide_eq_true h1)
        conv => whnf
        refine ⟨by first | omega | (simp only [Int.toNat_natCast]; omega) | (simp; done) | (simp; omega), ?_⟩
        conv => whnf
        split <;> rename_i h2
        · have h2 : longV (l.getD (k + 1) default) = true := decide_eq_true (Int.ofNat_lt.1 (of_decide_eq_true h2))
          conv => whnf
          rw [show buildL l = ([], 4) from by unfold buildL; rw [if_neg (by simp [h0]), if_pos (any_true hlt h2)]]
          exact ⟨_, .refl _, rfl, rfl⟩
        · have h2 : longV (l.getD (k + 1) default) = false := decide_eq_false (fun h => of_decide_eq_false h2 (Int.ofNat_lt.2 h))
          have hb := bytes_len l (k + 1) (by omega) hk2
          have hv : (l.getD (k + 1) default).v.length ≤ 1400 := by
            have h : ¬ 1400 < (l.getD (k + 1) default).v.length := of_decide_eq_false h2
            omega
          have hpad : padN ((l.getD (k + 1) default).v.length + 4) < 4 := Nat.mod_lt _ (by decide)
          have hp := pad_spec ((l.getD (k + 1) default).v.length + 4) (by omega)
          push_cast at hp
          conv => whnf
          refine ⟨by first | omega | (simp only [Int.toNat_natCast]; omega) | (simp; done) | (simp; omega), ?_⟩
          conv => whnf
          refine ⟨by first | omega | (simp only [Int.toNat_natCast]; omega) | (simp; done) | (simp; omega), ?_⟩
          conv => whnf
          refine ⟨by first | omega | (simp only [Int.toNat_natCast]; omega) | (simp; done) | (simp; omega), ?_⟩
          conv => whnf
          refine ⟨by first | omega | (simp only [Int.toNat_natCast]; omega) | (simp; done) | (simp; omega), ?_⟩
          conv => whnf
          refine ⟨_, write_used (Tlv.bytes (l.take (k + 1))).length 4 _ _ (by omega), ?_⟩
          rintro q hq ⟨rfl, rfl⟩
          conv => whnf
          refine ⟨_, hp, ?_⟩
          conv => whnf
          refine ⟨_, repeat_spec _ (by omega), ?_⟩
          conv => whnf
          refine ⟨by simp only [List.length_replicate, Int.toNat_natCast]; omega, ?_⟩
          conv => whnf
          refine ⟨_, _, writeS_used ((Tlv.bytes (l.take (k + 1))).length + 4) _ ((l.getD (k + 1) default).v ++ List.replicate (padN ((l.getD (k + 1) default).v.length + 4)) 0) (by simp only [List.length_append, List.length_replicate]; omega), ?_⟩
          conv => whnf
          refine ⟨by kernel_rfl, ?_⟩
          conv => whnf
          refine ⟨by first | omega | (simp only [Int.toNat_natCast]; omega) | (simp; done) | (simp; omega), ?_⟩
          conv => whnf
          refine ⟨⟨(k + 1) + 1, by omega, fun j hj => ?_⟩, [(45000, 1000)], by dsimp only; omega, ?_⟩
          · rcases Nat.lt_or_eq_of_le (show j ≤ (k + 1) from by omega) with h | rfl
            · exact hk2 j h
            · exact h2
          · refine ⟨.refl _, .refl _, .refl _, .refl _, .refl _, .refl _, ⟨⟨.refl _, .of_eq (congrArg (AVal.rsl 1000 1 0) (step_len l (k + 1) hlt)), trivial⟩, rfl⟩, ⟨rfl, rfl, step_len l (k + 1) hlt, ?_⟩, trivial⟩
            exact step_row l (k + 1) hlt _ (hdr_row _)
      · have hge : ¬ (k + 1) < l.length := fun h => of_decide_eq_false h1 (Int.ofNat_lt.2 h)
        have hall : l.take (k + 1) = l := List.take_of_length_le (by omega)
        have hb := bytes_len l (k + 1) hk1 hk2
        have hlong : l.any longV = false := any_false fun j hj => hk2 j (by omega)
        rw [hall] at hb
        conv => whnf
        refine ⟨_, len_spec _ _ _ (by first | exact Or.inl rfl | exact Or.inr rfl), ?_⟩
        rintro q hq ⟨rfl, rfl⟩
        conv => whnf
        split <;> rename_i h5
        · have h5 := of_decide_eq_true h5
          rw [hall] at h5
          conv => whnf
          rw [show buildL l = ([], 4) from by unfold buildL; rw [if_neg (by simp [h0]), if_neg (by simp [hlong]), if_pos (Int.ofNat_lt.1 h5)]]
          exact ⟨_, .refl _, rfl, rfl⟩
        · have h5 := of_decide_eq_false h5
          rw [hall] at h5
          conv => whnf
          refine ⟨_, str_spec _ _ _ (Tlv.bytes (l.take (k + 1))) rfl (fun _ _ => rfl), ?_⟩
          rintro q hq ⟨rfl, rfl⟩
          conv => whnf
          rw [hall, show buildL l = (Tlv.bytes l, 0) from by unfold buildL; rw [if_neg (by simp [h0]), if_neg (by simp [hlong]), if_neg (fun h => h5 (Int.ofNat_lt.2 h))]]
          exact ⟨_, .refl _, rfl, rfl⟩
end Go.Proofs.YtbghocipmlobnaaGreat
