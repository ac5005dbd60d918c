/- Chapter 8: Build: contract. -/
import Derived.Test.YtcdondbegnbdgaaDoorPkC
namespace Go.Proofs.YtcdondbegnbdgaaDoor
open Go Go.RowKit Towline Towline.Tlv Towline.Chunk Towline.Packet Towline.Crc
set_option linter.unusedVariables false
set_option linter.unusedSimpArgs false
set_option maxRecDepth 20000
set_option maxHeartbeats 1000000
theorem LSpec.nilCell {P : Program} {f : FuncId} {args : List AVal} {p : AVal} {tag : Option TypeId} {t : TypeId} {sz : Nat} {g : Nat → List D} {post : AVal → Heap → Prop} (ha : AVal.freeL E1 args = true) (hp : p.free E1 = true)
    (h : LSpec P f args [(E0, .box [p, .rsl E1 sz 0 0] tag), (E1, .row t sz 0 g)] post) : LSpec P f args [(E0, .box [p, .d (.v (.slice none 0 0))] tag)] post := by
  have e1 : ∀ {id o}, lookO id [(E0, AObj.box [p, .d (.v (.slice none 0 0))] tag)] = some o → id = E0 ∧ o = .box [p, .d (.v (.slice none 0 0))] tag := by
    intro id o hx
    rw [lookO_cons] at hx
    split at hx
    · rename_i e; exact ⟨e, (Option.some.inj hx).symm⟩
    · cases hx
  have e2 : ∀ {id o}, lookO id [(E0, AObj.box [p, .rsl E1 sz 0 0] tag), (E1, .row t sz 0 g)] = some o → (id = E0 ∧ o = .box [p, .rsl E1 sz 0 0] tag) ∨ (id = E1 ∧ o = .row t sz 0 g) := by
    intro id o hx
    rw [lookO_cons, lookO_cons] at hx
    split at hx
    · rename_i e; exact .inl ⟨e, (Option.some.inj hx).symm⟩
    · split at hx
      · rename_i e; exact .inr ⟨e, (Option.some.inj hx).symm⟩
      · cases hx
  refine ⟨h.1, fun w R L vs k1 k2 k3 k4 k5 k6 k7 => ?_⟩
  have u0 : (L.upd E1 none 0).blk E0 = L.blk E0 ∧ (L.upd E1 none 0).cap E0 = L.cap E0 := ⟨rfl, rfl⟩
  have u1 : (L.upd E1 none 0).blk E1 = none ∧ (L.upd E1 none 0).cap E1 = 0 := ⟨rfl, rfl⟩
  have eo : owned (L.upd E1 none 0) (lko [(E0, AObj.box [p, .rsl E1 sz 0 0] tag), (E1, .row t sz 0 g)]) = owned L (lko [(E0, AObj.box [p, .d (.v (.slice none 0 0))] tag)]) := by
    funext b
    refine propext ⟨?_, ?_⟩
    · rintro ⟨id, o, k, hb⟩
      rcases e2 k with ⟨rfl, _⟩ | ⟨rfl, _⟩
      · exact ⟨E0, _, rfl, hb⟩
      · rw [u1.1] at hb; cases hb
    · rintro ⟨id, o, k, hb⟩
      obtain ⟨rfl, _⟩ := e1 k
      exact ⟨E0, _, rfl, hb⟩
  have mono : ∀ {x v}, x.free E1 = true → RepA w L R x v → RepA w (L.upd E1 none 0) R x v := by
    intro x v hf hr
    refine RepA.mono (L := L) (L' := L.upd E1 none 0) (Nat.le_refl _) (fun i => i != E1) (fun id hid => ?_) (fun b _ hb => ⟨hb, rfl⟩) hr (fun b _ hb => ⟨hb, rfl⟩) (fun id hid => ?_)
    · have : id ≠ E1 := by simpa using hid
      simp [Lay.upd, this]
    · have : id = E1 := by simpa using hid
      rw [this]; exact hf
  have hbox := k5 E0 _ rfl
  refine (h.2 w R (L.upd E1 none 0) vs k1 k2 (fun b => by rw [eo]; exact k3 b) (fun i x hx => mono (AVal.freeL_get ha i x hx) (k4 i x hx)) (fun id o hx => ?_) (fun i j oi oj b hi hj hbi hbj => ?_) (fun id o b hx hb => ?_)).mono ?_
  · rcases e2 hx with ⟨rfl, rfl⟩ | ⟨rfl, rfl⟩
    · cases hbox with
      | box htag hb hh hz h1 hr =>
        refine .box htag hb hh (by simpa using hz) (fun q hq => h1 q (by simpa using hq)) (fun q y hy => ?_)
        match q, hy with
        | 0, hy =>
          have hy : p = y := by simpa using hy
          subst hy
          exact mono hp (hr 0 _ rfl)
        | 1, hy =>
          have hy : AVal.rsl E1 sz 0 0 = y := by simpa using hy
          subst hy
          rw [repA_v (hr 1 _ rfl)]
          exact .rsl (by rw [u1.2]; exact Nat.le_refl _) (fun h => absurd h (Nat.lt_irrefl _)) (fun _ => by rw [u1.1]; rfl)
        | q + 2, hy => simp at hy
    · exact .row0 u1.1 u1.2
  · rcases e2 hi with ⟨rfl, _⟩ | ⟨rfl, _⟩
    · rcases e2 hj with ⟨rfl, _⟩ | ⟨rfl, _⟩
      · rfl
      · rw [u1.1] at hbj; cases hbj
    · rw [u1.1] at hbi; cases hbi
  · rcases e2 hx with ⟨rfl, _⟩ | ⟨rfl, _⟩
    · exact k7 E0 _ b rfl hb
    · rw [u1.1] at hb; cases hb
  · rintro e w' ⟨v, r, hl2, L2, q1, q2, q3, q4⟩
    have elg : ∀ b, lgood w w' R (L.upd E1 none 0) [(E0, AObj.box [p, .rsl E1 sz 0 0] tag), (E1, .row t sz 0 g)] L2 hl2 b ↔ lgood w w' R L [(E0, AObj.box [p, .d (.v (.slice none 0 0))] tag)] L2 hl2 b := by
      intro b
      unfold lgood
      rw [eo]
    have elg' : lgood w w' R (L.upd E1 none 0) [(E0, AObj.box [p, .rsl E1 sz 0 0] tag), (E1, .row t sz 0 g)] L2 hl2 = lgood w w' R L [(E0, AObj.box [p, .d (.v (.slice none 0 0))] tag)] L2 hl2 := funext fun b => propext (elg b)
    refine ⟨v, r, hl2, L2, q1, q2, ⟨eo ▸ q3.below, fun id o hx => elg' ▸ q3.obj id o hx, q3.inj, fun id o b hx hb => eo ▸ q3.own id o b hx hb, fun id o o' hx hx' => ?_⟩, elg' ▸ q4⟩
    obtain ⟨rfl, _⟩ := e1 hx
    exact q3.kept E0 _ o' rfl hx'
theorem write_nil (m : Nat) (g : Nat → List D) (h : m ≤ 2 ^ 40) : LSpec Tryd.prog 23 [.ptr E0 0, .d (.sl 1 m g)] [(E0, .box [nilP, .d (.v (.slice none 0 0))] (some 62))] (fun r hl => r = .tup [bvi m, nilE] ∧ hl = bldW m g) := by
  refine (LSpec.nilCell (sz := 1) (t := 5) (g := g) rfl rfl (write_fresh 0 m g g (by omega))).mono ?_
  rintro r hl ⟨rfl, rfl⟩
  refine ⟨rfl, ?_⟩
  rw [Nat.zero_add]
  have : fcat g 0 g = g := funext fun k => by simp [fcat]
  rw [this]
theorem flat_take1 {α : Type} [Inhabited α] (f : α → List UInt8) (l : List α) (k : Nat) (h : k < l.length) : (l.take (k + 1)).flatMap f = (l.take k).flatMap f ++ f (l.getD k default) := by
  rw [List.take_add_one, List.flatMap_append, List.getElem?_eq_getElem h, List.getD_eq_getElem?_getD, List.getElem?_eq_getElem h]
  simp
def hB (p : Pk) (k : Nat) : List UInt8 := headP p ++ chunksB (p.chunks.take k)
theorem hB_step (p : Pk) (k : Nat) (h : k < p.chunks.length) : hB p k ++ encC (p.chunks.getD k default) = hB p (k + 1) := by
  unfold hB chunksB
  rw [flat_take1 encC p.chunks k h, List.append_assoc]
theorem hB_len (p : Pk) (h : ∀ c ∈ p.chunks, (buildC c).2 = 0) (k : Nat) : (hB p k).length ≤ 12 + 1400 * k := by
  unfold hB
  rw [List.length_append, head_len, sum_len _ fun c hc => h c (List.mem_of_mem_take hc)]
  have := all_le (p.chunks.take k)
  have : (p.chunks.take k).length ≤ k := by rw [List.length_take]; omega
  omega
theorem head4_row (p : Pk) : ∀ j, j < 4 → ([D.i .u8 (IntKind.u8.wrap (shrOp .u16 p.from_ 8))] :: [D.i .u8 (IntKind.u8.wrap p.from_)] :: [D.i .u8 (IntKind.u8.wrap (shrOp .u16 p.to_ 8))] :: [D.i .u8 (IntKind.u8.wrap p.to_)] :: replF 0 ty5.zero).getD j [] = bytesF (be2 p.from_ ++ be2 p.to_) j := by
  intro j hj
  match j, hj with
  | 0, _ => show [D.i .u8 (IntKind.u8.wrap (p.from_.fdiv 256))] = [D.i .u8 ((u8 (p.from_.fdiv 256)).toNat : Nat)]; rw [u8_wrap]
  | 1, _ => show [D.i .u8 (IntKind.u8.wrap p.from_)] = [D.i .u8 ((u8 p.from_).toNat : Nat)]; rw [u8_wrap]
  | 2, _ => show [D.i .u8 (IntKind.u8.wrap (p.to_.fdiv 256))] = [D.i .u8 ((u8 (p.to_.fdiv 256)).toNat : Nat)]; rw [u8_wrap]
  | 3, _ => show [D.i .u8 (IntKind.u8.wrap p.to_)] = [D.i .u8 ((u8 p.to_).toNat : Nat)]; rw [u8_wrap]
theorem head8_row (p : Pk) : ∀ j, j < 8 → ([D.i .u8 (IntKind.u8.wrap (shrOp .u32 p.tag 24))] :: [D.i .u8 (IntKind.u8.wrap (shrOp .u32 p.tag 16))] :: [D.i .u8 (IntKind.u8.wrap (shrOp .u32 p.tag 8))] :: [D.i .u8 (IntKind.u8.wrap p.tag)] :: [D.i .u8 0] :: [D.i .u8 0] :: [D.i .u8 0] :: [D.i .u8 0] :: replF 0 ty5.zero).getD j [] = bytesF (be4 p.tag ++ [0, 0, 0, 0]) j := by
  intro j hj
  match j, hj with
  | 0, _ => show [D.i .u8 (IntKind.u8.wrap (p.tag.fdiv 16777216))] = [D.i .u8 ((u8 (p.tag.fdiv 16777216)).toNat : Nat)]; rw [u8_wrap]
  | 1, _ => show [D.i .u8 (IntKind.u8.wrap (p.tag.fdiv 65536))] = [D.i .u8 ((u8 (p.tag.fdiv 65536)).toNat : Nat)]; rw [u8_wrap]
  | 2, _ => show [D.i .u8 (IntKind.u8.wrap (p.tag.fdiv 256))] = [D.i .u8 ((u8 (p.tag.fdiv 256)).toNat : Nat)]; rw [u8_wrap]
  | 3, _ => show [D.i .u8 (IntKind.u8.wrap p.tag)] = [D.i .u8 ((u8 p.tag).toNat : Nat)]; rw [u8_wrap]
  | 4, _ => rfl
  | 5, _ => rfl
  | 6, _ => rfl
  | 7, _ => rfl
theorem head_row (p : Pk) (j : Nat) (hj : j < 12) (f g : Nat → List D) (hf : ∀ j, j < 4 → f j = bytesF (be2 p.from_ ++ be2 p.to_) j) (hg : ∀ j, j < 8 → g j = bytesF (be4 p.tag ++ [0, 0, 0, 0]) j) : fcat f 4 g j = bytesF (hB p 0) j := by
  rw [fcat_congr hf hg j hj]
  exact fcat_bytes (be2 p.from_ ++ be2 p.to_) (be4 p.tag ++ [0, 0, 0, 0]) j hj
theorem build8_spec (p : Pk) (hk : ∀ c ∈ p.chunks, ChOk c) (hl : p.chunks.length ≤ 2 ^ 30) : PSpec Tryd.prog 11 [pA p] (· = .tup [tvs (buildP p).1, tvi (buildP p).2]) := by
  refine PSpec.run (bldTOk) followsB Tryd.func11 (by decide) rfl Tryd.ntmps11 (Nat.le_of_ble_eq_true rfl) rfl fun w0 R0 => ?_
  conv => whnf
  refine ⟨_, shaped8_spec p hk hl, ?_⟩
  rintro q rfl
  conv => whnf
  cases ho : okPk p
  · rw [shaped_no ho, show buildP p = ([], 1) from by unfold buildP; rw [if_neg (by rw [ho]; simp)]]
    conv => whnf
    exact ⟨_, .refl _, rfl, rfl⟩
  rw [shaped_yes ho]
  conv => whnf
  by_cases h5 : 1500 < lenP p
  · rw [show buildP p = ([], 4) from by unfold buildP; rw [if_pos ho, if_pos h5], show decide ((1500 : Int) < ((lenP p : Nat) : Int)) = true from decide_eq_true (by omega)]
    conv => whnf
    exact ⟨_, .refl _, rfl, rfl⟩
  rw [show buildP p = (Crc.sealed (rawP p), 0) from by unfold buildP; rw [if_pos ho, if_neg h5], show decide ((1500 : Int) < ((lenP p : Nat) : Int)) = false from decide_eq_false (by omega)]
  have hok := (okPk_iff p).1 ho
  have hm := hok.mem
  have hmany := hok.many
  conv => whnf
  refine ⟨by first | omega | (simp only [Int.toNat_natCast]; omega) | (simp; done) | (simp; omega), ?_⟩
  conv => whnf
  refine ⟨by first | omega | (simp only [Int.toNat_natCast]; omega) | (simp; done) | (simp; omega), ?_⟩
  conv => whnf
  refine ⟨by first | omega | (simp only [Int.toNat_natCast]; omega) | (simp; done) | (simp; omega), ?_⟩
  conv => whnf
  refine ⟨_, write_nil 4 _ (by omega), ?_⟩
  rintro q hq ⟨rfl, rfl⟩
  conv => whnf
  refine ⟨by first | omega | (simp only [Int.toNat_natCast]; omega) | (simp; done) | (simp; omega), ?_⟩
  conv => whnf
  refine ⟨by first | omega | (simp only [Int.toNat_natCast]; omega) | (simp; done) | (simp; omega), ?_⟩
  conv => whnf
  refine ⟨by first | omega | (simp only [Int.toNat_natCast]; omega) | (simp; done) | (simp; omega), ?_⟩
  conv => whnf
  refine ⟨by first | omega | (simp only [Int.toNat_natCast]; omega) | (simp; done) | (simp; omega), ?_⟩
  conv => whnf
  refine ⟨_, write_used 4 8 _ _ (by omega), ?_⟩
  rintro q hq ⟨rfl, rfl⟩
  conv => whnf
  refine ALoop.introR bldTOk followsB (fun k : {k // k ≤ p.chunks.length} => ([(6, .ptr 6 0), (56, .d (slT 14 encCh p.chunks)), (57, tvi p.chunks.length), (58, tvi k.1)], [(6, .box [.ptr 6 0, .rsl 55000 1 0 (hB p k.1).length] (some 62)), (55000, rowB (hB p k.1))])) (fun k => p.chunks.length - k.1) ⟨0, by omega⟩ ?_ ?_
  · exact ⟨.refl _, .refl _, .refl _, .refl _, ⟨⟨.refl _, .of_eq rfl, trivial⟩, rfl⟩, ⟨rfl, rfl, rfl, fun j hj => head_row p j hj _ _ (head4_row p) (head8_row p)⟩, trivial⟩
  rintro ⟨k, hk'⟩
  dsimp only
  conv => whnf
  split <;> rename_i g1
  · have hlt : k < p.chunks.length := by simpa using g1
    have hbs := build_spec7 (p.chunks.getD (Int.toNat k) default) (mem_getD hk hlt)
    have hgood := build_good (hok.right k hlt)
    rw [show buildC (p.chunks.getD (Int.toNat k) default) = (encC (p.chunks.getD k default), 0) from hgood.2.2] at hbs
    dsimp only at hbs
    have hbl := hB_len p hm k
    conv => whnf
    refine ⟨by first | omega | (simp only [Int.toNat_natCast]; omega) | (simp; done) | (simp; omega), ?_⟩
    conv => whnf
    refine ⟨_, hbs, ?_⟩
    rintro q rfl
    conv => whnf
    refine ⟨_, writeS_used (hB p k).length _ (encC (p.chunks.getD k default)) (by omega), ?_⟩
    rintro q hq ⟨rfl, rfl⟩
    conv => whnf
    refine ⟨by first | omega | (simp only [Int.toNat_natCast]; omega) | (simp; done) | (simp; omega), ?_⟩
    conv => whnf
    refine ⟨⟨k + 1, by omega⟩, [(69000, 55000)], by dsimp only; omega, .refl _, .refl _, .refl _, .refl _, ⟨⟨.refl _, .of_eq (congrArg (AVal.rsl 55000 1 0) ?_), trivial⟩, rfl⟩, ⟨rfl, rfl, ?_, fun j hj => ?_⟩, trivial⟩
    · rw [← hB_step p k hlt, List.length_append]
    · rw [← hB_step p k hlt, List.length_append]
    · rw [← hB_step p k hlt]
      exact fcat_bytes _ _ j hj
  · have hlt : ¬ k < p.chunks.length := by simpa using g1
    obtain rfl : k = p.chunks.length := by omega
    have he : hB p p.chunks.length = rawP p := by unfold hB rawP; rw [List.take_length]
    have hlr := raw_len p hm
    rw [he]
    conv => whnf
    refine ⟨_, str_spec _ _ _ (rawP p) rfl (fun _ _ => rfl), ?_⟩
    rintro q hq ⟨rfl, rfl⟩
    conv => whnf
    refine ⟨_, seal_spec (rawP p) (by omega), ?_⟩
    rintro q rfl
    conv => whnf
    rw [show sealL (rawP p) = (Crc.sealed (rawP p), 0) from by unfold sealL; rw [if_neg (by rw [hlr]; unfold lenP; omega)]]
    conv => whnf
    exact ⟨_, .refl _, rfl, rfl⟩
end Go.Proofs.YtcdondbegnbdgaaDoor
namespace Go.Proofs.YtcdondbegnbdgaaDoor
open Go Go.RowKit Towline Towline.Tlv Towline.Chunk Towline.Packet Towline.Crc
set_option linter.unusedVariables false
set_option linter.unusedSimpArgs false
set_option maxRecDepth 20000
set_option maxHeartbeats 1000000
theorem chunksR_nil {s : List UInt8} (h : s.length = 0) : chunksR s = ([], 0) := by
  have : s = [] := List.length_eq_zero_iff.1 h
  rw [this, chunks_nil]
theorem chunksR_bad {s : List UInt8} (h : 0 < s.length) (h2 : (parseC s).2.2 ≠ 0) : chunksR s = ([], (parseC s).2.2) := by
  rw [chunksR, dif_pos h, dif_neg h2]
theorem chunksR_go {s : List UInt8} (h : 0 < s.length) (h2 : (parseC s).2.2 = 0) : (chunksR s).2 = (chunksR (s.drop (parseC s).2.1)).2 ∧ ((chunksR s).2 = 0 → (chunksR s).1 = (parseC s).1 :: (chunksR (s.drop (parseC s).2.1)).1) := by
  rw [chunksR, dif_pos h, dif_pos h2]
  by_cases h3 : (chunksR (s.drop (parseC s).2.1)).2 = 0
  · rw [if_pos h3]; exact ⟨h3.symm, fun _ => rfl⟩
  · rw [if_neg h3]; exact ⟨rfl, fun h => (h3 h).elim⟩
theorem wrap16n (n : Nat) (h : n < 65536) : IntKind.u16.wrap (n : Int) = n := by
  simp [IntKind.wrap, IntKind.signed, IntKind.bits]; omega
theorem parse8_spec (s : List UInt8) (hs : s.length ≤ 2 ^ 40) : PSpec Tryd.prog 12 [tvs s] (· = .tup [pA (parseP s).1, tvi (parseP s).2]) := by
  refine PSpec.run (tysOk) followsB Tryd.func12 (by decide) rfl Tryd.ntmps12 (Nat.le_of_ble_eq_true rfl) rfl fun w0 R0 => ?_
  conv => whnf
  by_cases h1 : 1500 < s.length
  · rw [show parseP s = (nilPk, 4) from by unfold parseP; rw [if_pos h1], show decide ((1500 : Int) < (s.length : Int)) = true from decide_eq_true (by omega)]
    conv => whnf
    refine ⟨.tup [pA nilPk, tvi 4], .tup ⟨.agg ⟨.refl _, .refl _, .refl _, .nil, trivial⟩, .refl _, trivial⟩, rfl, rfl⟩
  rw [show decide ((1500 : Int) < (s.length : Int)) = false from decide_eq_false (by omega)]
  conv => whnf
  refine ⟨_, check_spec s hs, ?_⟩
  rintro q rfl
  conv => whnf
  by_cases h2 : checkL s = 0
  rotate_left
  · rw [show parseP s = (nilPk, checkL s) from by unfold parseP; rw [if_neg h1, if_pos h2], show (checkL s != 0) = true from bne_iff_ne.2 h2]
    conv => whnf
    refine ⟨.tup [pA nilPk, tvi (checkL s)], .tup ⟨.agg ⟨.refl _, .refl _, .refl _, .nil, trivial⟩, .refl _, trivial⟩, rfl, rfl⟩
  rw [h2]
  have h12 : 12 ≤ s.length := by
    unfold checkL at h2
    split at h2
    · cases h2
    · omega
  have n1 := number_spec s 0 2 (by omega) (by decide) hs
  have n2 := number_spec s 2 2 (by omega) (by decide) hs
  have n3 := number_spec s 4 4 (by omega) (by decide) hs
  have w1 := beN_take_lt (s.drop 0) 2
  have w2 := beN_take_lt (s.drop 2) 2
  conv => whnf
  refine ⟨_, n1, ?_⟩
  rintro q rfl
  conv => whnf
  rw [wrap16n _ (by omega)]
  conv => whnf
  refine ⟨_, n2, ?_⟩
  rintro q rfl
  conv => whnf
  rw [wrap16n _ (by omega)]
  conv => whnf
  refine ⟨_, n3, ?_⟩
  rintro q rfl
  conv => whnf
  refine ⟨by first | omega | (simp only [Int.toNat_natCast]; omega) | (simp; done) | (simp; omega), ?_⟩
  conv => whnf
  rw [show cutS s (some 12) none = s.drop 12 from rfl]
  refine ALoop.adoptCell 6 3 1000 14 35 (fun _ => []) rfl rfl rfl rfl rfl ?_
  refine ALoop.introR tysOk followsB (fun x : {x : List UInt8 × List Ch // (chunksR x.1).2 = (chunksR (s.drop 12)).2 ∧ ((chunksR x.1).2 = 0 → (chunksR (s.drop 12)).1 = x.2 ++ (chunksR x.1).1) ∧ x.1.length + x.2.length ≤ 1500 ∧ ∀ c ∈ x.2, ChOk c} =>
    ([(2, .ptr 2 0), (6, .ptr 6 0), (7, tvs x.1.1)], [(2, .box [cv16 0, cv16 0, cv32 0, .d (.v (.slice none 0 0))] none), (6, .box [cv16 (beN ((s.drop 0).take 2) : Nat), cv16 (beN ((s.drop 2).take 2) : Nat), cv32 (beN ((s.drop 4).take 4) : Nat), .rsl 1000 14 0 x.1.2.length] none), (1000, .row 35 14 x.1.2.length (fun k => encCh (x.1.2.getD k default)))]))
    (fun x => x.1.1.length) ⟨(s.drop 12, []), rfl, fun _ => rfl, by simp; omega, fun c hc => by cases hc⟩ ?_ ?_
  · exact ⟨.refl _, .refl _, .refl _, OLe.refl _, ⟨.refl _, .refl _, .refl _, .refl _, trivial⟩, ⟨rfl, rfl, rfl, fun _ hj => by simp at hj⟩, trivial⟩
  rintro ⟨⟨t, l⟩, i1, i2, i3, i4⟩
  dsimp only at i1 i2 i3 i4 ⊢
  conv => whnf
  have hpv : ∀ v e, (¬ (chunksR (s.drop 12)).2 ≠ 0 → v = if rightP (readP s (chunksR (s.drop 12)).1) = true then readP s (chunksR (s.drop 12)).1 else nilPk) → ((chunksR (s.drop 12)).2 ≠ 0 → v = nilPk) →
      (¬ (chunksR (s.drop 12)).2 ≠ 0 → e = if rightP (readP s (chunksR (s.drop 12)).1) = true then 0 else 2) → ((chunksR (s.drop 12)).2 ≠ 0 → e = (chunksR (s.drop 12)).2) → parseP s = (v, e) := by
    intro v e q1 q2 q3 q4
    unfold parseP
    rw [if_neg h1, if_neg (by rw [h2]; simp)]
    by_cases h3 : (chunksR (s.drop 12)).2 ≠ 0
    · rw [if_pos h3, q2 h3, q4 h3]
    · rw [if_neg h3, q1 h3, q3 h3]
      split <;> rfl
  by_cases hz : 0 < t.length
  · rw [show (t != { data := #[] : ByteArray }.data.toList) = true from bne_iff_ne.2 (fun h => by rw [h] at hz; exact absurd hz (by decide))]
    have hp := parseC_spec t (by omega)
    conv => whnf
    refine ⟨_, hp, ?_⟩
    rintro q rfl
    conv => whnf
    by_cases he : (parseC t).2.2 = 0
    rotate_left
    · rw [show ((parseC t).2.2 != 0) = true from bne_iff_ne.2 he]
      have hb := chunksR_bad hz he
      have h3 : (chunksR (s.drop 12)).2 = (parseC t).2.2 := by rw [← i1, hb]
      rw [hpv nilPk (parseC t).2.2 (fun h => (h (by rw [h3]; exact he)).elim) (fun _ => rfl) (fun h => (h (by rw [h3]; exact he)).elim) (fun _ => h3.symm)]
      conv => whnf
      refine ⟨.tup [pA nilPk, tvi (parseC t).2.2], .tup ⟨.agg ⟨.refl _, .refl _, .refl _, .nil, trivial⟩, .refl _, trivial⟩, rfl, rfl⟩
    rw [show ((parseC t).2.2 != 0) = false from by rw [he]; rfl]
    obtain ⟨b1, b2⟩ := chunksR_go hz he
    obtain ⟨k1, k2, k3, k4, k5⟩ := parse_ok he
    obtain ⟨a1, a2, a3, _⟩ := parse_again he
    have hE : (parseC t).2.1 = endN t := by rw [k4]
    have hEb : 4 ≤ endN t ∧ endN t ≤ t.length := by unfold endN; omega
    conv => whnf
    refine ⟨⟨⟨rfl, by omega, by simp only [ty35]; omega⟩, by omega⟩, ?_⟩
    conv => whnf
    conv => whnf
    refine ⟨by first | omega | (simp only [Int.toNat_natCast]; omega) | (simp; done) | (simp; omega), ?_⟩
    conv => whnf
    have hcut : cutS t (some ((parseC t).2.1 : Int)) none = t.drop (parseC t).2.1 := rfl
    rw [hcut]
    refine ⟨⟨(t.drop (parseC t).2.1, l ++ [(parseC t).1]), ?_, ?_, ?_, ?_⟩, [(49, 1000)], ?_, .refl _, .refl _, .refl _, OLe.refl _, ⟨.refl _, .refl _, .refl _, .of_eq (by rw [List.length_append]; rfl), trivial⟩, ⟨rfl, rfl, by simp, fun j hj => ?_⟩, trivial⟩
    · rw [← b1]; exact i1
    · intro h0
      have h0' := h0
      rw [← b1] at h0'
      rw [i2 h0', b2 h0', List.append_assoc]
      rfl
    · rw [List.length_append, List.length_drop, hE]
      simp only [List.length_cons, List.length_nil]
      omega
    · intro c hc
      rcases List.mem_append.1 hc with hc | hc
      · exact i4 c hc
      · rw [List.mem_singleton] at hc; subst hc; exact a3
    · dsimp only
      rw [List.length_drop, hE]
      omega
    · simp only [fcat]
      split
      · rename_i hlt2
        rw [List.getD_eq_getElem?_getD, List.getD_eq_getElem?_getD, List.getElem?_append_left hlt2]
      · have hj2 : j = l.length := by
          have hj3 : j < l.length + 1 := hj
          omega
        subst hj2
        rw [Nat.sub_self, getD_end]
        rfl
  · rw [show (t != { data := #[] : ByteArray }.data.toList) = false from by rw [List.length_eq_zero_iff.1 (show t.length = 0 from by omega)]; rfl]
    have hn := chunksR_nil (show t.length = 0 from by omega)
    rw [hn] at i1 i2
    have h3 : (chunksR (s.drop 12)).1 = l := by rw [i2 rfl, List.append_nil]
    have h4 : (chunksR (s.drop 12)).2 = 0 := i1.symm
    have hR := right8_spec (readP s l) i4 (by show l.length ≤ _; omega)
    have ez : s.drop 0 = s := rfl
    conv => whnf
    refine ⟨by first | omega | (simp only [Int.toNat_natCast]; omega) | (simp; done) | (simp; omega), ?_⟩
    conv => whnf
    refine ⟨_, hR, ?_⟩
    rintro q rfl
    conv => whnf
    cases hr : rightP (readP s l)
    · rw [hpv nilPk 2 (fun _ => by rw [h3, hr]; rfl) (fun _ => rfl) (fun _ => by rw [h3, hr]; rfl) (fun h => (h h4).elim)]
      conv => whnf
      refine ⟨.tup [pA nilPk, tvi 2], .tup ⟨.agg ⟨.refl _, .refl _, .refl _, .nil, trivial⟩, .refl _, trivial⟩, rfl, rfl⟩
    · rw [hpv (readP s l) 0 (fun _ => by rw [h3, if_pos hr]) (fun h => (h h4).elim) (fun _ => by rw [h3, if_pos hr]) (fun h => (h h4).elim)]
      conv => whnf
      refine ⟨by first | omega | (simp only [Int.toNat_natCast]; omega) | (simp; done) | (simp; omega), ?_⟩
      conv => whnf
      exact ⟨_, .refl _, rfl, rfl⟩
end Go.Proofs.YtcdondbegnbdgaaDoor
