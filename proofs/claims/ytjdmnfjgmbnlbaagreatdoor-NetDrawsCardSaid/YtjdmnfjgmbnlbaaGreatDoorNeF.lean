/- The statement NetOwners: its walk. -/
import Derived.Test.YtjdmnfjgmbnlbaaGreatDoorNeE
namespace Go.Proofs.YtjdmnfjgmbnlbaaGreatDoor
open Go Go.RowKit Towline
set_option linter.unusedVariables false
set_option linter.unusedSimpArgs false
set_option maxRecDepth 20000
set_option maxHeartbeats 4000000
abbrev pF (L : List (UInt8 × UInt8)) : Nat → List D := fun k => [.i .u8 ((L.getD k (0, 0)).1.toNat : Nat), .i .u8 ((L.getD k (0, 0)).2.toNat : Nat)]
abbrev TO : Tys := tysX false [] lentD (tgN ++ [5000000000 + 26, 3000000000 + 9])
theorem tysOOk : TysOk Tryz.prog TO := tysXOk _ _ _ _
abbrev seedT : List UInt8 := [115, 101, 101, 100]
abbrev owF (ow : Nat → Nat) : Nat → List D := fun k => [.i .i64 ((ow k : Nat) : Int)]
theorem fupd_owF (ow : Nat → Nat) (k v : Nat) : fupd (owF ow) k [D.i .i64 ((v : Nat) : Int)] = owF (fun x => if x = k then v else ow x) := by
  funext x
  unfold fupd
  show (if x = k then _ else _) = [D.i .i64 (((if x = k then v else ow x : Nat)) : Int)]
  split <;> rfl
theorem LSpec.argsN {P : Program} {f : FuncId} {args args' : List AVal} {hl : Heap} {post : AVal → Heap → Prop} (h : LSpec P f args hl post) (hc : OLe.CLe args' args) : LSpec P f args' hl post := by
  obtain ⟨hlen, hg⟩ := CLe_get hc
  exact ⟨h.1, fun w R L vs h0 h1 h2 h3 h4 h5 h6 h7 => h.2 w R L vs h0 h1 (h2.trans hlen.symm) h3 (fun i y hy => by
    obtain ⟨x, hx, hle⟩ := hg i y hy
    exact hle.out _ _ _ _ (h4 i x hx)) h5 h6 h7⟩
theorem two_args {a b : List UInt8} {f : Nat → List D} (h0 : f 0 = [.s a]) (h1 : f 1 = [.s b]) (p key wi st : AVal) : OLe.CLe [.ptr Z0 0, .agg [.d (.sl 1 2 f), p, key, wi, st]] [.ptr Z0 0, .agg [txD [a, b], p, key, wi, st]] := by
  refine ⟨.refl _, .agg ⟨.sl rfl fun k hk => ?_, .refl _, .refl _, .refl _, .refl _, trivial⟩, trivial⟩
  match k, hk with
  | 0, _ => exact h0
  | 1, _ => exact h1
/-- How far the additions have come. -/
structure NO where
  i : Nat
  many : Nat
  ds : Nat → List D
  O : Own
  ow : Nat → Nat
structure NO.Ok (L : List (UInt8 × UInt8)) (s : NO) : Prop where
  hi : s.i ≤ L.length
  hm : s.many ≤ 8
  look : ∀ b : UInt8, olook s.O [10, 0, 0, b] = if s.ow b.toNat = 0 then none else some (s.ow b.toNat - 1)
  le : ∀ k, s.ow k ≤ s.many
theorem adr_inj (x y : UInt8) : ([10, 0, 0, x] : List UInt8) = [10, 0, 0, y] ↔ x.toNat = y.toNat := by
  constructor
  · intro h
    injection h with _ h
    injection h with _ h
    injection h with _ h
    injection h with h
    rw [h]
  · intro h
    rw [UInt8.toNat_inj.1 h]
theorem own_step (O : Own) (ow : Nat → Nat) (a b : UInt8) (many : Nat) (h : ∀ c : UInt8, olook O [10, 0, 0, c] = if ow c.toNat = 0 then none else some (ow c.toNat - 1)) (c : UInt8) :
    olook (oputs O many [[10, 0, 0, a], [10, 0, 0, b]]) [10, 0, 0, c] = if (if c.toNat = b.toNat then many + 1 else if c.toNat = a.toNat then many + 1 else ow c.toNat) = 0 then none else some ((if c.toNat = b.toNat then many + 1 else if c.toNat = a.toNat then many + 1 else ow c.toNat) - 1) := by
  show olook (oput (oput O [10, 0, 0, a] many) [10, 0, 0, b] many) [10, 0, 0, c] = _
  rw [olook_oput, olook_oput, h c]
  by_cases h3 : c.toNat = b.toNat
  · rw [if_pos ((adr_inj c b).2 h3), if_pos h3]
    simp
  · rw [if_neg (fun h => h3 ((adr_inj c b).1 h)), if_neg h3]
    by_cases h4 : c.toNat = a.toNat
    · rw [if_pos ((adr_inj c a).2 h4), if_pos h4]
      simp
    · rw [if_neg (fun h => h4 ((adr_inj c a).1 h)), if_neg h4]
theorem netOwners_main (L : List (UInt8 × UInt8)) : PSpec Tryz.prog 3 [.d (.sl 2 L.length (pF L))] (· = nb true) := by
  refine PSpec.runS (tysOOk) followsB Tryz.func3 (by decide) rfl Tryz.ntmps3 (Nat.le_of_ble_eq_true rfl) rfl fun w0 R0 hGw => ?_
  conv => whnf
  refine ⟨_, shown_spec, ?_⟩
  rintro q rfl
  conv => whnf
  by_cases hL : 20 < L.length
  · rw [decide_eq_true (show (20 : Int) < L.length by omega)]
    conv => whnf
    refine AGo.go (tysOOk) followsB ?_
    conv => whnf
    exact ⟨_, .refl _, rfl, rfl⟩
  rw [decide_eq_false (show ¬ (20 : Int) < L.length by omega)]
  conv => whnf
  refine AGo.go (tysOOk) followsB ?_
  conv => whnf
  refine ⟨_, (netNew_spec seedT), ?_⟩
  rintro q hq ⟨rfl, rfl⟩
  conv => whnf
  refine AGo.adoptCell 25000 3 900 1 38 (fun _ => []) rfl rfl rfl rfl rfl ?_
  refine AGo.go (tysOOk) followsB ?_
  conv => whnf
  refine ALoop.introR tysOOk followsB (fun s : {s : NO // s.Ok L} => ([(0, .d (.sl 2 L.length (pF L))), (4, .ptr 25000 0), (5, .rptr 5 1 0 0), (6, ni s.1.many), (7, ni s.1.i)], [(25000, .box (netC seedT 0 0 (.rsl 900 1 0 s.1.many) 25001 25002 0)), (900, .row 38 1 s.1.many fun k => [.pt (s.1.ds k)]), (25001, .dmp (ownM s.1.O)), (25002, .mp []), (5, .row (arT + 256) 1 256 (owF s.1.ow))])) (fun s => L.length - s.1.i) ⟨⟨0, 0, fun _ => [], [], fun _ => 0⟩, Nat.zero_le _, Nat.zero_le _, fun b => rfl, fun k => Nat.le_refl _⟩ ?_ ?_
  · refine ⟨.refl _, .refl _, .refl _, .refl _, .refl _, OLe.refl _, ⟨rfl, rfl, rfl, fun k hk => by omega⟩, OLe.refl _, OLe.refl _, ⟨rfl, rfl, rfl, fun k hk => ?_⟩, trivial⟩
    have hz : ty26.zero = List.replicate 256 (D.i .i64 0) := rfl
    show (ty26.zero.drop (k * 1)).take 1 = [D.i .i64 0]
    rw [hz, Nat.mul_one, List.drop_replicate, List.take_replicate, show min 1 (256 - k) = 1 by omega]
    rfl
  rintro ⟨⟨i, many, ds, O, ow⟩, hok⟩
  dsimp only
  conv => whnf
  split <;> rename_i h1
  · have hlt : i < L.length := by have := of_decide_eq_true h1; omega
    conv => whnf
    refine ⟨by first | omega | (simp only [Int.toNat_natCast]; omega) | (simp; done) | (simp; omega), ?_⟩
    conv => whnf
    refine ⟨by first | omega | (simp only [Int.toNat_natCast]; omega) | (simp; done) | (simp; omega), ?_⟩
    conv => whnf
    generalize hab : L.getD (i : Int).toNat (0, 0) = ab
    obtain ⟨a, b⟩ := ab
    refine ⟨[10, 0, 0, a], ⟨rfl, by omega, fun k hk => ?_⟩, ?_⟩
    · match k, hk with
      | 0, _ => rfl
      | 1, _ => rfl
      | 2, _ => rfl
      | 3, _ => rfl
    conv => whnf
    refine ⟨by first | omega | (simp only [Int.toNat_natCast]; omega) | (simp; done) | (simp; omega), ?_⟩
    conv => whnf
    refine ⟨by first | omega | (simp only [Int.toNat_natCast]; omega) | (simp; done) | (simp; omega), ?_⟩
    conv => whnf
    rw [hab]
    refine ⟨[10, 0, 0, b], ⟨rfl, by omega, fun k hk => ?_⟩, ?_⟩
    · match k, hk with
      | 0, _ => rfl
      | 1, _ => rfl
      | 2, _ => rfl
      | 3, _ => rfl
    conv => whnf
    have ha := UInt8.toNat_lt a
    have hb := UInt8.toNat_lt b
    have hma := hok.hm
    have hla := hok.look a
    have hlb := hok.look b
    dsimp only at hma hla hlb
    by_cases h0a : ow a.toNat = 0
    · rw [if_pos h0a] at hla
      by_cases h0b : ow b.toNat = 0
      · rw [if_pos h0b] at hlb
        by_cases hm8 : many = 8
        · subst hm8
          refine ⟨_, (LSpec.argsN (add_full seedT 0 0 8 (by omega) (fun k => [.pt (ds k)]) O 0 [[10, 0, 0, a], [10, 0, 0, b]] 7 [107] 60000 4) (two_args rfl rfl _ _ _ _)), ?_⟩
          rintro q hq ⟨rfl, rfl⟩
          conv => whnf
          refine ⟨by first | omega | (simp only [Int.toNat_natCast]; omega) | (simp; done) | (simp; omega), ?_⟩
          conv => whnf
          refine ⟨by first | omega | (simp only [Int.toNat_natCast]; omega) | (simp; done) | (simp; omega), ?_⟩
          conv => whnf
          rw [hab]
          refine ⟨by first | omega | (simp only [Int.toNat_natCast]; omega) | (simp; done) | (simp; omega), ?_⟩
          conv => whnf
          refine ⟨by first | omega | (simp only [Int.toNat_natCast]; omega) | (simp; done) | (simp; omega), ?_⟩
          conv => whnf
          rw [show (0 + (((a, b) : UInt8 × UInt8).fst.toNat : Int).toNat) = a.toNat from by simp]
          rw [show (((ow a.toNat : Nat) : Int) == 0) = true from by simp [h0a]]
          conv => whnf
          refine ⟨by first | omega | (simp only [Int.toNat_natCast]; omega) | (simp; done) | (simp; omega), ?_⟩
          conv => whnf
          refine ⟨by first | omega | (simp only [Int.toNat_natCast]; omega) | (simp; done) | (simp; omega), ?_⟩
          conv => whnf
          rw [hab]
          refine ⟨by first | omega | (simp only [Int.toNat_natCast]; omega) | (simp; done) | (simp; omega), ?_⟩
          conv => whnf
          refine ⟨by first | omega | (simp only [Int.toNat_natCast]; omega) | (simp; done) | (simp; omega), ?_⟩
          conv => whnf
          rw [show (0 + (((a, b) : UInt8 × UInt8).snd.toNat : Int).toNat) = b.toNat from by simp]
          rw [show (((ow b.toNat : Nat) : Int) == 0) = true from by simp [h0b]]
          conv => whnf
          refine ⟨by first | omega | (simp only [Int.toNat_natCast]; omega) | (simp; done) | (simp; omega), ?_⟩
          conv => whnf
          exact ⟨⟨⟨i + 1, _, ds, O, ow⟩, ⟨by dsimp only; omega, hok.hm, hok.look, hok.le⟩⟩, [], by dsimp only; omega, .refl _, .refl _, .refl _, .refl _, .refl _, OLe.refl _, OLe.refl _, OLe.refl _, OLe.refl _, OLe.refl _, trivial⟩
        · refine ⟨_, (LSpec.argsN (add_ok seedT 0 0 many (by omega) (fun k => [.pt (ds k)]) O 0 [[10, 0, 0, a], [10, 0, 0, b]] (by simp) (by simp) (fun s hs => by simp at hs; rcases hs with rfl | rfl <;> rfl) (fun s hs => by simp at hs; rcases hs with rfl | rfl <;> assumption) 7 (by decide) [107] 60000 4 (by decide) (by decide)) (two_args rfl rfl _ _ _ _)), ?_⟩
          rintro q hq ⟨rfl, rfl⟩
          conv => whnf
          refine ⟨by first | omega | (simp only [Int.toNat_natCast]; omega) | (simp; done) | (simp; omega), ?_⟩
          conv => whnf
          refine ⟨by first | omega | (simp only [Int.toNat_natCast]; omega) | (simp; done) | (simp; omega), ?_⟩
          conv => whnf
          rw [hab]
          refine ⟨by first | omega | (simp only [Int.toNat_natCast]; omega) | (simp; done) | (simp; omega), ?_⟩
          conv => whnf
          refine ⟨by first | omega | (simp only [Int.toNat_natCast]; omega) | (simp; done) | (simp; omega), ?_⟩
          conv => whnf
          rw [show (0 + (((a, b) : UInt8 × UInt8).fst.toNat : Int).toNat) = a.toNat from by simp]
          rw [show (((ow a.toNat : Nat) : Int) == 0) = true from by simp [h0a]]
          conv => whnf
          refine ⟨by first | omega | (simp only [Int.toNat_natCast]; omega) | (simp; done) | (simp; omega), ?_⟩
          conv => whnf
          refine ⟨by first | omega | (simp only [Int.toNat_natCast]; omega) | (simp; done) | (simp; omega), ?_⟩
          conv => whnf
          rw [hab]
          refine ⟨by first | omega | (simp only [Int.toNat_natCast]; omega) | (simp; done) | (simp; omega), ?_⟩
          conv => whnf
          refine ⟨by first | omega | (simp only [Int.toNat_natCast]; omega) | (simp; done) | (simp; omega), ?_⟩
          conv => whnf
          rw [show (0 + (((a, b) : UInt8 × UInt8).snd.toNat : Int).toNat) = b.toNat from by simp]
          rw [show (((ow b.toNat : Nat) : Int) == 0) = true from by simp [h0b]]
          conv => whnf
          rw [show ((many : Int) == 8) = false from by simp; omega]
          conv => whnf
          rw [show ((many : Int) != many) = false from by simp]
          conv => whnf
          refine ⟨by first | omega | (simp only [Int.toNat_natCast]; omega) | (simp; done) | (simp; omega), ?_⟩
          conv => whnf
          refine ⟨by first | omega | (simp only [Int.toNat_natCast]; omega) | (simp; done) | (simp; omega), ?_⟩
          conv => whnf
          refine ⟨by first | omega | (simp only [Int.toNat_natCast]; omega) | (simp; done) | (simp; omega), ?_⟩
          conv => whnf
          rw [hab]
          refine ⟨by first | omega | (simp only [Int.toNat_natCast]; omega) | (simp; done) | (simp; omega), ?_⟩
          conv => whnf
          refine ⟨by first | omega | (simp only [Int.toNat_natCast]; omega) | (simp; done) | (simp; omega), ?_⟩
          conv => whnf
          refine ⟨by first | omega | (simp only [Int.toNat_natCast]; omega) | (simp; done) | (simp; omega), ?_⟩
          conv => whnf
          refine ⟨by first | omega | (simp only [Int.toNat_natCast]; omega) | (simp; done) | (simp; omega), ?_⟩
          conv => whnf
          rw [hab]
          refine ⟨by first | omega | (simp only [Int.toNat_natCast]; omega) | (simp; done) | (simp; omega), ?_⟩
          conv => whnf
          rw [show ((many : Int) + 1) = ((many + 1 : Nat) : Int) from rfl, show (0 + (((a, b) : UInt8 × UInt8).fst.toNat : Int).toNat) = a.toNat from by simp, show (0 + (((a, b) : UInt8 × UInt8).snd.toNat : Int).toNat) = b.toNat from by simp, fupd_owF]
          conv => whnf
          refine ⟨by first | omega | (simp only [Int.toNat_natCast]; omega) | (simp; done) | (simp; omega), ?_⟩
          conv => whnf
          refine ⟨by first | omega | (simp only [Int.toNat_natCast]; omega) | (simp; done) | (simp; omega), ?_⟩
          conv => whnf
          dsimp only [newBase, Nat.reduceAdd, Nat.reduceMul]
          refine ⟨⟨⟨i + 1, many + 1, fun k => if k < many then ds k else epD [[10, 0, 0, a], [10, 0, 0, b]] 7 [107] 60000 4 0, oputs O many [[10, 0, 0, a], [10, 0, 0, b]], fun x => if x = b.toNat then many + 1 else if x = a.toNat then many + 1 else ow x⟩, ⟨by dsimp only; omega, by dsimp only; omega, fun c => ?_, fun k => ?_⟩⟩, [(54000, 900)], by dsimp only; omega, .refl _, .refl _, .refl _, .refl _, .refl _, OLe.refl _, ⟨rfl, rfl, rfl, fun k hk => ?_⟩, OLe.refl _, OLe.refl _, ⟨rfl, rfl, rfl, fun k hk => by rw [fupd_owF]⟩, trivial⟩
          · dsimp only
            exact own_step O ow a b many (fun c => hok.look c) c
          · dsimp only
            have := hok.le k
            dsimp only at this
            split
            · omega
            · split <;> omega
          · dsimp only
            unfold addE
            split <;> rfl
      · rw [if_neg h0b] at hlb
        by_cases hm8 : many = 8
        · subst hm8
          refine ⟨_, (LSpec.argsN (add_full seedT 0 0 8 (by omega) (fun k => [.pt (ds k)]) O 0 [[10, 0, 0, a], [10, 0, 0, b]] 7 [107] 60000 4) (two_args rfl rfl _ _ _ _)), ?_⟩
          rintro q hq ⟨rfl, rfl⟩
          conv => whnf
          refine ⟨by first | omega | (simp only [Int.toNat_natCast]; omega) | (simp; done) | (simp; omega), ?_⟩
          conv => whnf
          refine ⟨by first | omega | (simp only [Int.toNat_natCast]; omega) | (simp; done) | (simp; omega), ?_⟩
          conv => whnf
          rw [hab]
          refine ⟨by first | omega | (simp only [Int.toNat_natCast]; omega) | (simp; done) | (simp; omega), ?_⟩
          conv => whnf
          refine ⟨by first | omega | (simp only [Int.toNat_natCast]; omega) | (simp; done) | (simp; omega), ?_⟩
          conv => whnf
          rw [show (0 + (((a, b) : UInt8 × UInt8).fst.toNat : Int).toNat) = a.toNat from by simp]
          rw [show (((ow a.toNat : Nat) : Int) == 0) = true from by simp [h0a]]
          conv => whnf
          refine ⟨by first | omega | (simp only [Int.toNat_natCast]; omega) | (simp; done) | (simp; omega), ?_⟩
          conv => whnf
          refine ⟨by first | omega | (simp only [Int.toNat_natCast]; omega) | (simp; done) | (simp; omega), ?_⟩
          conv => whnf
          rw [hab]
          refine ⟨by first | omega | (simp only [Int.toNat_natCast]; omega) | (simp; done) | (simp; omega), ?_⟩
          conv => whnf
          refine ⟨by first | omega | (simp only [Int.toNat_natCast]; omega) | (simp; done) | (simp; omega), ?_⟩
          conv => whnf
          rw [show (0 + (((a, b) : UInt8 × UInt8).snd.toNat : Int).toNat) = b.toNat from by simp]
          rw [show (((ow b.toNat : Nat) : Int) == 0) = false from by simp [h0b]]
          conv => whnf
          refine ⟨by first | omega | (simp only [Int.toNat_natCast]; omega) | (simp; done) | (simp; omega), ?_⟩
          conv => whnf
          exact ⟨⟨⟨i + 1, _, ds, O, ow⟩, ⟨by dsimp only; omega, hok.hm, hok.look, hok.le⟩⟩, [], by dsimp only; omega, .refl _, .refl _, .refl _, .refl _, .refl _, OLe.refl _, OLe.refl _, OLe.refl _, OLe.refl _, OLe.refl _, trivial⟩
        · have hth : ∃ s ∈ [[10, 0, 0, a], [10, 0, 0, b]], olook O s ≠ none := ⟨[10, 0, 0, b], by simp, by rw [hlb]; simp⟩
          refine ⟨_, (LSpec.argsN (add_there seedT 0 0 many (by omega) (fun k => [.pt (ds k)]) O 0 [[10, 0, 0, a], [10, 0, 0, b]] (by simp) hth 7 [107] 60000 4) (two_args rfl rfl _ _ _ _)), ?_⟩
          rintro q hq ⟨rfl, rfl⟩
          conv => whnf
          refine ⟨by first | omega | (simp only [Int.toNat_natCast]; omega) | (simp; done) | (simp; omega), ?_⟩
          conv => whnf
          refine ⟨by first | omega | (simp only [Int.toNat_natCast]; omega) | (simp; done) | (simp; omega), ?_⟩
          conv => whnf
          rw [hab]
          refine ⟨by first | omega | (simp only [Int.toNat_natCast]; omega) | (simp; done) | (simp; omega), ?_⟩
          conv => whnf
          refine ⟨by first | omega | (simp only [Int.toNat_natCast]; omega) | (simp; done) | (simp; omega), ?_⟩
          conv => whnf
          rw [show (0 + (((a, b) : UInt8 × UInt8).fst.toNat : Int).toNat) = a.toNat from by simp]
          rw [show (((ow a.toNat : Nat) : Int) == 0) = true from by simp [h0a]]
          conv => whnf
          refine ⟨by first | omega | (simp only [Int.toNat_natCast]; omega) | (simp; done) | (simp; omega), ?_⟩
          conv => whnf
          refine ⟨by first | omega | (simp only [Int.toNat_natCast]; omega) | (simp; done) | (simp; omega), ?_⟩
          conv => whnf
          rw [hab]
          refine ⟨by first | omega | (simp only [Int.toNat_natCast]; omega) | (simp; done) | (simp; omega), ?_⟩
          conv => whnf
          refine ⟨by first | omega | (simp only [Int.toNat_natCast]; omega) | (simp; done) | (simp; omega), ?_⟩
          conv => whnf
          rw [show (0 + (((a, b) : UInt8 × UInt8).snd.toNat : Int).toNat) = b.toNat from by simp]
          rw [show (((ow b.toNat : Nat) : Int) == 0) = false from by simp [h0b]]
          conv => whnf
          rw [show ((many : Int) == 8) = false from by simp; omega]
          conv => whnf
          refine ⟨by first | omega | (simp only [Int.toNat_natCast]; omega) | (simp; done) | (simp; omega), ?_⟩
          conv => whnf
          exact ⟨⟨⟨i + 1, _, ds, O, ow⟩, ⟨by dsimp only; omega, hok.hm, hok.look, hok.le⟩⟩, [], by dsimp only; omega, .refl _, .refl _, .refl _, .refl _, .refl _, OLe.refl _, OLe.refl _, OLe.refl _, OLe.refl _, OLe.refl _, trivial⟩
    · rw [if_neg h0a] at hla
      by_cases hm8 : many = 8
      · subst hm8
        refine ⟨_, (LSpec.argsN (add_full seedT 0 0 8 (by omega) (fun k => [.pt (ds k)]) O 0 [[10, 0, 0, a], [10, 0, 0, b]] 7 [107] 60000 4) (two_args rfl rfl _ _ _ _)), ?_⟩
        rintro q hq ⟨rfl, rfl⟩
        conv => whnf
        refine ⟨by first | omega | (simp only [Int.toNat_natCast]; omega) | (simp; done) | (simp; omega), ?_⟩
        conv => whnf
        refine ⟨by first | omega | (simp only [Int.toNat_natCast]; omega) | (simp; done) | (simp; omega), ?_⟩
        conv => whnf
        rw [hab]
        refine ⟨by first | omega | (simp only [Int.toNat_natCast]; omega) | (simp; done) | (simp; omega), ?_⟩
        conv => whnf
        refine ⟨by first | omega | (simp only [Int.toNat_natCast]; omega) | (simp; done) | (simp; omega), ?_⟩
        conv => whnf
        rw [show (0 + (((a, b) : UInt8 × UInt8).fst.toNat : Int).toNat) = a.toNat from by simp]
        rw [show (((ow a.toNat : Nat) : Int) == 0) = false from by simp [h0a]]
        conv => whnf
        refine ⟨by first | omega | (simp only [Int.toNat_natCast]; omega) | (simp; done) | (simp; omega), ?_⟩
        conv => whnf
        exact ⟨⟨⟨i + 1, _, ds, O, ow⟩, ⟨by dsimp only; omega, hok.hm, hok.look, hok.le⟩⟩, [], by dsimp only; omega, .refl _, .refl _, .refl _, .refl _, .refl _, OLe.refl _, OLe.refl _, OLe.refl _, OLe.refl _, OLe.refl _, trivial⟩
      · have hth : ∃ s ∈ [[10, 0, 0, a], [10, 0, 0, b]], olook O s ≠ none := ⟨[10, 0, 0, a], by simp, by rw [hla]; simp⟩
        refine ⟨_, (LSpec.argsN (add_there seedT 0 0 many (by omega) (fun k => [.pt (ds k)]) O 0 [[10, 0, 0, a], [10, 0, 0, b]] (by simp) hth 7 [107] 60000 4) (two_args rfl rfl _ _ _ _)), ?_⟩
        rintro q hq ⟨rfl, rfl⟩
        conv => whnf
        refine ⟨by first | omega | (simp only [Int.toNat_natCast]; omega) | (simp; done) | (simp; omega), ?_⟩
        conv => whnf
        refine ⟨by first | omega | (simp only [Int.toNat_natCast]; omega) | (simp; done) | (simp; omega), ?_⟩
        conv => whnf
        rw [hab]
        refine ⟨by first | omega | (simp only [Int.toNat_natCast]; omega) | (simp; done) | (simp; omega), ?_⟩
        conv => whnf
        refine ⟨by first | omega | (simp only [Int.toNat_natCast]; omega) | (simp; done) | (simp; omega), ?_⟩
        conv => whnf
        rw [show (0 + (((a, b) : UInt8 × UInt8).fst.toNat : Int).toNat) = a.toNat from by simp]
        rw [show (((ow a.toNat : Nat) : Int) == 0) = false from by simp [h0a]]
        conv => whnf
        rw [show ((many : Int) == 8) = false from by simp; omega]
        conv => whnf
        refine ⟨by first | omega | (simp only [Int.toNat_natCast]; omega) | (simp; done) | (simp; omega), ?_⟩
        conv => whnf
        exact ⟨⟨⟨i + 1, _, ds, O, ow⟩, ⟨by dsimp only; omega, hok.hm, hok.look, hok.le⟩⟩, [], by dsimp only; omega, .refl _, .refl _, .refl _, .refl _, .refl _, OLe.refl _, OLe.refl _, OLe.refl _, OLe.refl _, OLe.refl _, trivial⟩
  · conv => whnf
    refine ALoop.introR tysOOk followsB (fun j : {j : Nat // j ≤ 256} => ([(4, .ptr 25000 0), (5, .rptr 5 1 0 0), (6, ni many), (14, ni j.1)], [(25000, .box (netC seedT 0 0 (.rsl 900 1 0 many) 25001 25002 0)), (900, .row 38 1 many fun k => [.pt (ds k)]), (25001, .dmp (ownM O)), (25002, .mp []), (5, .row (arT + 256) 1 256 (owF ow))])) (fun j => 256 - j.1) ⟨0, by omega⟩ ?_ ?_
    · exact ⟨.refl _, .refl _, .refl _, .refl _, OLe.refl _, OLe.refl _, OLe.refl _, OLe.refl _, OLe.refl _, trivial⟩
    rintro ⟨j, hj⟩
    dsimp only
    conv => whnf
    split <;> rename_i h3
    · have hlt : j < 256 := by have := of_decide_eq_true h3; omega
      conv => whnf
      refine ⟨[10, 0, 0, UInt8.ofNat j], ⟨rfl, by omega, fun k hk => ?_⟩, ?_⟩
      · match k, hk with
        | 0, _ => rfl
        | 1, _ => rfl
        | 2, _ => rfl
        | 3, _ =>
          show [D.i .u8 (IntKind.u8.wrap (j : Int))] = [D.i .u8 _]
          refine congrArg (fun x => [D.i .u8 x]) ?_
          show _ = (((UInt8.ofNat j).toNat : Nat) : Int)
          rw [UInt8.toNat_ofNat']
          simp [IntKind.wrap, IntKind.signed, IntKind.bits]
      conv => whnf
      refine ⟨_, _, (owner_spec seedT 0 0 many (fun k => [.pt (ds k)]) O 0 [10, 0, 0, UInt8.ofNat j]), ?_⟩
      conv => whnf
      have hj8 : (UInt8.ofNat j).toNat = j := by rw [UInt8.toNat_ofNat']; omega
      have hlj := hok.look (UInt8.ofNat j)
      dsimp only at hlj
      rw [hj8] at hlj
      have hle := hok.le j
      dsimp only at hle
      have hmm := hok.hm
      dsimp only at hmm
      refine ⟨by first | omega | (simp only [Int.toNat_natCast]; omega) | (simp; done) | (simp; omega), ?_⟩
      conv => whnf
      refine ⟨by first | omega | (simp only [Int.toNat_natCast]; omega) | (simp; done) | (simp; omega), ?_⟩
      conv => whnf
      refine ⟨by show _ ≤ (((ow (0 + ((j : Nat) : Int).toNat) : Nat)) : Int) - 1 ∧ _; simp; omega, ?_⟩
      conv => whnf
      refine ⟨by kernel_rfl, ?_⟩
      conv => whnf
      have hne : (ownI (olook O [10, 0, 0, UInt8.ofNat j]) != (((ow (0 + ((j : Nat) : Int).toNat) : Nat)) : Int) - 1) = false := by
        rw [hlj, Int.toNat_natCast, Nat.zero_add]
        by_cases h0 : ow j = 0
        · rw [if_pos h0, h0]; rfl
        · rw [if_neg h0]
          show ((((ow j - 1 : Nat)) : Int) != _) = false
          rw [show (((ow j - 1 : Nat)) : Int) = (ow j : Int) - 1 by omega]
          simp
      rw [hne]
      conv => whnf
      refine ⟨by first | omega | (simp only [Int.toNat_natCast]; omega) | (simp; done) | (simp; omega), ?_⟩
      conv => whnf
      exact ⟨⟨j + 1, by omega⟩, [], by dsimp only; omega, .refl _, .refl _, .refl _, .refl _, OLe.refl _, OLe.refl _, OLe.refl _, OLe.refl _, OLe.refl _, trivial⟩
    · have hmm := hok.hm
      dsimp only at hmm
      conv => whnf
      refine ⟨_, (netEnd_spec seedT 0 0 many ds O 0 many), ?_⟩
      rintro q hq ⟨rfl, rfl⟩
      conv => whnf
      rw [if_neg (by omega)]
      conv => whnf
      by_cases h0 : many = 0
      · subst h0
        conv => whnf
        exact ⟨_, .refl _, rfl, rfl⟩
      · rw [show ((many : Int) == 0) = false from by simp; exact h0]
        conv => whnf
        refine ⟨by first | omega | (simp only [Int.toNat_natCast]; omega) | (simp; done) | (simp; omega), ?_⟩
        conv => whnf
        refine ⟨_, (netEnd_spec seedT 0 0 many ds O 0 ((many : Int) - 1)), ?_⟩
        rintro q hq ⟨rfl, rfl⟩
        conv => whnf
        rw [if_pos (by omega)]
        conv => whnf
        exact ⟨_, .refl _, rfl, rfl⟩
theorem netOwners_of {l0 : List D} (h0 : wt tys 8 22 l0) : PSpec Tryz.prog 3 [asV false l0] (· = .d (.b true)) := by
  obtain ⟨m, f, rfl, hm, hf⟩ := h0
  have key : ∀ k, k < m → ∃ a b : UInt8, f k = [.i .u8 (a.toNat : Nat), .i .u8 (b.toNat : Nat)] := by
    intro k hk
    obtain ⟨h1, h2, h3⟩ := hf k hk
    have h1 : (f k).length = 2 := h1
    match hfk : f k, h1 with
    | [x, y], _ =>
      rw [hfk] at h3
      obtain ⟨a, ha, ha2⟩ := h3 0 (by decide)
      obtain ⟨b, hb, hb2⟩ := h3 1 (by decide)
      have ha : [x] = [D.i .u8 a] := ha
      have hb : [y] = [D.i .u8 b] := hb
      have hau := bounds_u8 ha2
      have hbu := bounds_u8 hb2
      refine ⟨UInt8.ofNat a.toNat, UInt8.ofNat b.toNat, ?_⟩
      obtain rfl : x = D.i .u8 a := by injection ha
      obtain rfl : y = D.i .u8 b := by injection hb
      rw [UInt8.toNat_ofNat', UInt8.toNat_ofNat']
      have e1 : ((a.toNat % 2 ^ 8 : Nat) : Int) = a := by omega
      have e2 : ((b.toNat % 2 ^ 8 : Nat) : Int) = b := by omega
      rw [e1, e2]
  obtain ⟨p, hp⟩ : ∃ p : Nat → UInt8 × UInt8, ∀ k, k < m → f k = [.i .u8 ((p k).1.toNat : Nat), .i .u8 ((p k).2.toNat : Nat)] := by
    refine ⟨fun k => if h : k < m then ((key k h).choose, (key k h).choose_spec.choose) else (0, 0), fun k hk => ?_⟩
    simp only [dif_pos hk]
    exact (key k hk).choose_spec.choose_spec
  have hlen : ((List.range m).map p).length = m := by simp
  refine (netOwners_main ((List.range m).map p)).argsC ⟨.sl hlen.symm fun k hk => ?_, trivial⟩
  rw [hp k hk]
  simp [pF, hk]
end Go.Proofs.YtjdmnfjgmbnlbaaGreatDoor
