/- Expire; the reference's functions. -/
import Derived.Test.YteblkbnkaogkmaaStA
namespace Go.Proofs.Yteblkbnkaogkmaa
open Go Towline Towline.Store
set_option linter.unusedVariables false
set_option maxRecDepth 20000
set_option maxHeartbeats 2000000
/-- kept, with a function of its caller's. -/
theorem kept_spec2 (g n1 n2 : Nat) (f1 f2 : Nat → List D) (keep : Nat → Msg → Bool) (l : List Msg) (h4 : l.length ≤ 2 ^ 40)
    (hk : ∀ (i : Nat) (m : Msg), i < 2 ^ 40 → m ∈ l → PSpec Try.prog g [vi i, msgA m, .eptr n1 1 f1 0 0, .eptr n2 1 f2 0 0] (· = vb (keep i m))) :
    PSpec Try.prog 29 [.d (slT 6 encM l), .fn g [.eptr n1 1 f1 0 0, .eptr n2 1 f2 0 0]] (· = .tup [.d (slT 6 encM (ins keep 0 l)), .d (slT 6 encM (outs keep 0 l))]) := by
  refine PSpec.run tysOk follows Try.func29 (by decide) rfl Try.ntmps29 (Nat.le_of_ble_eq_true rfl) rfl fun w0 R0 => ?_
  conv => whnf
  refine ALoop.adopt 4 22 6 34 (fun j => encM ((ins keep 0 l).getD j default)) rfl rfl rfl ?_
  refine ALoop.adopt 5 26 6 34 (fun j => encM ((outs keep 0 l).getD j default)) rfl rfl rfl ?_
  refine ALoop.intro tysOk follows (fun k : {k // k ≤ l.length} => ([(0, .d (slT 6 encM l)), (1, .fn g [.eptr n1 1 f1 0 0, .eptr n2 1 f2 0 0]), (4, .rsl 22 6 0 (ins keep 0 (l.take k.1)).length), (5, .rsl 26 6 0 (outs keep 0 (l.take k.1)).length), (8, .d (slT 6 encM l)), (9, vi l.length), (10, vi k.1)], [(22, .row 34 6 (ins keep 0 (l.take k.1)).length (fun j => encM ((ins keep 0 (l.take k.1)).getD j default))), (26, .row 34 6 (outs keep 0 (l.take k.1)).length (fun j => encM ((outs keep 0 (l.take k.1)).getD j default)))])) (fun k => l.length - k.1) ⟨0, by omega⟩ ?_ ?_
  · exact ⟨.refl _, .refl _, .refl _, .refl _, .refl _, .refl _, .refl _, ⟨rfl, rfl, rfl, fun j hj => absurd hj (Nat.not_lt_zero j)⟩, ⟨rfl, rfl, rfl, fun j hj => absurd hj (Nat.not_lt_zero j)⟩, trivial⟩
  · rintro ⟨k, hkl⟩
    have hi := (ins_len keep (l.take k) 0).1
    have ho := (ins_len keep (l.take k) 0).2
    rw [List.length_take, Nat.min_eq_left hkl] at hi ho
    dsimp only
    conv => whnf
    split
    · rename_i hlt
      have hlt : k < l.length := by simpa using hlt
      have hmem : l.getD k default ∈ l := by rw [List.getD_eq_getElem?_getD, List.getElem?_eq_getElem hlt]; exact List.getElem_mem hlt
      have hs : l.take (k + 1) = l.take k ++ [l.getD k default] := by rw [List.take_succ_eq_append_getElem hlt]; simp [List.getD_eq_getElem?_getD, hlt]
      have hl2 : (l.take k).length = k := by rw [List.length_take]; omega
      have hins := ins_snoc keep (l.take k) 0 (l.getD k default)
      have houts := outs_snoc keep (l.take k) 0 (l.getD k default)
      rw [hl2, Nat.zero_add, ← hs] at hins houts
      conv => whnf
      refine ⟨by omega, ?_⟩
      conv => whnf
      refine ⟨_, hk k _ (by omega) hmem, ?_⟩
      rintro r rfl
      conv => whnf
      split
      · rename_i hb
        have hb : keep k (l.getD k default) = true := hb
        rw [hb] at hins houts
        simp only [if_true, List.append_nil] at hins houts
        conv => whnf
        refine ⟨⟨⟨rfl, by omega, by simp only [ty34]; omega⟩, by omega⟩, ?_⟩
        conv => whnf
        refine ⟨by omega, ?_⟩
        conv => whnf
        refine ⟨⟨k + 1, by omega⟩, by dsimp only; omega, .refl _, .refl _, ?_, ?_, .refl _, .refl _, .refl _, ⟨rfl, rfl, ?_, ?_⟩, ⟨rfl, rfl, ?_, ?_⟩, trivial⟩
        · exact .of_eq (by dsimp only; rw [hins, List.length_append]; rfl)
        · exact .of_eq (by dsimp only; rw [houts])
        · dsimp only; rw [hins, List.length_append]; rfl
        · intro j hj
          dsimp only
          rw [hins]
          exact slT_app encM _ _ j hj rfl
        · dsimp only; rw [houts]
        · intro j hj
          dsimp only
          rw [houts]
      · rename_i hb
        have hb : keep k (l.getD k default) = false := hb
        rw [hb] at hins houts
        simp only [if_false, List.append_nil, Bool.false_eq_true] at hins houts
        conv => whnf
        refine ⟨⟨⟨rfl, by omega, by simp only [ty34]; omega⟩, by omega⟩, ?_⟩
        conv => whnf
        refine ⟨by omega, ?_⟩
        conv => whnf
        refine ⟨⟨k + 1, by omega⟩, by dsimp only; omega, .refl _, .refl _, ?_, ?_, .refl _, .refl _, .refl _, ⟨rfl, rfl, ?_, ?_⟩, ⟨rfl, rfl, ?_, ?_⟩, trivial⟩
        · exact .of_eq (by dsimp only; rw [hins])
        · exact .of_eq (by dsimp only; rw [houts, List.length_append]; rfl)
        · dsimp only; rw [hins]
        · intro j hj
          dsimp only
          rw [hins]
        · dsimp only; rw [houts, List.length_append]; rfl
        · intro j hj
          dsimp only
          rw [houts]
          exact slT_app encM _ _ j hj rfl
    · rename_i hge
      have hge : ¬ k < l.length := by simpa using hge
      obtain rfl : k = l.length := by omega
      rw [List.take_length]
      conv => whnf
      refine ⟨by omega, ?_⟩
      conv => whnf
      refine ⟨by omega, ?_⟩
      conv => whnf
      refine ⟨_, ?_, rfl, rfl⟩
      exact .tup ⟨.sl (by simp) (fun j hj => by simp), .sl (by simp) (fun j hj => by simp), trivial⟩
theorem stays_keep (l : List Msg) (a : Int) (nx : List Nat) (now : Int) (i : Nat) (m : Msg) : PSpec Try.prog 32 [vi i, msgA m, .eptr 3 1 (fun _ => [slT 6 encM l, .i .i64 a, slT 1 encN nx]) 0 0, .eptr 1 1 (fun _ => [.i .i64 now]) 0 0] (· = vb (stays a now i m)) := by
  refine PSpec.run tysOk follows Try.func32 (by decide) rfl Try.ntmps32 (Nat.le_of_ble_eq_true rfl) rfl fun w0 R0 => ?_
  conv => whnf
  split <;> rename_i h1 <;> rw [nat_beq0] at h1 <;> conv => whnf
  · split <;> rename_i h2 <;> conv => whnf
    · exact ⟨_, .refl _, by simp [stays, h1, h2], rfl⟩
    · split <;> rename_i h3 <;> conv => whnf
      · exact ⟨_, .refl _, by simp [stays, h1, h2, h3], rfl⟩
      · exact ⟨_, .refl _, by simp [stays, h1, h2, h3], rfl⟩
  · split <;> rename_i h3 <;> conv => whnf
    · exact ⟨_, .refl _, by simp [stays, h1, h3], rfl⟩
    · exact ⟨_, .refl _, by simp [stays, h1, h3], rfl⟩
theorem expire_spec (l : List Msg) (a : Int) (nx : List Nat) (now : Int) (h4 : l.length ≤ 2 ^ 40) :
    PSpec Try.prog 19 [stA l a nx, vi now] (· = .tup [stA (ins (stays a now) 0 l) a nx, .d (slT 1 encI ((outs (stays a now) 0 l).map (·.id)))]) := by
  refine PSpec.run tysOk follows Try.func19 (by decide) rfl Try.ntmps19 (Nat.le_of_ble_eq_true rfl) rfl fun w0 R0 => ?_
  conv => whnf
  refine ⟨_, kept_spec2 _ _ _ _ _ (stays a now) l h4 fun i m _ _ => stays_keep l a nx now i m, ?_⟩
  rintro q rfl
  conv => whnf
  refine ⟨_, (ids_spec (outs (stays a now) 0 l) 0 [] (by have := (ins_len (stays a now) l 0).2; omega)).argsC ⟨.agg ⟨.refl _, .refl _, .nil, trivial⟩, trivial⟩, ?_⟩
  conv => whnf
  refine ⟨by kernel_rfl, ?_⟩
  conv => whnf
  exact ⟨_, .refl _, rfl, rfl⟩
end Go.Proofs.Yteblkbnkaogkmaa
