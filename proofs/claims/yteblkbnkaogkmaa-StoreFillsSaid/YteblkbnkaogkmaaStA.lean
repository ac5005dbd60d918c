/- The small functions of package store: contracts. -/
import Derived.Test.YteblkbnkaogkmaaTys
import Derived.Test.YteblkbnkaogkmaaStP
namespace Go.Proofs.Yteblkbnkaogkmaa
open Go Towline Towline.Store
set_option linter.unusedVariables false
set_option maxRecDepth 20000
set_option maxHeartbeats 2000000
theorem follows : Try.prog.follows .mixedOrders = true := by kernel_rfl
abbrev vi (n : Int) : AVal := .d (.i .i64 n)
abbrev vb (b : Bool) : AVal := .d (.b b)
abbrev vs (l : List UInt8) : AVal := .d (.s l)
def encM (m : Msg) : List D := [.i .i64 m.id, .i .u16 m.stream, .i .u32 m.ppid, .b m.free, .s m.text, .i .i64 m.til]
def encN (n : Nat) : List D := [.i .u16 n]
def encI (n : Int) : List D := [.i .i64 n]
abbrev stL (l : List Msg) (a : Int) (nx : List Nat) : List AVal := [.d (slT 6 encM l), vi a, .d (slT 1 encN nx)]
abbrev stA (l : List Msg) (a : Int) (nx : List Nat) : AVal := .agg (stL l a nx)
abbrev msgA (m : Msg) : AVal := .agg [vi m.id, .d (.i .u16 m.stream), .d (.i .u32 m.ppid), vb m.free, vs m.text, vi m.til]
abbrev pcA (p : Pc) : AVal := .agg [.d (.i .u32 p.tsn), vb p.first, vb p.last, vb p.free, .d (.i .u16 p.stream), .d (.i .u16 p.ssn), .d (.i .u32 p.ppid), vs p.text]
theorem fold_k {n : Nat} {k : Nat} {hk : k ≤ n} : (⟨k, hk⟩ : {k : Nat // k ≤ n}).1 = k := rfl
theorem bytes_spec (l : List Msg) (a : Int) (nx : List Nat) (h1 : total l ≤ 2 ^ 40) (h2 : -2 ^ 40 ≤ a) (h3 : a ≤ 2 ^ 40) (h4 : l.length ≤ 2 ^ 40) : PSpec Try.prog 12 [stA l a nx] (· = vi (total l - a)) := by
  refine PSpec.run tysOk follows Try.func12 (by decide) rfl Try.ntmps12 (Nat.le_of_ble_eq_true rfl) rfl fun w0 R0 => ?_
  conv => whnf
  refine ALoop.intro tysOk follows (fun k : {k // k ≤ l.length} => ([(1, .ptr 1 0), (3, vi (total (l.take k.1))), (7, .d (slT 6 encM l)), (8, vi l.length), (9, vi k.1)], [(1, .box (stL l a nx))])) (fun k => l.length - k.1) ⟨0, by omega⟩ ?_ ?_
  · exact ⟨.refl _, .refl _, .refl _, .refl _, .refl _, OLe.refl _, trivial⟩
  · rintro ⟨k, hk⟩
    dsimp only
    conv => whnf
    split
    · rename_i hlt
      have hlt : k < l.length := by simpa using hlt
      have ht := total_take l k hlt
      have hle := total_take_le l (k + 1)
      conv => whnf
      refine ⟨by omega, ?_⟩
      conv => whnf
      refine ⟨by rw [Int.toNat_natCast]; omega, ?_⟩
      conv => whnf
      refine ⟨by omega, ?_⟩
      conv => whnf
      refine ⟨⟨k + 1, by omega⟩, by dsimp only; omega, .refl _, ?_, .refl _, .refl _, .refl _, OLe.refl _, trivial⟩
      refine .of_eq ?_
      dsimp only
      rw [ht, Int.toNat_natCast, Int.natCast_add]
    · rename_i hge
      have hge : ¬ k < l.length := by simpa using hge
      obtain rfl : k = l.length := by omega
      conv => whnf
      refine ⟨by rw [List.take_length]; omega, ?_⟩
      conv => whnf
      exact ⟨_, .refl _, by rw [List.take_length], rfl⟩
theorem ids_spec (l : List Msg) (a : Int) (nx : List Nat) (h4 : l.length ≤ 2 ^ 40) : PSpec Try.prog 27 [stA l a nx] (· = .d (slT 1 encI (l.map (·.id)))) := by
  refine PSpec.run tysOk follows Try.func27 (by decide) rfl Try.ntmps27 (Nat.le_of_ble_eq_true rfl) rfl fun w0 R0 => ?_
  conv => whnf
  refine ALoop.adopt 3 17 1 3 (fun j => encI (l.getD j default).id) rfl rfl rfl ?_
  refine ALoop.intro tysOk follows (fun k : {k // k ≤ l.length} => ([(1, .ptr 1 0), (3, .rsl 17 1 0 k.1), (7, .d (slT 6 encM l)), (8, vi l.length), (9, vi k.1)], [(1, .box (stL l a nx)), (17, .row 3 1 k.1 (fun j => encI (l.getD j default).id))])) (fun k => l.length - k.1) ⟨0, by omega⟩ ?_ ?_
  · exact ⟨.refl _, .refl _, .refl _, .refl _, .refl _, OLe.refl _, OLe.refl _, trivial⟩
  · rintro ⟨k, hk⟩
    dsimp only
    conv => whnf
    split
    · rename_i hlt
      have hlt : k < l.length := by simpa using hlt
      conv => whnf
      refine ⟨by omega, ?_⟩
      conv => whnf
      refine ⟨⟨⟨rfl, by omega, by simp only [ty3]; omega⟩, by omega⟩, ?_⟩
      conv => whnf
      refine ⟨by omega, ?_⟩
      conv => whnf
      refine ⟨⟨k + 1, by omega⟩, by dsimp only; omega, .refl _, .refl _, .refl _, .refl _, .refl _, OLe.refl _, ⟨rfl, rfl, rfl, ?_⟩, trivial⟩
      intro j hj
      simp only [fcat]
      split
      · rfl
      · have : j = k := by omega
        subst this; simp [encI]
    · rename_i hge
      have hge : ¬ k < l.length := by simpa using hge
      obtain rfl : k = l.length := by omega
      conv => whnf
      refine ⟨by omega, ?_⟩
      conv => whnf
      refine ⟨_, .sl (by simp) (fun k hk => ?_), rfl, rfl⟩
      simp [encI, hk]
theorem clone_spec {α : Type} [Inhabited α] (enc : α → List D) (l : List α) (hl : l.length ≤ 2 ^ 40) :
    PSpec Try.prog 28 [.d (slT 6 enc l)] (· = .fresh 34 6 l.length fun k => enc (l.getD k default)) := by
  refine PSpec.runF tysOk follows Try.func28 (by decide) rfl Try.ntmps28 (Nat.le_of_ble_eq_true rfl) rfl fun w0 R0 => ?_
  conv => whnf
  intro b hb
  cases b with
  | true =>
    have h0 : l.length = 0 := by
      rcases Nat.eq_zero_or_pos l.length with h | h
      · exact h
      · have := hb h; cases this
    conv => whnf
    exact ⟨34, 6, _, by rw [h0]⟩
  | false =>
    conv => whnf
    refine ⟨⟨rfl, by omega, by simp only [ty34]; omega⟩, ?_⟩
    conv => whnf
    refine ⟨rfl, rfl, l.length, _, by omega, fun k hk => ?_, rfl⟩
    simp [fcat]
theorem clone16_spec (l : List Nat) (hl : l.length ≤ 2 ^ 40) :
    PSpec Try.prog 31 [.d (slT 1 encN l)] (· = .fresh 31 1 l.length fun k => encN (l.getD k default)) := by
  refine PSpec.runF tysOk follows Try.func31 (by decide) rfl Try.ntmps31 (Nat.le_of_ble_eq_true rfl) rfl fun w0 R0 => ?_
  conv => whnf
  intro b hb
  cases b with
  | true =>
    have h0 : l.length = 0 := by
      rcases Nat.eq_zero_or_pos l.length with h | h
      · exact h
      · have := hb h; cases this
    conv => whnf
    exact ⟨31, 1, _, by rw [h0]⟩
  | false =>
    conv => whnf
    refine ⟨⟨rfl, by omega, by simp only [ty31]; omega⟩, ?_⟩
    conv => whnf
    refine ⟨rfl, rfl, l.length, _, by omega, fun k hk => ?_, rfl⟩
    simp [fcat]
theorem new_bad (n : Int) (h : n < 1 ∨ 16 < n) : PSpec Try.prog 9 [vi n] (· = .tup [stA [] 0 [], vi 1]) := by
  refine PSpec.run tysOk follows Try.func9 (by decide) rfl Try.ntmps9 (Nat.le_of_ble_eq_true rfl) rfl fun w0 R0 => ?_
  conv => whnf
  split
  · conv => whnf
    refine ⟨_, ?_, rfl, rfl⟩
    exact .tup ⟨.agg ⟨.nil, .refl _, .nil, trivial⟩, .refl _, trivial⟩
  · rename_i h1
    have h1 : ¬ n < 1 := by simpa using h1
    conv => whnf
    split
    · conv => whnf
      refine ⟨_, ?_, rfl, rfl⟩
      exact .tup ⟨.agg ⟨.nil, .refl _, .nil, trivial⟩, .refl _, trivial⟩
    · rename_i h2
      have h2 : ¬ 16 < n := by simpa using h2
      omega
theorem new_ok (n : Nat) (h : 1 ≤ n) (h2 : n ≤ 16) : PSpec Try.prog 9 [vi n] (· = .tup [stA [] 0 (List.replicate n 0), vi 0]) := by
  refine PSpec.run tysOk follows Try.func9 (by decide) rfl Try.ntmps9 (Nat.le_of_ble_eq_true rfl) rfl fun w0 R0 => ?_
  conv => whnf
  split
  · rename_i h1
    have h1 : (n : Int) < 1 := by simpa using h1
    omega
  · conv => whnf
    split
    · rename_i h1
      have h1 : 16 < (n : Int) := by simpa using h1
      omega
    · conv => whnf
      refine ⟨⟨by omega, by omega, by simp only [ty31]; omega, by omega⟩, ?_⟩
      conv => whnf
      refine ⟨by omega, ?_⟩
      conv => whnf
      refine ⟨_, ?_, rfl, rfl⟩
      refine .tup ⟨.agg ⟨.nil, .refl _, .sl (by simp) (fun k hk => ?_), trivial⟩, .refl _, trivial⟩
      have hk : k < n := by simpa using hk
      simp [ty31, encN, hk]
theorem pick_spec (c n : Int) (hn : 0 < n) (h1 : -2 ^ 63 ≤ c) (h2 : c < 2 ^ 63) : PSpec Try.prog 13 [vi c, vi n] (· = vi (pickOf c n)) := by
  refine PSpec.run tysOk follows Try.func13 (by decide) rfl Try.ntmps13 (Nat.le_of_ble_eq_true rfl) rfl fun w0 R0 => ?_
  conv => whnf
  split
  · rename_i h
    have h : c < 0 := by simpa using h
    conv => whnf
    refine ⟨by omega, ?_⟩
    conv => whnf
    refine ⟨by omega, ?_⟩
    conv => whnf
    refine ⟨by omega, ?_⟩
    conv => whnf
    refine ⟨_, .refl _, ?_, rfl⟩
    rw [pickOf, if_pos h, Int.zero_sub, Int.tmod_eq_emod_of_nonneg (by omega)]
  · rename_i h
    have h : ¬ c < 0 := by simpa using h
    conv => whnf
    refine ⟨by omega, ?_⟩
    conv => whnf
    refine ⟨_, .refl _, ?_, rfl⟩
    rw [pickOf, if_neg h, Int.tmod_eq_emod_of_nonneg (by omega)]
/-- Push, all ways. -/
def pushE (l : List Msg) (a : Int) (nx : List Nat) (m : Msg) : Int :=
  if nx.length ≤ m.stream then 12 else if m.text = [] then 1 else if 20000 < m.text.length then 4 else if 60000 < (total l : Int) - a + m.text.length then 10 else 0
theorem slT_app {α : Type} [Inhabited α] (enc : α → List D) (l : List α) (x : α) (k : Nat) (hk : k < l.length + 1) {f : Nat → List D} (hf : f 0 = enc x) : fcat (fun k => enc (l.getD k default)) l.length f k = enc ((l ++ [x]).getD k default) := by
  unfold fcat
  split
  · rename_i h
    simp only [List.getD_eq_getElem?_getD, List.getElem?_append, h, if_true]
  · have : k = l.length := by omega
    subst this
    simp [hf]
theorem push_spec (l : List Msg) (a : Int) (nx : List Nat) (m : Msg) (h1 : total l ≤ 2 ^ 40) (h2 : -2 ^ 40 ≤ a) (h3 : a ≤ 2 ^ 40) (h4 : l.length ≤ 2 ^ 40) (h5 : m.stream ≤ 65535) :
    PSpec Try.prog 10 [stA l a nx, msgA m] (· = .tup [if pushE l a nx m = 0 then stA (l ++ [m]) a nx else stA [] 0 [], vi (pushE l a nx m)]) := by
  refine PSpec.run tysOk follows Try.func10 (by decide) rfl Try.ntmps10 (Nat.le_of_ble_eq_true rfl) rfl fun w0 R0 => ?_
  conv => whnf
  refine ⟨by omega, ?_⟩
  conv => whnf
  split
  · rename_i h
    have h : nx.length ≤ m.stream := by simpa using h
    conv => whnf
    refine ⟨_, ?_, rfl, by split <;> rfl⟩
    rw [show pushE l a nx m = 12 from by simp [pushE, h], if_neg (by omega)]
    exact .tup ⟨.agg ⟨.nil, .refl _, .nil, trivial⟩, .refl _, trivial⟩
  · rename_i h
    have h : ¬ nx.length ≤ m.stream := by simpa using h
    conv => whnf
    split
    · rename_i hh
      have hh : m.text = [] := by simpa using hh
      conv => whnf
      refine ⟨_, ?_, rfl, by split <;> rfl⟩
      rw [show pushE l a nx m = 1 from by simp [pushE, h, hh], if_neg (by omega)]
      exact .tup ⟨.agg ⟨.nil, .refl _, .nil, trivial⟩, .refl _, trivial⟩
    · rename_i hh
      have hh : ¬ m.text = [] := by simpa using hh
      conv => whnf
      split
      · rename_i h6
        have h6 : 20000 < m.text.length := by have : (20000 : Int) < m.text.length := by simpa using h6
                                              omega
        conv => whnf
        refine ⟨_, ?_, rfl, by split <;> rfl⟩
        rw [show pushE l a nx m = 4 from by simp [pushE, h, hh, h6], if_neg (by omega)]
        exact .tup ⟨.agg ⟨.nil, .refl _, .nil, trivial⟩, .refl _, trivial⟩
      · rename_i h6
        have h6 : ¬ 20000 < m.text.length := by have : ¬ (20000 : Int) < m.text.length := by simpa using h6
                                                omega
        conv => whnf
        refine ⟨_, bytes_spec l a nx h1 h2 h3 h4, ?_⟩
        conv => whnf
        refine ⟨by omega, ?_⟩
        conv => whnf
        refine ⟨by kernel_rfl, ?_⟩
        conv => whnf
        split
        · rename_i h7
          have h7 : 60000 < (total l : Int) - a + m.text.length := by simpa using h7
          conv => whnf
          refine ⟨_, ?_, rfl, by split <;> rfl⟩
          rw [show pushE l a nx m = 10 from by simp [pushE, h, hh, h6, h7], if_neg (by omega)]
          exact .tup ⟨.agg ⟨.nil, .refl _, .nil, trivial⟩, .refl _, trivial⟩
        · rename_i h7
          have h7 : ¬ 60000 < (total l : Int) - a + m.text.length := by simpa using h7
          conv => whnf
          refine ⟨_, clone_spec encM l h4, ?_⟩
          conv => whnf
          refine ⟨⟨⟨rfl, by omega, by simp only [ty34]; omega⟩, by omega⟩, ?_⟩
          conv => whnf
          refine ⟨by kernel_rfl, ?_⟩
          conv => whnf
          refine ⟨by omega, ?_⟩
          conv => whnf
          refine ⟨_, ?_, rfl, by split <;> rfl⟩
          rw [show pushE l a nx m = 0 from by simp [pushE, h, hh, h6, h7], if_pos rfl]
          refine .tup ⟨.agg ⟨.sl (by simp) (fun k hk => slT_app encM l m k hk rfl), .refl _, .refl _, trivial⟩, .refl _, trivial⟩
/-- kept, with a function of its caller's. -/
theorem kept_spec (g : Nat) (keep : Nat → Msg → Bool) (l : List Msg) (h4 : l.length ≤ 2 ^ 40)
    (hk : ∀ (i : Nat) (m : Msg), i < 2 ^ 40 → m ∈ l → PSpec Try.prog g [vi i, msgA m] (· = vb (keep i m))) :
    PSpec Try.prog 29 [.d (slT 6 encM l), .fn g []] (· = .tup [.d (slT 6 encM (ins keep 0 l)), .d (slT 6 encM (outs keep 0 l))]) := by
  refine PSpec.run tysOk follows Try.func29 (by decide) rfl Try.ntmps29 (Nat.le_of_ble_eq_true rfl) rfl fun w0 R0 => ?_
  conv => whnf
  refine ALoop.adopt 4 22 6 34 (fun j => encM ((ins keep 0 l).getD j default)) rfl rfl rfl ?_
  refine ALoop.adopt 5 26 6 34 (fun j => encM ((outs keep 0 l).getD j default)) rfl rfl rfl ?_
  refine ALoop.intro tysOk follows (fun k : {k // k ≤ l.length} => ([(0, .d (slT 6 encM l)), (1, .fn g []), (4, .rsl 22 6 0 (ins keep 0 (l.take k.1)).length), (5, .rsl 26 6 0 (outs keep 0 (l.take k.1)).length), (8, .d (slT 6 encM l)), (9, vi l.length), (10, vi k.1)], [(22, .row 34 6 (ins keep 0 (l.take k.1)).length (fun j => encM ((ins keep 0 (l.take k.1)).getD j default))), (26, .row 34 6 (outs keep 0 (l.take k.1)).length (fun j => encM ((outs keep 0 (l.take k.1)).getD j default)))])) (fun k => l.length - k.1) ⟨0, by omega⟩ ?_ ?_
  · exact ⟨.refl _, .refl _, .refl _, .refl _, .refl _, .refl _, .refl _, ⟨rfl, rfl, rfl, fun j hj => absurd hj (Nat.not_lt_zero j)⟩, ⟨rfl, rfl, rfl, fun j hj => absurd hj (Nat.not_lt_zero j)⟩, trivial⟩
  · rintro ⟨k, hkl⟩
    have hi := (ins_len keep (l.take k) 0).1
    have ho := (ins_len keep (l.take k) 0).2
    rw [List.length_take, Nat.min_eq_left hkl] at hi ho
    dsimp only
    conv => whnf
    split
    · rename_i hlt
      have hlt : k < l.length := by simpa using hlt
      have hmem : l.getD k default ∈ l := by rw [List.getD_eq_getElem?_getD, List.getElem?_eq_getElem hlt]; exact List.getElem_mem hlt
      have hs : l.take (k + 1) = l.take k ++ [l.getD k default] := by rw [List.take_succ_eq_append_getElem hlt]; simp [List.getD_eq_getElem?_getD, hlt]
      have hl2 : (l.take k).length = k := by rw [List.length_take]; omega
      have hins := ins_snoc keep (l.take k) 0 (l.getD k default)
      have houts := outs_snoc keep (l.take k) 0 (l.getD k default)
      rw [hl2, Nat.zero_add, ← hs] at hins houts
      conv => whnf
      refine ⟨by omega, ?_⟩
      conv => whnf
      refine ⟨_, hk k _ (by omega) hmem, ?_⟩
      rintro r rfl
      conv => whnf
      split
      · rename_i hb
        have hb : keep k (l.getD k default) = true := hb
        rw [hb] at hins houts
        simp only [if_true, List.append_nil] at hins houts
        conv => whnf
        refine ⟨⟨⟨rfl, by omega, by simp only [ty34]; omega⟩, by omega⟩, ?_⟩
        conv => whnf
        refine ⟨by omega, ?_⟩
        conv => whnf
        refine ⟨⟨k + 1, by omega⟩, by dsimp only; omega, .refl _, .refl _, ?_, ?_, .refl _, .refl _, .refl _, ⟨rfl, rfl, ?_, ?_⟩, ⟨rfl, rfl, ?_, ?_⟩, trivial⟩
        · exact .of_eq (by dsimp only; rw [hins, List.length_append]; rfl)
        · exact .of_eq (by dsimp only; rw [houts])
        · dsimp only; rw [hins, List.length_append]; rfl
        · intro j hj
          dsimp only
          rw [hins]
          exact slT_app encM _ _ j hj rfl
        · dsimp only; rw [houts]
        · intro j hj
          dsimp only
          rw [houts]
      · rename_i hb
        have hb : keep k (l.getD k default) = false := hb
        rw [hb] at hins houts
        simp only [if_false, List.append_nil, Bool.false_eq_true] at hins houts
        conv => whnf
        refine ⟨⟨⟨rfl, by omega, by simp only [ty34]; omega⟩, by omega⟩, ?_⟩
        conv => whnf
        refine ⟨by omega, ?_⟩
        conv => whnf
        refine ⟨⟨k + 1, by omega⟩, by dsimp only; omega, .refl _, .refl _, ?_, ?_, .refl _, .refl _, .refl _, ⟨rfl, rfl, ?_, ?_⟩, ⟨rfl, rfl, ?_, ?_⟩, trivial⟩
        · exact .of_eq (by dsimp only; rw [hins])
        · exact .of_eq (by dsimp only; rw [houts, List.length_append]; rfl)
        · dsimp only; rw [hins]
        · intro j hj
          dsimp only
          rw [hins]
        · dsimp only; rw [houts, List.length_append]; rfl
        · intro j hj
          dsimp only
          rw [houts]
          exact slT_app encM _ _ j hj rfl
    · rename_i hge
      have hge : ¬ k < l.length := by simpa using hge
      obtain rfl : k = l.length := by omega
      rw [List.take_length]
      conv => whnf
      refine ⟨by omega, ?_⟩
      conv => whnf
      refine ⟨by omega, ?_⟩
      conv => whnf
      refine ⟨_, ?_, rfl, rfl⟩
      exact .tup ⟨.sl (by simp) (fun j hj => by simp), .sl (by simp) (fun j hj => by simp), trivial⟩
theorem tail_keep (i : Nat) (m : Msg) : PSpec Try.prog 30 [vi i, msgA m] (· = vb (decide (0 < i))) := by
  refine PSpec.run tysOk follows Try.func30 (by decide) rfl Try.ntmps30 (Nat.le_of_ble_eq_true rfl) rfl fun w0 R0 => ?_
  conv => whnf
  refine ⟨_, .refl _, ?_, rfl⟩
  have : ((0 : Int) < i) ↔ 0 < i := by omega
  simp
/-- Take, a piece. -/
theorem take_none (a : Int) (nx : List Nat) (most : Int) : PSpec Try.prog 11 [stA [] a nx, vi most] (· = .tup [stA [] a nx, pcA ⟨0, false, false, false, 0, 0, 0, []⟩, vi 0, vb false]) := by
  refine PSpec.run tysOk follows Try.func11 (by decide) rfl Try.ntmps11 (Nat.le_of_ble_eq_true rfl) rfl fun w0 R0 => ?_
  conv => whnf
  refine ⟨by kernel_rfl, ?_⟩
  conv => whnf
  refine ⟨_, ?_, rfl, rfl⟩
  exact .refl _
theorem kept_tail (m : Msg) (r : List Msg) (h : r.length ≤ 2 ^ 40 - 1) :
    PSpec Try.prog 29 [.d (slT 6 encM (m :: r)), .fn 30 []] (· = .tup [.d (slT 6 encM r), .d (slT 6 encM (outs (fun i _ => decide (0 < i)) 0 (m :: r)))]) := by
  have := kept_spec 30 (fun i _ => decide (0 < i)) (m :: r) (by simp; omega) fun i m _ _ => tail_keep i m
  rw [ins_tail] at this
  exact this
theorem nat_beq0 (a : Nat) : ((a : Int) == 0) = (a == 0) := by rw [Bool.eq_iff_iff]; simp
theorem textOf {m : Msg} {a : Nat} {most : Int} (ha : a < m.text.length) : cutS (cutS m.text (some ↑a) none) none (some (min (((cutS m.text (some ↑a) none).length : Nat) : Int) (max 1 (min most 1000)))) = (m.text.drop a).take (cut m a most) ∧ ((m.text.drop a).take (cut m a most)).length = cut m a most := by
  obtain ⟨k1, k2, k3⟩ := cut_le (most := most) ha
  have kk := cut_int (most := most) ha
  have e : cutS m.text (some ↑a) none = m.text.drop a := by simp [cutS]
  refine ⟨?_, by rw [List.length_take, List.length_drop]; omega⟩
  rw [e, List.length_drop]
  simp only [cutS]
  congr 1
  omega
theorem take_spec (m : Msg) (r : List Msg) (a : Nat) (nx : List Nat) (most : Int) (hs : m.stream < nx.length) (hm : m.stream ≤ 65535) (ha : a < m.text.length) (hlen : m.text.length ≤ 2 ^ 40) (hn40 : r.length ≤ 2 ^ 40 - 1) (hx : nx.length ≤ 2 ^ 40) :
    PSpec Try.prog 11 [stA (m :: r) a nx, vi most] (· = .tup [stA (after m r a nx most).l (after m r a nx most).a (after m r a nx most).next, pcA (pieceOf m a nx most), vi m.id, vb true]) := by
  obtain ⟨k1, k2, k3⟩ := cut_le (most := most) ha
  obtain ⟨eT, lT⟩ := textOf (most := most) ha
  have e0 : (m :: r).getD (Int.toNat 0) default = m := rfl
  refine PSpec.run tysOk follows Try.func11 (by decide) rfl Try.ntmps11 (Nat.le_of_ble_eq_true rfl) rfl fun w0 R0 => ?_
  conv => whnf
  refine ⟨by first | omega | (simp; done) | (simp; omega), ?_⟩
  conv => whnf
  refine ⟨by first | omega | (simp; done) | (simp; omega), ?_⟩
  conv => whnf
  rw [e0]
  split
  · rename_i h
    have h : nx.length ≤ m.stream := by simpa using h
    omega
  conv => whnf
  refine ⟨by first | omega | (simp; done) | (simp; omega), ?_⟩
  conv => whnf
  refine ⟨by kernel_rfl, ?_⟩
  conv => whnf
  rw [e0]
  split
  · rename_i h
    have h : ((m.text.length : Nat) : Int) < (a : Int) := by simpa using h
    omega
  conv => whnf
  refine ⟨by first | omega | (simp; done) | (simp; omega), ?_⟩
  conv => whnf
  rw [e0]
  refine ⟨by omega, ?_⟩
  conv => whnf
  refine ⟨by simp [cutS]; omega, ?_⟩
  conv => whnf
  rw [eT]
  have ht : ((m.text.drop a).take (cut m a most)).length = cut m a most := lT
  split
  · rename_i hf
    have hf : m.free = false := by simpa using hf
    conv => whnf
    refine ⟨by omega, ?_⟩
    conv => whnf
    rw [lT]
    refine ⟨by omega, ?_⟩
    conv => whnf
    split
    · rename_i hc
      have hc : a + cut m a most < m.text.length := by
        have : ((a : Int) + (cut m a most : Nat)) < m.text.length := by simpa using hc
        omega
      conv => whnf
      refine ⟨by kernel_rfl, ?_⟩
      conv => whnf
      have e1 : after m r a nx most = ⟨m :: r, a + cut m a most, nx⟩ := by simp [after, hc]
      refine ⟨_, ?_, rfl, by rw [e1]; rfl⟩
      rw [e1]
      refine .tup ⟨.agg ⟨.refl _, .of_eq (by simp), .refl _, trivial⟩, .agg ⟨.refl _, .of_eq ?_, .of_eq ?_, .refl _, .refl _, .of_eq ?_, .refl _, .refl _, trivial⟩, .refl _, .refl _, trivial⟩
      · simp [pieceOf, nat_beq0]
      · simp [pieceOf]; omega
      · simp [pieceOf, num, hf]
    · rename_i hc
      have hc : ¬ a + cut m a most < m.text.length := by
        have : ¬ ((a : Int) + (cut m a most : Nat)) < m.text.length := by simpa using hc
        omega
      conv => whnf
      refine ⟨_, kept_tail m r hn40, ?_⟩
      rintro q rfl
      conv => whnf
      rw [hf]
      conv => whnf
      refine ⟨_, clone16_spec nx hx, ?_⟩
      rintro q rfl
      conv => whnf
      refine ⟨by omega, ?_⟩
      conv => whnf
      refine ⟨by omega, ?_⟩
      conv => whnf
      refine ⟨by omega, ?_⟩
      conv => whnf
      refine ⟨by omega, ?_⟩
      conv => whnf
      refine ⟨by kernel_rfl, ?_⟩
      conv => whnf
      refine ⟨by omega, ?_⟩
      conv => whnf
      have e1 : after m r a nx most = ⟨r, 0, nx.set m.stream ((nx.getD m.stream 0 + 1) % 65536)⟩ := by simp [after, hc, bump, hf]
      refine ⟨_, ?_, rfl, by rw [e1]; rfl⟩
      rw [e1]
      refine .tup ⟨.agg ⟨.refl _, .of_eq (by simp), .sl (by simp) (fun k hk => ?_), trivial⟩, .agg ⟨.refl _, .of_eq ?_, .of_eq ?_, .of_eq ?_, .refl _, .of_eq ?_, .refl _, .refl _, trivial⟩, .refl _, .refl _, trivial⟩
      · have hk : k < nx.length := by simpa using hk
        have e3 : IntKind.u16.wrap (((nx.getD m.stream 0 : Nat) : Int) + 1) = (((nx.getD m.stream 0 + 1) % 65536 : Nat) : Int) := by simp [IntKind.wrap, IntKind.bits, IntKind.signed]
        simp only [fupd, Nat.zero_add, Int.toNat_natCast]
        split
        · rename_i e
          subst e
          rw [show (nx.getD m.stream default) = nx.getD m.stream 0 from rfl, e3]
          simp [encN, hs]
        · rename_i e
          rw [show (default : Nat) = 0 from rfl]
          simp only [List.getD_eq_getElem?_getD, List.getElem?_set]
          rw [if_neg (by omega)]
      · simp [pieceOf, nat_beq0]
      · simp [pieceOf]; omega
      · simp [pieceOf, hf]
      · simp [pieceOf, num, hf]
  · rename_i hf
    have hf : m.free = true := by simpa using hf
    conv => whnf
    rw [lT]
    refine ⟨by omega, ?_⟩
    conv => whnf
    split
    · rename_i hc
      have hc : a + cut m a most < m.text.length := by
        have : ((a : Int) + (cut m a most : Nat)) < m.text.length := by simpa using hc
        omega
      conv => whnf
      refine ⟨by kernel_rfl, ?_⟩
      conv => whnf
      have e1 : after m r a nx most = ⟨m :: r, a + cut m a most, nx⟩ := by simp [after, hc]
      refine ⟨_, ?_, rfl, by rw [e1]; rfl⟩
      rw [e1]
      refine .tup ⟨.agg ⟨.refl _, .of_eq (by simp), .refl _, trivial⟩, .agg ⟨.refl _, .of_eq ?_, .of_eq ?_, .refl _, .refl _, .of_eq ?_, .refl _, .refl _, trivial⟩, .refl _, .refl _, trivial⟩
      · simp [pieceOf, nat_beq0]
      · simp [pieceOf]; omega
      · simp [pieceOf, num, hf]
    · rename_i hc
      have hc : ¬ a + cut m a most < m.text.length := by
        have : ¬ ((a : Int) + (cut m a most : Nat)) < m.text.length := by simpa using hc
        omega
      conv => whnf
      refine ⟨_, kept_tail m r hn40, ?_⟩
      rintro q rfl
      conv => whnf
      rw [hf]
      conv => whnf
      refine ⟨by kernel_rfl, ?_⟩
      conv => whnf
      have e1 : after m r a nx most = ⟨r, 0, nx⟩ := by simp [after, hc, bump, hf]
      refine ⟨_, ?_, rfl, by rw [e1]; rfl⟩
      rw [e1]
      refine .tup ⟨.agg ⟨.refl _, .of_eq (by simp), .refl _, trivial⟩, .agg ⟨.refl _, .of_eq ?_, .of_eq ?_, .of_eq ?_, .refl _, .of_eq ?_, .refl _, .refl _, trivial⟩, .refl _, .refl _, trivial⟩
      · simp [pieceOf, nat_beq0]
      · simp [pieceOf]; omega
      · simp [pieceOf, hf]
      · simp [pieceOf, num, hf]
end Go.Proofs.Yteblkbnkaogkmaa
