/- Chapter 6: Parse: its contract. -/
import Derived.Test.YtcdondbegnbdgaaDoorTlvH
namespace Go.Proofs.YtcdondbegnbdgaaDoor
open Go Go.RowKit Go.Shelf Towline Towline.Tlv
set_option linter.unusedVariables false
set_option linter.unusedSimpArgs false
attribute [local go_sem] Oper.semAt_some
set_option maxRecDepth 100000 in
set_option maxHeartbeats 1000000 in
theorem parse_long (n : Nat) (s : List UInt8) (hs : 4000 < s.length) (w : World) :
    CallsIn Fence.wide n Tryd.prog 76 #[strV s] w fun e W' => ∃ v, e = .returned (.tuple #[v, .int .i64 (parseL s).2.1, .int .i64 (parseL s).2.2]) ∧ Below w.heap.size w W' ∧
      W'.ownsRow w.heap.size 80 2 v (parseL s).1.length ((parseL s).1.flatMap fun x => [.int .i64 x.ty, strV x.v]) := by
  refine callsIn_of_wp Tryd.func76 rfl trivial ?_ rfl
  simp only [Tryd.ntmps76, List.size_toArray, List.length_cons, List.length_nil, Nat.reduceAdd, Nat.reduceSub, Array.replicate_succ, Array.replicate_zero, List.push_toArray, List.append_toArray, List.nil_append, List.cons_append]
  rw [show parseL s = ([], 0, 4) from by unfold parseL; rw [if_pos hs]]
  gi_wp2
  have b0 := ((Boxed.new w 33 (.slice none 0 0)).alloc (.cells #[.int .i64 0] 3)).alloc (.cells #[.int .i64 4] 39)
  have b1 := (Boxed.new (w.alloc (.cells #[.slice none 0 0] 33)) 3 (.int .i64 0)).alloc (.cells #[.int .i64 4] 39)
  have b2 := Boxed.new ((w.alloc (.cells #[.slice none 0 0] 33)).alloc (.cells #[.int .i64 0] 3)) 39 (.int .i64 4)
  simp only [World.size_alloc] at b1 b2
  have k0 := b0.cell
  have k1 := b1.cell
  have k2 := b2.cell
  refine bodyPost_ret (v := .tuple #[.slice none 0 0, .int .i64 0, .int .i64 4]) (by simp [results, Tryd.f76, go_sem, k0, k1, k2]) rfl ?_
  exact ⟨.slice none 0 0, rfl, (((Below.refl _ w).alloc (Nat.le_refl _) _).alloc (by simp) _).alloc (by simp; omega) _, World.ownsRow_nil _ _ _ _⟩
theorem flat2 : ∀ (l : List Tlv.It) (k : Nat), k < l.length → (l.flatMap fun x => [Value.int .i64 x.ty, strV x.v])[k * 2]? = some (.int .i64 (l.getD k default).ty) ∧ (l.flatMap fun x => [Value.int .i64 x.ty, strV x.v])[k * 2 + 1]? = some (strV (l.getD k default).v)
  | [], k, h => by simp at h
  | x :: l, 0, _ => ⟨rfl, rfl⟩
  | x :: l, k + 1, h => by
    have e := flat2 l k (by simpa using h)
    have h2 : (k + 1) * 2 = k * 2 + 1 + 1 := by omega
    rw [h2, List.flatMap_cons]
    exact e
theorem flat2_len : ∀ l : List Tlv.It, (l.flatMap fun x => [Value.int .i64 x.ty, strV x.v]).length = l.length * 2
  | [] => rfl
  | x :: l => by
    rw [List.flatMap_cons, List.length_append, flat2_len l, List.length_cons]
    simp
    omega
theorem repD_own {w' : World} {gd : Nat → Prop} {base e : Nat} {v : Value} {l : List Tlv.It} (h : w'.ownsRow base e 2 v l.length (l.flatMap fun x => [.int .i64 x.ty, strV x.v])) (hg : ∀ b, v.ownBlock = some b → gd b) : RepD w' gd (slT 2 encI l) v := by
  obtain ⟨h1, ⟨rfl, h2⟩ | ⟨g, cap, cur, rfl, hb, hh, hc, hcap, hcur, hx⟩⟩ := h
  · obtain rfl := List.eq_nil_of_length_eq_zero h2
    exact .sl0 _ _ _ _ (by decide)
  · by_cases hn : l.length = 0
    · obtain rfl := List.eq_nil_of_length_eq_zero hn
      exact .sl0 _ _ _ _ hcap
    · have hget : ∀ i, i < l.length * 2 → cur[i]? = (l.flatMap fun x => [Value.int .i64 x.ty, strV x.v])[i]? := fun i hi => by
        rw [← hx, List.getElem?_take, if_pos hi]
        simp
      refine .sl 2 l.length (fun k => encI (l.getD k default)) g 0 cap (fun k j => (cur[k * 2 + j]?).getD undef) (by omega) hc hcap (hg g rfl) (Array.getElem?_eq_some_iff.1 hh).1 (fun k hk => rfl) (fun k hk j hj => ?_) (fun k hk j x hxx => ?_)
      · have hlt : k * 2 + j < cur.size := by omega
        simp only [World.cell?, hh, Nat.zero_add]
        rw [Array.getElem?_eq_getElem hlt]
        rfl
      · obtain ⟨e0, e1⟩ := flat2 l k hk
        match j, hxx with
        | 0, hxx =>
          cases hxx
          rw [Nat.add_zero, hget _ (by omega), e0]
          exact .i _ _
        | 1, hxx =>
          cases hxx
          rw [hget _ (by omega), e1]
          exact .s _
theorem parse_spec (s : List UInt8) : PSpec Tryd.prog 76 [tvs s] (· = .tup [.d (slT 2 encI (parseL s).1), tvi (parseL s).2.1, tvi (parseL s).2.2]) := by
  refine ⟨⟨_, _, Tryd.func76, by decide, rfl⟩, fun w R vs hR hz ha => ?_⟩
  have h0 := repA_s (ha 0 _ rfl)
  obtain ⟨v0, rfl⟩ : ∃ v0, vs = #[v0] := by
    obtain ⟨l⟩ := vs
    match l, hz with
    | [x], _ => exact ⟨x, rfl⟩
  have h0 : v0 = strV s := h0
  rw [h0]
  have h1 : CallsIn Fence.wide 4 Tryd.prog 76 #[strV s] w fun e W' => ∃ v, e = .returned (.tuple #[v, .int .i64 (parseL s).2.1, .int .i64 (parseL s).2.2]) ∧ Below w.heap.size w W' ∧
      W'.ownsRow w.heap.size 80 2 v (parseL s).1.length ((parseL s).1.flatMap fun x => [.int .i64 x.ty, strV x.v]) := by
    by_cases h : s.length ≤ 4000
    · exact parse_in 4 (by omega) s h w
    · exact parse_long 4 s (by omega) w
  refine (callsIn_wide.1 h1).mono ?_
  rintro e w' ⟨v, rfl, hb, hrow⟩
  refine ⟨_, _, rfl, rfl, hb, rfl, ?_⟩
  refine .tup rfl (fun i x hx => ?_)
  match i, hx with
  | 0, hx =>
    cases hx
    refine .d (repD_own hrow fun b hb => .inr ?_)
    exact hrow.lt b hb
  | 1, hx => cases hx; exact .d (.i _ _)
  | 2, hx => cases hx; exact .d (.i _ _)
end Go.Proofs.YtcdondbegnbdgaaDoor
