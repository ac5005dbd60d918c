/- Chapter 2's sums, as contracts of the engine. -/
import Derived.Test.YtcdondbegnbdgaaDoorPkB
import Derived.Test.YtcdondbegnbdgaaDoorCrcI
namespace Go.Proofs.YtcdondbegnbdgaaDoor
open Go Go.RowKit Towline Towline.Tlv Towline.Chunk Towline.Packet Towline.Crc
set_option linter.unusedVariables false
set_option linter.unusedSimpArgs false
set_option maxRecDepth 20000
/-- A contract of a function of one text, out of one that was walked by hand. -/
theorem spec_of_text {P : Program} {f : FuncId} (hf : ∃ fn c, P.funcs[f]? = some fn ∧ (fn.name == "runtime.NumGoroutine") = false ∧ fn.body = some c) (l : List UInt8) (v : Value) (r : AVal) (hr : r.data = true) (hv : ∀ w L gd, RepA w L gd r v)
    (h : ∀ w, Calls P f #[.string ⟨l.toArray⟩] w fun e w' => e = .returned v ∧ Below w.heap.size w w') : PSpec P f [.d (.s l)] (· = r) := by
  refine ⟨hf, fun w R vs hR hz ha => ?_⟩
  have h0 := ha 0 (.d (.s l)) rfl
  have hv0 : vs.getD 0 undef = .string ⟨l.toArray⟩ := repA_s h0
  have hvs : vs = #[.string ⟨l.toArray⟩] := by
    have hz : vs.size = 1 := hz
    apply Array.ext
    · rw [hz]; rfl
    · intro i h1 h2
      obtain rfl : i = 0 := by omega
      rw [Array.getD_eq_getD_getElem?, Array.getElem?_eq_getElem h1] at hv0
      simpa using hv0
  rw [hvs]
  refine (h w).mono fun e w' ⟨he, hb⟩ => ⟨v, r, he, rfl, hb, ?_⟩
  unfold RepR
  cases r with
  | fresh => simp [AVal.data] at hr
  | _ => exact ⟨hr, hv _ _ _⟩
def sealL (l : List UInt8) : List UInt8 × Int := if l.length < 12 then ([], 3) else (Crc.sealed l, 0)
theorem fn_seal : ∃ fn c, Tryd.prog.funcs[26]? = some fn ∧ (fn.name == "runtime.NumGoroutine") = false ∧ fn.body = some c := ⟨_, _, Tryd.func26, by decide, rfl⟩
theorem fn_check : ∃ fn c, Tryd.prog.funcs[16]? = some fn ∧ (fn.name == "runtime.NumGoroutine") = false ∧ fn.body = some c := ⟨_, _, Tryd.func16, by decide, rfl⟩
theorem rep_pair (l : List UInt8) (n : Int) (w : World) (L : Lay) (gd : Nat → Prop) : RepA w L gd (.tup [tvs l, tvi n]) (.tuple #[.string ⟨l.toArray⟩, .int .i64 n]) := by
  refine .tup rfl fun i x hx => ?_
  match i, hx with
  | 0, hx => cases hx; exact .d (.s l)
  | 1, hx => cases hx; exact .d (.i _ _)
theorem seal_spec (l : List UInt8) (h : l.length ≤ 2 ^ 40) : PSpec Tryd.prog 26 [tvs l] (· = .tup [tvs (sealL l).1, tvi (sealL l).2]) := by
  refine spec_of_text fn_seal l (.tuple #[.string ⟨(sealL l).1.toArray⟩, .int .i64 (sealL l).2]) _ rfl (rep_pair _ _) fun w => ?_
  unfold sealL
  by_cases h12 : l.length < 12
  · rw [if_pos h12]
    exact (Crc.seal_short ⟨l.toArray⟩ w (show l.length < 12 from h12)).mono fun e w' ⟨he, hw⟩ => ⟨he, hw ▸ Below.refl _ _⟩
  · rw [if_neg h12]
    have hm : (2 : Nat) ^ 40 ≤ maxLen := by decide
    exact (Crc.seal_long ⟨l.toArray⟩ w (show 12 ≤ l.length from Nat.not_lt.1 h12) (show l.length ≤ maxLen from Nat.le_trans h hm)).mono fun e w' ⟨he, hw⟩ => ⟨he, hw⟩
theorem check_spec (l : List UInt8) (h : l.length ≤ 2 ^ 40) : PSpec Tryd.prog 16 [tvs l] (· = tvi (checkL l)) := by
  refine spec_of_text fn_check l (.int .i64 (checkL l)) _ rfl (fun _ _ _ => .d (.i _ _)) fun w => ?_
  unfold checkL
  by_cases h12 : l.length < 12
  · rw [if_pos h12]
    exact (Crc.check_short ⟨l.toArray⟩ w (show l.length < 12 from h12)).mono fun e w' ⟨he, hw⟩ => ⟨he, hw ▸ Below.refl _ _⟩
  · rw [if_neg h12]
    have hm : (2 : Nat) ^ 40 ≤ maxLen := by decide
    exact (Crc.check_long ⟨l.toArray⟩ w (show 12 ≤ l.length from Nat.not_lt.1 h12) (show l.length ≤ maxLen from Nat.le_trans h hm)).mono fun e w' ⟨he, hw⟩ => ⟨he, hw⟩
end Go.Proofs.YtcdondbegnbdgaaDoor
