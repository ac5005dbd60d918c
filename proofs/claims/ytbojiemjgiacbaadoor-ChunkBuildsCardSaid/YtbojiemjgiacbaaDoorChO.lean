/- Chapter 7: ChunkBuilds: contract. -/
import Derived.Test.YtbojiemjgiacbaaDoorWtC
import Derived.Test.YtbojiemjgiacbaaDoorRf7C
namespace Go.Proofs.YtbojiemjgiacbaaDoor
open Go Go.RowKit Towline Towline.Tlv Towline.Chunk
set_option linter.unusedVariables false
set_option linter.unusedSimpArgs false
set_option maxRecDepth 20000
set_option maxHeartbeats 1000000
theorem builds7_spec (c : Ch) (hr : ChR c) : PSpec Tryd.prog 6 [cA c] (· = tvb true) := by
  refine PSpec.run (tysOk) followsB Tryd.func6 (by decide) rfl Tryd.ntmps6 (Nat.le_of_ble_eq_true rfl) rfl fun w0 R0 => ?_
  conv => whnf
  refine ⟨_, shown7_spec, ?_⟩
  rintro q rfl
  conv => whnf
  refine ⟨_, small7_spec c, ?_⟩
  rintro q ⟨b, rfl, hb⟩
  cases b
  · conv => whnf
    exact ⟨_, .refl _, rfl, rfl⟩
  have hb1 := hb rfl
  have hok : ChOk c := hr.ok (by omega) (by omega) (by omega)
  have hi := hok.items
  conv => whnf
  refine ⟨_, build_spec7 c hok, ?_⟩
  rintro q rfl
  conv => whnf
  refine ⟨_, as7_spec c (by omega), ?_⟩
  rintro q rfl
  conv => whnf
  refine ⟨_, rbuild7_spec c hok hr, ?_⟩
  rintro q rfl
  conv => whnf
  rw [beq_self_eq_true]
  conv => whnf
  try (rw [beq_self_eq_true]; conv => whnf)
  refine ⟨_, right_spec c hok, ?_⟩
  conv => whnf
  refine ⟨_, as7_spec c (by omega), ?_⟩
  conv => whnf
  refine ⟨_, rright_spec c hok hr, ?_⟩
  conv => whnf
  try (rw [beq_self_eq_true]; conv => whnf)
  refine ⟨_, size_spec c hok, ?_⟩
  conv => whnf
  refine ⟨_, as7_spec c (by omega), ?_⟩
  conv => whnf
  refine ⟨_, rsize_spec c hok hr, ?_⟩
  conv => whnf
  try (rw [beq_self_eq_true]; conv => whnf)
  refine ⟨by kernel_rfl, ?_⟩
  conv => whnf
  exact ⟨_, .refl _, rfl, rfl⟩
theorem chunkBuilds_of {l0 : List D} (h0 : wt tys 8 29 l0) : PSpec Tryd.prog 6 [asV true l0] (· = tvb true) := by
  obtain ⟨c, h1, h2⟩ := wt_chunk (n := 4) h0
  exact (builds7_spec c h2).argsC ⟨h1, trivial⟩
end Go.Proofs.YtbojiemjgiacbaaDoor
