/- Chapter 19: both ends of an association of two paths begin. -/
import Derived.Test.YtbghocipmlobnaaGreatAbF
namespace Go.Proofs.YtbghocipmlobnaaGreat
open Go Go.RowKit Towline Towline.Hand Towline.Ab
set_option linter.unusedVariables false
set_option linter.unusedSimpArgs false
set_option maxRecDepth 20000
set_option maxHeartbeats 4000000
abbrev sB4 : List UInt8 := [98, 98, 98, 98]
abbrev sC4 : List UInt8 := [99, 99, 99, 99]
abbrev sD4 : List UInt8 := [100, 100, 100, 100]
abbrev h1A : H := hO 5 4294967290 4
abbrev c1A : K := cO 5 4294967290 4
abbrev sM : S := ⟨50, 5, 1000, 4294967290, 0, 0, 60000, 4, 4, 1, 2, a4, 0, 60000⟩
abbrev hB : H := ⟨3, 0, 0, 50, 5, 1000, 4294967290, 60000, 60000, 4, 4, []⟩
abbrev pB : Pth := p0 sB4 2
abbrev qB : Pth := p0 sC4 1
abbrev pD : Pth := p0 a4 2
abbrev qD : Pth := p0 sD4 1
theorem openB_spec : LSpec Tryz.prog 11 [adr2 sB4 sC4, v32 5, v32 4294967290, v32 60000, v16 4, vi 0] [] (fun r hl => r = .tup [.ptr 25000 0, vi 0] ∧ hl = [(25000, .box (bsL h1A pB qB sN 4294967289 0 nilD (.rsl 69000 2 0 1) nilA (.rsl 25001 1 0 2) (.rsl 25002 1 0 2))), (69000, out1 0 c1A nilD), (25001, row2 0 0), (25002, row2 0 0)]) := by
  refine LSpec.run (tysBOk) followsB Tryz.func11 (by decide) rfl Tryz.ntmps11 (Nat.le_of_ble_eq_true rfl) rfl rfl fun w0 R0 Lo hGw => ?_
  conv => whnf
  refine ⟨_, (begin2_spec sB4 sC4 rfl rfl (by decide)), ?_⟩
  rintro q hq ⟨rfl, rfl⟩
  conv => whnf
  refine ⟨by first | omega | decide +kernel, ?_⟩
  conv => whnf
  refine ⟨_, (storeNew_spec 4 (by decide)), ?_⟩
  rintro q rfl
  conv => whnf
  have hp := open_spec H.nil 5 4294967290 60000 4 0
  rw [openR_ok 5 4294967290 4 (by decide) (by decide)] at hp
  refine ⟨_, hp, ?_⟩
  rintro q rfl
  conv => whnf
  refine ⟨_, (sentNew_spec 4294967290), ?_⟩
  conv => whnf
  refine ⟨by kernel_rfl, ?_⟩
  conv => whnf
  refine ⟨_, (LSpec.argsC (replyNI_spec h1A pB qB sN 4294967289 0 nilD 0 0 c1A nilD rfl) ⟨.refl _, .refl _, .sl rfl fun k hk => by cases k0 hk; rfl, trivial⟩), ?_⟩
  rintro q hq ⟨rfl, rfl⟩
  conv => whnf
  refine ⟨_, _, .refl _, ?_, rfl, rfl⟩
  exact ⟨OLe.refl _, OLe.refl _, OLe.refl _, OLe.refl _, trivial⟩
theorem acceptB_spec : LSpec Tryz.prog 12 [sA sM, adr2 a4 sD4, v32 60000, vi 0] [] (fun r hl => r = .tup [.ptr 19000 0, vi 0] ∧ hl = [(19000, .box (bsL hB pD qD sN 999 4294967289 sN (.rsl 70000 2 0 1) (.rsl 67000 2 0 1) (.rsl 19001 1 0 2) (.rsl 19002 1 0 2))), (70000, out1 0 (K.of 11) nilD), (67000, noteO), (19001, row2 0 0), (19002, row2 0 0)]) := by
  refine LSpec.run (tysBOk) followsB Tryz.func12 (by decide) rfl Tryz.ntmps12 (Nat.le_of_ble_eq_true rfl) rfl rfl fun w0 R0 Lo hGw => ?_
  conv => whnf
  refine ⟨_, (begin2_spec a4 sD4 rfl rfl (by decide)), ?_⟩
  rintro q hq ⟨rfl, rfl⟩
  conv => whnf
  have hc := cright_spec sM (by decide) (by decide) (by decide) (by decide)
  rw [show rightB sM = true from by decide +kernel] at hc
  refine ⟨_, hc, ?_⟩
  rintro q rfl
  conv => whnf
  refine ⟨_, (accept_spec sM 60000), ?_⟩
  rintro q rfl
  conv => whnf
  refine ⟨_, (sentNew_spec 1000), ?_⟩
  conv => whnf
  refine ⟨by kernel_rfl, ?_⟩
  conv => whnf
  refine ⟨by first | omega | decide +kernel, ?_⟩
  conv => whnf
  refine ⟨_, (storeNew_spec 4 (by decide)), ?_⟩
  rintro q rfl
  conv => whnf
  refine ⟨_, (metB_spec hB pD qD 999 0 0 rfl rfl), ?_⟩
  rintro q hq ⟨rfl, rfl⟩
  conv => whnf
  refine ⟨_, (noteBI_spec hB pD qD sN 999 4294967289 sN 0 0), ?_⟩
  rintro q hq ⟨rfl, rfl⟩
  conv => whnf
  refine ⟨_, (LSpec.argsC (replyNIII_spec hB pD qD sN 999 4294967289 sN 0 0 (K.of 11) nilD rfl) ⟨.refl _, .refl _, .sl rfl fun k hk => by cases k0 hk; rfl, trivial⟩), ?_⟩
  rintro q hq ⟨rfl, rfl⟩
  conv => whnf
  refine ⟨_, _, .refl _, ?_, rfl, rfl⟩
  exact ⟨OLe.refl _, OLe.refl _, OLe.refl _, OLe.refl _, OLe.refl _, trivial⟩
end Go.Proofs.YtbghocipmlobnaaGreat
