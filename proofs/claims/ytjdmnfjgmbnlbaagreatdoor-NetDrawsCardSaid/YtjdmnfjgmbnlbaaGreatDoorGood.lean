/- The table that the row lists is there. -/
import Derived.Test.YtjdmnfjgmbnlbaaGreatDoorRows
import Derived.Test.YtjdmnfjgmbnlbaaGreatDoorTys
import Derived.Lib.LaidTab
import Derived.MakeChecks
namespace Go.Proofs.YtjdmnfjgmbnlbaaGreatDoor
open Go Go.RowKit Towline
set_option linter.unusedVariables false
set_option maxRecDepth 20000
def tab64 : List Int := [0, 1, 56, 2, 57, 49, 28, 3, 61, 58, 42, 50, 38, 29, 17, 4, 62, 47, 59, 36, 45, 43, 51, 22, 53, 39, 33, 30, 24, 18, 12, 5, 63, 55, 48, 27, 60, 41, 37, 16, 46, 35, 44, 21, 52, 32, 23, 11, 54, 26, 40, 15, 34, 20, 31, 10, 25, 14, 19, 9, 13, 8, 7, 6]
theorem tabs_eq : engTabs = [(2, .u8, tab64)] := rfl
theorem goodT {W : World} (hL : laidMetH Tryz.prog [("math/bits.deBruijn32tab", Rows.laid_math_bits_deBruijn32tab), ("math/bits.deBruijn64tab", Rows.laid_math_bits_deBruijn64tab), ("internal/strconv.uint64pow10", Rows.laid_internal_strconv_uint64pow10), ("unicode/utf8.acceptRanges", Rows.laid_unicode_utf8_acceptRanges), ("unicode/utf8.first", Rows.laid_unicode_utf8_first)] W) : GoodW W (fun b => b < W.heap.size) := by
  rw [MakeChecks.laidMetH_plain _ _ _ (by kernel_rfl)] at hL
  obtain ⟨ps, hl, _⟩ := hL
  obtain ⟨g1, t1, cs1, f1, p1, q1, _, _, _, _, hl2, _⟩ := hl
  obtain ⟨g, t, cs, fuel, p, q, hg, ht, hvar, hd, _, _⟩ := hl2
  have hg3 : Tryz.prog.globalNamed "math/bits.deBruijn64tab" = some 2 := by kernel_rfl
  obtain rfl := Option.some.inj (hg3.symm.trans hg)
  have ht3 : (Tryz.prog.globals[2]?).map (·.type) = some 437 := by kernel_rfl
  obtain rfl := Option.some.inj (ht3.symm.trans ht)
  have hc := Lib.cells_of_tab (k := .u8) (zs := tab64) (e := 5) (n := 64) (P := Tryz.prog) (by kernel_rfl) (by kernel_rfl) (by kernel_rfl) (by kernel_rfl) hd
  have hblk : ∃ ty mk, W.heap[2]? = some (.cells cs ty mk) := by
    simp only [World.var?, hg, Option.bind_some] at hvar
    split at hvar
    · rename_i c a b e
      simp only [Option.some.injEq] at hvar
      subst hvar
      exact ⟨_, _, e⟩
    · cases hvar
  obtain ⟨ty, mk, hb⟩ := hblk
  intro n k l e
  rw [tabs_eq] at e
  have eq : lookG n [(2, .u8, tab64)] = (match Nat.beq 2 n with | true => some (.u8, tab64) | false => none) := rfl
  rw [eq] at e
  cases hbq : Nat.beq 2 n with
  | false => rw [hbq] at e; cases e
  | true =>
    rw [hbq] at e
    have hn := Nat.eq_of_beq_eq_true hbq
    subst hn
    simp only [Option.some.injEq, Prod.mk.injEq] at e
    obtain ⟨rfl, rfl⟩ := e
    have hcs : cs = (tab64.map (Value.int .u8)).toArray := by rw [← hc]
    exact ⟨(Array.getElem?_eq_some_iff.1 hb).1, ty, mk, by rw [hb, hcs]⟩
end Go.Proofs.YtjdmnfjgmbnlbaaGreatDoor
