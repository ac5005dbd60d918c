/- The program's orders; short names of values. -/
import Derived.Test.YtjdmnfjgmbnlbaaGreatDoorTys
namespace Go.Proofs.YtjdmnfjgmbnlbaaGreatDoor
open Go Go.RowKit Towline
theorem followsB : Tryz.prog.follows .mixedOrders = true := by kernel_rfl
abbrev ni (n : Int) : AVal := .d (.i .i64 n)
abbrev n32 (n : Int) : AVal := .d (.i .u32 n)
abbrev n16 (n : Int) : AVal := .d (.i .u16 n)
abbrev n8 (n : Int) : AVal := .d (.i .u8 n)
abbrev nb (b : Bool) : AVal := .d (.b b)
abbrev ns (s : List UInt8) : AVal := .d (.s s)
abbrev nnil : AVal := .d (.v (.slice none 0 0))
abbrev nptr : AVal := .d (.v (.pointer none))
abbrev Z0 : Nat := 1000000000
abbrev Z1 : Nat := 1000000001
abbrev Z2 : Nat := 1000000002
abbrev Z3 : Nat := 1000000003
abbrev Z4 : Nat := 1000000004
end Go.Proofs.YtjdmnfjgmbnlbaaGreatDoor
