/- math/bits.OnesCount of twelve bits. -/
import Derived.Test.YtbmlkomfelkckaaMem
namespace Go.Proofs.Ytbmlkomfelkckaa
open Go Go.RowKit
set_option maxRecDepth 100000

/-- How many of the twelve lowest bits are set. -/
def pop (x : Nat) : Nat := ((List.range 12).filter fun i => x.testBit i).length

def one1s (x : Int) : Int := IntKind.u64.wrap (bits .and .u64 (x / 2) 6148914691236517205 + bits .and .u64 x 6148914691236517205)
def one2s (y : Int) : Int := IntKind.u64.wrap (bits .and .u64 (y / 4) 3689348814741910323 + bits .and .u64 y 3689348814741910323)
def one3s (y : Int) : Int := bits .and .u64 (IntKind.u64.wrap (y / 16 + y)) 1085102592571150095
def one4s (y : Int) : Int := IntKind.u64.wrap (y + y / 256)
def one5s (y : Int) : Int := IntKind.u64.wrap (y + y / 65536)
def one6s (y : Int) : Int := IntKind.u64.wrap (y + y / 4294967296)
def onesE (x : Int) : Int := bits .and .i64 (wrap64 (one6s (one5s (one4s (one3s (one2s (one1s x))))))) 127

theorem onesE_all : ((List.range 4096).all fun x : Nat => onesE (x : Int) == (pop x : Int)) = true := by kernel_rfl

theorem onesE_pop {x : Nat} (h : x < 4096) : onesE (x : Int) = (pop x : Int) := by
  have := List.all_eq_true.1 onesE_all x (List.mem_range.2 h)
  simpa using this

theorem ones64_calls (x : Nat) (w : World) (hx : x < 4096) : Calls Try.prog 104 #[.int .u64 (x : Int)] w fun e w' => e = .returned (.int .i64 (pop x : Int)) ∧ w' = w := by
  rw [← onesE_pop hx]
  have hxI : (x : Int) < 4096 := by omega
  clear hx
  go_enter Try.func104, Try.ntmps104
  go_wp2_with fail
  go_ret
  exact ⟨rfl, rfl⟩

theorem ones_calls (x : Nat) (w : World) (hx : x < 4096) : Calls Try.prog 74 #[.int .u64 (x : Int)] w fun e w' => e = .returned (.int .i64 (pop x : Int)) ∧ w' = w := by
  go_enter Try.func74, Try.ntmps74
  go_wp2_with (go_at_call 104; refine (ones64_calls x _ hx).mono ?_; rintro e w' ⟨rfl, rfl⟩)
  go_ret
  exact ⟨rfl, rfl⟩
end Go.Proofs.Ytbmlkomfelkckaa
