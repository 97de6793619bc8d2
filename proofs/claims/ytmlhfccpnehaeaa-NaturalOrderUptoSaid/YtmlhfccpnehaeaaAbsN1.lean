/- Seat n1: the program, its types and functions. -/
import Derived.Test.YtmlhfccpnehaeaaAbsL
import Derived.Test.YtmlhfccpnehaeaaProg
set_option autoImplicit false
namespace Go.Abs
open Go Go.Proofs

def tab : Tab := [
  (3, ⟨.int .i64, 1, 8, [.int .i64 0]⟩),
  (4, ⟨.bool, 1, 1, [.bool false]⟩),
  (5, ⟨.int .u8, 1, 1, [.int .u8 0]⟩),
  (9, ⟨.str, 1, 16, [.str ByteArray.empty]⟩),
  (22, ⟨.slice 39, 1, 24, [.sl 1 (fun _ => [.int .u32 0]) 0 (some 0)]⟩),
  (23, ⟨.int .u64, 1, 8, [.int .u64 0]⟩),
  (39, ⟨.int .u32, 1, 4, [.int .u32 0]⟩),
  (41, ⟨.slice 3, 1, 24, [.sl 1 (fun _ => [.int .i64 0]) 0 (some 0)]⟩),
  (45, ⟨.slice 22, 1, 24, [.sl 1 (fun _ => [.sl 1 (fun _ => [.int .u32 0]) 0 (some 0)]) 0 (some 0)]⟩),
  (49, ⟨.int .u64, 1, 8, [.int .u64 0]⟩)]
theorem env : Env Try.prog tab := ⟨by kernel_rfl, by kernel_rfl⟩
end Go.Abs
