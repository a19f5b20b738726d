/- The walk of the statements' check of the known checksum. -/
import Derived.Test.YtejojfjbecpofaaCrc1
import Derived.Lib.SlBytesConst
import Derived.Deep.RegionWith
namespace Go.Proofs.Ytejojfjbecpofaa
open Go.RowKit

theorem able_b : (Crc.nU (Crc.more 0#32 [49, 50, 51, 52, 53, 54, 55, 56, 57]) == 3421780262) = true := by decide +kernel
theorem able_c : (Crc.nU (Crc.more (Crc.more 0#32 [49, 50, 51, 52]) [53, 54, 55, 56, 57]) == 3421780262) = true := by decide +kernel

set_option maxHeartbeats 400000 in
theorem able_any (w : World) :
    Calls Try.prog 10 #[] w fun e w' => e = .returned (.bool true) ∧ Below w.heap.size w w' := by
  have kc : ∀ (W : World) (s : Nat) (C : Array Value) (n c : Nat), W.heap.size = s → (convert 24 24 (.slice (some ⟨s, 0, none⟩) n c)).run Try.prog (W.alloc (.cells C 5)) = .ok (.slice (some ⟨s, 0, none⟩) n c) (W.alloc (.cells C 5 (C.size, C.size + 1))) :=
    fun W s C n c hs => by subst hs; exact Lib.run_convert_bytes_const (P := Try.prog) W 24 5 C n c Try.underlying24 Try.underlying5
  have b1 := able_b
  have b2 := able_c
  go_enter Try.func10, Try.ntmps10
  go_wp2_with fail
  refine Calls.mono (crcSum_one _ _ ?s1 _ _ _ [49, 50, 51, 52, 53, 54, 55, 56, 57] ?r1 (by simp [maxLen]) rfl) ?_
  case s1 => simp
  case r1 => exact Mem.Rd.alloc_new _ _ _ _ rfl
  rintro e w' ⟨rfl, rfl⟩
  go_wp2_with fail
  refine Calls.mono (crcSum_one _ _ ?s2 _ _ _ [49, 50, 51, 52] ?r2 (by simp [maxLen]) rfl) ?_
  case s2 => simp
  case r2 => exact Mem.Rd.alloc_new _ _ _ _ (by simp)
  rintro e w' ⟨rfl, rfl⟩
  go_wp2_with fail
  refine Calls.mono (crcMore_any _ _ _ [53, 54, 55, 56, 57] (w.heap.size + 1 + 1 + 1 + 1 + 1) _ ?r3 (by simp [maxLen])) ?_
  case r3 => exact Mem.Rd.alloc_new _ _ _ _ (by simp)
  rintro e w' ⟨rfl, rfl⟩
  go_wp2_with fail
  go_ret
  refine ⟨rfl, ?_⟩
  exact (((((Below.refl _ _).alloc (Nat.le_refl _) _).alloc (by simp) _).alloc (by simp; omega) _).alloc (by simp; omega) _).alloc (by simp; omega) _

end Go.Proofs.Ytejojfjbecpofaa
