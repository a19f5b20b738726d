/- The walk of CrcJoins: two checksums joined are as the document joins them. No conditions. -/
import Derived.Test.YtejojfjbecpofaaCrc2
import Derived.ProofKit
import Derived.OpenShut
namespace Go.Proofs.Ytejojfjbecpofaa
open Go.ChangeShapes Go.WideShapes Go.ChangeAt Go.RowKit
set_option linter.unusedVariables false

namespace Crc
theorem nU_of (a : Int) (h : (Lit.int .u32 a).wf = true) : ∃ x : W32, a = nU x := by
  have hb := bounds_u32 h
  refine ⟨BitVec.ofNat 32 a.toNat, ?_⟩
  unfold nU; rw [BitVec.toNat_ofNat]; omega
end Crc

namespace crcJoinsOpen
set_option maxHeartbeats 400000 in
theorem walk (a b : Crc.W32) (n : Int) (w : World) (hlo : -9223372036854775808 ≤ n) (hhi : n ≤ 9223372036854775807) :
    Calls Try.prog 7 #[Crc.U a, Crc.U b, .int .i64 n] w fun e w' => e = .returned (.bool true) ∧ Below w.heap.size w w' := by
  go_enter Try.func7, Try.ntmps7
  go_wp2_with (first | (go_at_call 10; refine (able_any _).mono ?_; rintro e w1 ⟨rfl, hb⟩) | (go_at_call 15; refine (crcJoin_any _ _ _ _ hlo hhi).mono ?_; rintro e w' ⟨rfl, rfl⟩) | (go_at_call 16; refine (refJoin_any _ _ _ _ hlo hhi).mono ?_; rintro e w' ⟨rfl, rfl⟩))
  go_ret
  exact ⟨rfl, hb⟩
theorem opened {H : Type} (enc : TypeId × Value → H) (W : World) (base : Nat) (v0 v1 v2 : Value) {d0 d1 d2 : DataW H} {p0 p1 p2 : List MemPlace}
    (o0 : Value.okWide Try.prog W .any base 25 v0) (o1 : Value.okWide Try.prog W .any base 25 v1) (o2 : Value.okWide Try.prog W .any base 3 v2)
    (k0 : DataW.Trod enc Try.prog W 0 (fun _ => true) true 25 v0 d0 p0) (k1 : DataW.Trod enc Try.prog W 0 (fun _ => true) true 25 v1 d1 p1) (k2 : DataW.Trod enc Try.prog W 0 (fun _ => true) true 3 v2 d2 p2) :
    Calls Try.prog 7 #[v0, v1, v2] W fun e w' => e = .returned (.bool true) ∧ Below W.heap.size W w' := by
  obtain ⟨a0, rfl, rfl, rfl, w0⟩ := open_int Try.underlying25 o0 k0
  obtain ⟨a1, rfl, rfl, rfl, w1⟩ := open_int Try.underlying25 o1 k1
  obtain ⟨a2, rfl, rfl, rfl, w2⟩ := open_int Try.underlying3 o2 k2
  obtain ⟨x, rfl⟩ := Crc.nU_of a0 w0
  obtain ⟨y, rfl⟩ := Crc.nU_of a1 w1
  have hb := bounds_i64 w2
  exact walk x y a2 W hb.1 hb.2
end crcJoinsOpen
end Go.Proofs.Ytejojfjbecpofaa
