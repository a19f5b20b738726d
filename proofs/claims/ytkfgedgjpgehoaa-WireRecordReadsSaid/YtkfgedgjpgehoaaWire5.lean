/- The walk of vector. No conditions but that the bytes are few. -/
import Derived.Test.YtkfgedgjpgehoaaWire4
namespace Go.Proofs.Ytkfgedgjpgehoaa
open Go.ChangeShapes Go.WideShapes Go.ChangeAt Go.RowKit
set_option linter.unusedVariables false
set_option linter.unusedSimpArgs false
namespace Wi
/-- so many numbers in a row -/
def foldR (r : Cd × List Value) (off m : Nat) : Cd × List Value := (List.range' off m).foldl stepN r
theorem foldR_snoc (r : Cd × List Value) (off m : Nat) : foldR r off (m + 1) = stepN (foldR r off m) (off + m) := by
  unfold foldR
  rw [List.range'_concat, List.foldl_append]
  simp
theorem foldR_fit {r : Cd × List Value} {L : Nat} (h : Fit r.1 L) (off : Nat) : ∀ m, Fit (foldR r off m).1 (L + 9 * m)
  | 0 => h
  | m + 1 => by rw [foldR_snoc]; exact (show L + 9 * (m + 1) = L + 9 * m + 9 by omega) ▸ stepN_fit (foldR_fit h off m) _
theorem foldR_int {r : Cd × List Value} {k : Nat} (h : IsInt r.2 k) (off : Nat) : ∀ m, IsInt (foldR r off m).2 k
  | 0 => h
  | m + 1 => by rw [foldR_snoc]; exact stepN_int (foldR_int h off m)
theorem foldR_reads (r : Cd × List Value) (off : Nat) : ∀ m, (foldR r off m).1.reads = r.1.reads
  | 0 => rfl
  | m + 1 => by rw [foldR_snoc, stepN_reads]; exact foldR_reads r off m
structure VcRel (w : World) (g : Nat) (A : Option Addr) (t : TypeId) (n gm : Nat) (r : Cd × List Value) (off b : Nat) (v6 : Value) (wr : World) : Prop where
  out : ∃ j : Nat, j ≤ 3 ∧ v6 = .int .i64 j ∧ Hid (Pass w g A t n gm (foldR r off (b + j)) wr)
structure VcOut (w : World) (g : Nat) (A : Option Addr) (t : TypeId) (n gm : Nat) (r : Cd × List Value) (off : Nat) (v6 : Value) (wr : World) : Prop where
  out : ∃ k : Nat, k ≤ 3 ∧ v6 = .int .i64 k ∧ Hid (Pass w g A t n gm (foldR r off (k * 3)) wr)
theorem Pass.number {w w1 : World} {g : Nat} {A : Option Addr} {t : TypeId} {n gm : Nat} {r : Cd × List Value} {L k : Nat} (h : Pass w g A t n gm r w1) (hf : Fit r.1 L) (hL : L ≤ 1000000000) (hi : IsInt r.2 k) (hg : gm ≠ g) (ha : Mem.blk A ≠ some gm) (hgw : gm < w.heap.size) :
    Calls Try.prog 45 #[.pointer (some ⟨g, 0, none⟩), .pointer (some ⟨gm, k, none⟩)] w1 fun x w' => x = .returned (.tuple #[]) ∧ Pass w g A t n gm (stepN r k) w' := by
  obtain ⟨A2, cap2, h1, h2, h3, h4⟩ := h.out
  refine (number_pass (k := k) h1 hf hL h2 hi hg (fun h9 => ?_)).mono fun x w' hp => ⟨hp.1, Pass.step h3 h4 (fun hr => h.rd (by rw [stepN_reads] at hr; exact hr)) hp.2⟩
  rcases h4 gm h9 with h8 | h8
  · exact ha h8
  · omega
end Wi
open Wi in
set_option maxRecDepth 8000 in
set_option maxHeartbeats 4000000 in
theorem vector_pass {w w0 : World} {g : Nat} {A : Option Addr} {t : TypeId} {n gm : Nat} {r : Wi.Cd × List Value} {L off : Nat} (h : Wi.Pass w0 g A t n gm r w) (hf : Wi.Fit r.1 L) (hL : L + 81 ≤ 1000000000) (hv : ∀ j, j < 9 → Wi.IsInt r.2 (off + j)) (hg : gm ≠ g) (ha : Mem.blk A ≠ some gm) (hgw : gm < w0.heap.size) :
    Calls Try.prog 59 #[.pointer (some ⟨g, 0, none⟩), .pointer (some ⟨gm, off, none⟩)] w fun x w' => x = .returned (.tuple #[]) ∧ Wi.Pass w0 g A t n gm (Wi.foldR r off 9) w' := by
  have HP := Lib.hid h
  have HV := Lib.hid hv
  have HF := Lib.hid hf
  have HA := Lib.hid ha
  clear h hv hf ha
  go_enter Try.func59, Try.ntmps59
  go_wp2
  go_loopw [6] (VcOut w0 g A t n gm r off) (fun t _ => 3 - (intOf t).toNat)
  case atStart => exact ⟨⟨0, by omega, rfl, HP⟩⟩
  case round =>
    obtain ⟨k, hk, rfl, HPk⟩ := hrel.out
    clear hrel
    by_cases hlt : k < 3
    · obtain ⟨wo, rfl⟩ : ∃ wo : World, wo = wr := ⟨_, rfl⟩
      have dk : decide ((k : Int) < 3) = true := by simp; omega
      have HLT := Lib.hid hlt
      clear hlt
      go_wp2
      go_loopw [9] (VcRel w0 g A t n gm r off (k * 3)) (fun t _ => 3 - (intOf t).toNat)
      case atStart => exact ⟨⟨0, by omega, rfl, HPk⟩⟩
      case round =>
        obtain ⟨j, hj, rfl, HPj⟩ := hrel.out
        clear hrel
        by_cases hjl : j < 3
        · have HN := Lib.hid (Pass.number (k := off + k * 3 + j) HPj.out (foldR_fit HF.out off (k * 3 + j)) (by have := HLT.out; omega) (by rw [Nat.add_assoc]; exact foldR_int (HV.out (k * 3 + j) (by have := HLT.out; omega)) off _) hg HA.out hgw)
          have HS := Lib.hid (foldR_snoc r off (k * 3 + j))
          have hlt := HLT.out
          go_wp2_with (go_at_call 45; refine HN.out.mono ?_; rintro x9 w2 ⟨rfl, hp⟩; have HPa := Lib.hid hp; clear hp)
          have HPo : Hid (Pass w0 g A t n gm (foldR r off (k * 3 + (j + 1))) w2) := by show Pass _ _ _ _ _ _ _ _; rw [← Nat.add_assoc, HS.out, ← Nat.add_assoc]; exact HPa.out
          go_roundw
          case rel => first | exact ⟨⟨j + 1, by omega, by go_num, HPo⟩⟩ | ((repeat apply Exists.intro); exact ⟨⟨⟨j + 1, by omega, by go_num, HPo⟩⟩, rfl⟩)
          case measure => simp [intOf]; omega
        · obtain rfl : j = 3 := by omega
          go_wp2
          have HPo : Hid (Pass w0 g A t n gm (foldR r off ((k + 1) * 3)) wr) := by show Pass _ _ _ _ _ _ _ _; rw [show (k + 1) * 3 = k * 3 + 3 by omega]; exact HPj.out
          go_roundw
          case rel => first | exact ⟨⟨k + 1, HLT.out, by go_num, HPo⟩⟩ | ((repeat apply Exists.intro); exact ⟨⟨⟨k + 1, HLT.out, by go_num, HPo⟩⟩, rfl⟩)
          case measure => (have hlt := HLT.out); simp [intOf]; omega
    · obtain rfl : k = 3 := by omega
      go_wp2
      first | go_end0 | ((try simp only [Exit.inBlock, Exit.then]); refine bodyPost_ret (results_none rfl _ _ _) rfl ?_)
      exact ⟨rfl, HPk.out⟩
end Go.Proofs.Ytkfgedgjpgehoaa
