/- The walks of a disk's New, Size, Synced, Read, Used, Loose. No conditions but that the numbers are ints. -/
import Derived.Test.YtfpfpdhfnleebaaDisk0
import Derived.Test.YtfpfpdhfnleebaaOpen2
import Derived.LoopTactic
import Derived.Deep.DeepCutAuto
import Derived.Deep.CutBlock
import Derived.ScopeJumps
import Derived.WalkKit
import Derived.WalkMore
import Derived.WalkSpells
import Derived.BigQuiet
import Derived.Lib.Hide
set_option maxRecDepth 8000
namespace Go.Proofs.Ytfpfpdhfnleebaa
open Go.ChangeShapes Go.WideShapes Go.ChangeAt Go.RowKit
set_option linter.unusedVariables false
set_option linter.unusedSimpArgs false
namespace Mem
theorem flat_take {α : Type} {f : α → List Value} {sz : Nat} (hf : ∀ a, (f a).length = sz) : ∀ (l : List α) (k : Nat), (l.flatMap f).take (k * sz) = (l.take k).flatMap f
  | [], k => by simp
  | a :: l, 0 => by simp
  | a :: l, k + 1 => by
    simp only [List.flatMap_cons, List.take_succ_cons]
    rw [List.take_append, hf, List.take_of_length_le (by rw [hf, Nat.add_mul]; omega), show (k + 1) * sz - sz = k * sz by rw [Nat.add_mul]; omega, flat_take hf l k]
end Mem
theorem disk_elem : Mem.Elem Try.prog 52 59 2 16 := Mem.elem_of Try.underlying52 (z := .agg #[.int .i64 0, .int .i64 0]) (by kernel_rfl) rfl (by omega)
theorem bytes_elem : Mem.Elem Try.prog 24 5 1 1 := Mem.elem_of Try.underlying24 (z := .int .u8 0) (by kernel_rfl) rfl (by omega)
theorem piece_agg : Mem.Agg Try.prog 59 2 := Mem.agg_of Try.underlying59 rfl (by kernel_rfl)
namespace Dk
theorem intKey : Mem.MKey Try.prog 3 (Value.int .i64) okI := ⟨Maps.int_keyed Try.underlying3, fun h => by cases h; rfl, fun {x} hx => ⟨_, Maps.keyOf_int_mk Try.underlying3 (by unfold okI at hx; have h1 : IntKind.i64.min = -9223372036854775808 := (by decide); have h2 : IntKind.i64.max = 9223372036854775807 := (by decide); simp only [Lit.wf, h1, h2]; simp; omega)⟩⟩
def ptrV : Option FR → Value
  | some r => .pointer (some ⟨r.h, 0, none⟩)
  | none => .pointer none
theorem look_at {w : World} {g b c : Nat} {A : Option Addr} {rs : List FR} {lo : List (Int × Nat)} (h : DS w g b A c rs lo) {n : Int} (hn : okI n) : (Instr.lookup 51 (.map (some b)) (.int .i64 n) false).run Try.prog w = .ok (ptrV (findR rs n)) w := by
  rw [h.M.look intKey Try.underlying51 (Try.zeroValue55 w) false hn, look_find]
  cases findR rs n <;> rfl
def sizeR (rs : List FR) (n : Int) : Nat := match findR rs n with
  | some r => r.f.bs.length
  | none => 0
def synR (rs : List FR) (n : Int) : Nat := match findR rs n with
  | some r => r.f.syn
  | none => 0
end Dk
open Dk in
theorem size_any {w : World} {g b c : Nat} {A : Option Addr} {rs : List Dk.FR} {lo : List (Int × Nat)} (h : Dk.DS w g b A c rs lo) {n : Int} (hn : Dk.okI n) :
    Calls Try.prog 25 #[.pointer (some ⟨g, 0, none⟩), .int .i64 n] w fun x w' => x = .returned (.int .i64 (Dk.sizeR rs n)) ∧ w' = w := by
  have x0 : w.cell? ⟨g, 0, none⟩ = some (.map (some b)) := h.B.cell (j := 0) rfl
  have hl := look_at h hn
  cases hf : findR rs n with
  | none =>
    have hs : Hid (sizeR rs n = 0) := by show _ = _; unfold sizeR; rw [hf]
    rw [hf] at hl
    clear hf h
    unfold ptrV at hl
    go_enter Try.func25, Try.ntmps25
    go_wp2
    go_ret
    exact ⟨by rw [hs.out]; rfl, rfl⟩
  | some r =>
    have hs : Hid (sizeR rs n = r.f.bs.length) := by show _ = _; unfold sizeR; rw [hf]
    obtain ⟨pre, post, rfl, _, _⟩ := find_split hf
    have y0 : w.cell? ⟨r.h, 0, none⟩ = some (.slice r.A r.f.bs.length r.c) := (h.F r (by simp)).B.cell (j := 0) rfl
    rw [hf] at hl
    clear hf h
    unfold ptrV at hl
    go_enter Try.func25, Try.ntmps25
    go_wp2
    go_ret
    exact ⟨by rw [hs.out]; rfl, rfl⟩
open Dk in
theorem synced_any {w : World} {g b c : Nat} {A : Option Addr} {rs : List Dk.FR} {lo : List (Int × Nat)} (h : Dk.DS w g b A c rs lo) {n : Int} (hn : Dk.okI n) :
    Calls Try.prog 20 #[.pointer (some ⟨g, 0, none⟩), .int .i64 n] w fun x w' => x = .returned (.int .i64 (Dk.synR rs n)) ∧ w' = w := by
  have x0 : w.cell? ⟨g, 0, none⟩ = some (.map (some b)) := h.B.cell (j := 0) rfl
  have hl := look_at h hn
  cases hf : findR rs n with
  | none =>
    have hs : Hid (synR rs n = 0) := by show _ = _; unfold synR; rw [hf]
    rw [hf] at hl
    clear hf h
    unfold ptrV at hl
    go_enter Try.func20, Try.ntmps20
    go_wp2
    go_ret
    exact ⟨by rw [hs.out]; rfl, rfl⟩
  | some r =>
    have hs : Hid (synR rs n = r.f.syn) := by show _ = _; unfold synR; rw [hf]
    obtain ⟨pre, post, rfl, _, _⟩ := find_split hf
    have y0 : w.cell? ⟨r.h, 1, none⟩ = some (.int .i64 r.f.syn) := (h.F r (by simp)).B.cell (j := 1) rfl
    rw [hf] at hl
    clear hf h
    unfold ptrV at hl
    go_enter Try.func20, Try.ntmps20
    go_wp2
    go_ret
    exact ⟨by rw [hs.out]; rfl, rfl⟩
theorem new_any (w : World) :
    Calls Try.prog 10 #[] w fun x w' => ∃ g b, x = .returned (.pointer (some ⟨g, 0, none⟩)) ∧ Dk.DS w' g b none 0 [] [] ∧ Below w.heap.size w w' ∧ w.heap.size ≤ g ∧ w.heap.size ≤ b := by
  have hM : Mem.MapIs (Value.int .i64) Dk.okI (w.alloc (.map #[] 0)) w.heap.size [] := Mem.MapIs.new w
  have hs : (w.alloc (.map #[] 0)).heap.size = w.heap.size + 1 := Array.size_push _
  have hB := Mem.Bx.new (w.alloc (.map #[] 0)) 54 #[.map (some w.heap.size), .slice none 0 0] rfl hs
  have hk : Mem.Keeps (fun _ => False) (w.alloc (.map #[] 0)) ((w.alloc (.map #[] 0)).alloc (.cells #[.map (some w.heap.size), .slice none 0 0] 54)) := (Mem.Keeps.refl _ _).alloc _
  have hDS : Dk.DS ((w.alloc (.map #[] 0)).alloc (.cells #[.map (some w.heap.size), .slice none 0 0] 54)) (w.heap.size + 1) w.heap.size none 0 [] [] :=
    ⟨hB, hM.keeps hk id, Mem.Own.nil _ _ _, (fun r hr => by cases hr), ⟨by omega, (fun k hk => by cases hk), (fun r hr => by cases hr), List.Pairwise.nil⟩⟩
  have HDS := Lib.hid hDS
  have HB : Hid (Below w.heap.size w ((w.alloc (.map #[] 0)).alloc (.cells #[.map (some w.heap.size), .slice none 0 0] 54))) := ((Below.refl _ w).alloc (Nat.le_refl _) _).alloc (by rw [hs]; omega) _
  clear hDS hk hB hM
  go_enter Try.func10, Try.ntmps10
  go_wp2
  go_ret
  exact ⟨_, _, rfl, HDS.out, HB.out, by omega, by omega⟩
open Dk in
theorem cloneB_any {w : World} {A : Option Addr} {c : Nat} {bs : List UInt8} (hR : Mem.Rd w w.heap.size A (bs.map Mem.byteV)) (hn : A = none → c = 0) (hb : bs.length ≤ 2000000000) :
    Calls Try.prog 28 #[.slice A bs.length c] w fun x w' => ∃ A' c', x = .returned (.slice A' bs.length c') ∧ Mem.Own w' 5 1 A' bs.length c' (bs.map Mem.byteV) ∧ Mem.From w.heap.size A' ∧ Below w.heap.size w w' := by
  have HR := Lib.hid hR
  clear hR
  have hnil := fun W (a : Option Addr) n c => Lib.run_eql_slice_nil (P := Try.prog) W 24 5 a n c 0 0 Try.underlying24
  cases A with
  | none =>
    obtain rfl := hn rfl
    have h0 : bs = [] := by
      rcases HR.out with h | ⟨_, _, h, _⟩
      · simpa using h
      · cases h
    subst h0
    go_enter Try.func28, Try.ntmps28
    go_wp2
    go_ret
    exact ⟨none, 0, rfl, Mem.Own.nil _ _ _, Mem.From.none_ _, Below.refl _ _⟩
  | some ad =>
    have d1 : (some ad == (none : Option Addr)) = false := rfl
    go_enter Try.func28, Try.ntmps28
    go_wp2_with (at_builtin; refine Mem.wpList_clone _ rfl (.tmp 5) (.tmp 6) _ rfl bytes_elem w.heap.size rfl w w.heap.size (some ad) bs.length c _ rfl ?_ rfl (Below.refl _ _) (Nat.le_refl _) HR.out (by simp) (Mem.bytes_one _) (by unfold maxLen; omega) (by omega); intro A2 c2 w2 hown hb2 hs2 hf2; have HO := Lib.hid hown; have HB := Lib.hid hb2; have HF := Lib.hid hf2; clear hown hb2 hs2 hf2)
    go_ret
    exact ⟨A2, c2, rfl, HO.out, HF.out, HB.out⟩
end Go.Proofs.Ytfpfpdhfnleebaa
