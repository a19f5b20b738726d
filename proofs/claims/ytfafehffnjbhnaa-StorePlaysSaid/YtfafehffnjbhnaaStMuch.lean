/- Acts on a store; is it much. No conditions. -/
import Derived.Test.YtfafehffnjbhnaaStore5
import Derived.Test.YtfafehffnjbhnaaTyOpen
namespace Go.Proofs.Ytfafehffnjbhnaa
open Go.ChangeShapes Go.WideShapes Go.ChangeAt Go.RowKit
set_option linter.unusedVariables false
set_option linter.unusedSimpArgs false

namespace Vec
/-- an act, with where its list lies -/
structure Ac where
  kind : Int
  L : Option Addr
  lc : Nat
  es : List Ent
  col : Col
def acCells (a : Ac) : List Value := [.int .i64 a.kind, .slice a.L a.es.length a.lc] ++ colCells a.col
theorem acCells_length (a : Ac) : (acCells a).length = 5 := rfl
structure AcOk (w : World) (B : Nat) (a : Ac) : Prop where
  rd : Mem.Rd w B a.L (a.es.flatMap entCells)
  len : a.es.length ≤ a.lc
  cap : a.lc ≤ 8796093022208
  ein : ∀ e ∈ a.es, EntIn e
def lenA (l : List Ac) : Nat := (l.map fun a => a.es.length).sum
theorem lenA_snoc (l : List Ac) (a : Ac) : lenA (l ++ [a]) = lenA l + a.es.length := by simp [lenA]
structure MuchRel (w : World) (acs : List Ac) (v3 v4 : Value) (wr : World) : Prop where
  out : ∃ k N : Nat, k ≤ acs.length ∧ lenA (acs.take k) + acs.length ≤ N ∧ N ≤ 30000000000000 ∧ v3 = .int .i64 (N : Int) ∧ v4 = .int .i64 k ∧ Hid (Below w.heap.size w wr)
structure MuchIn (w : World) (es : List Ent) (M : Nat) (v3 v5 : Value) (wr : World) : Prop where
  out : ∃ k N : Nat, k ≤ es.length ∧ M ≤ N ∧ N ≤ 30000000000000 ∧ v3 = .int .i64 (N : Int) ∧ v5 = .int .i64 k ∧ Hid (Below w.heap.size w wr)
def MuchEnd (w : World) (acs : List Ac) (x : Ending) (w' : World) : Prop := ∃ b, x = .returned (.bool b) ∧ (b = false → lenA acs + acs.length ≤ 300) ∧ Below w.heap.size w w'
end Vec
open Vec in
set_option maxHeartbeats 4000000 in
theorem much_any (A : Option Addr) (c : Nat) (acs : List Vec.Ac) (w0 w : World) (hr : Mem.Rd w0 w0.heap.size A (acs.flatMap Vec.acCells)) (hn : acs.length ≤ 8796093022208) (hd : ∀ a ∈ acs, Vec.AcOk w0 w0.heap.size a) (hb : Below w0.heap.size w0 w) :
    Calls Try.prog 10 #[.slice A acs.length c] w (Vec.MuchEnd w acs) := by
  have HR := Lib.hid hr
  have HD := Lib.hid hd
  have HB0 := Lib.hid hb
  clear hr hd hb
  go_enter Try.func10, Try.ntmps10
  go_wp2
  go_loopw [3, 4] (MuchRel w acs) (fun _ t _ => acs.length - (intOf t).toNat)
  case atStart => exact ⟨⟨0, acs.length, by omega, by simp [lenA], by omega, rfl, rfl, Below.refl _ _⟩⟩
  case round =>
    obtain ⟨k, N, hk, hlN, hN, rfl, rfl, HB⟩ := hrel.out
    have HBW := Lib.hid (HB0.out.trans (HB.out.mono HB0.out.size))
    by_cases hlt : k < acs.length
    · by_cases hm : N ≤ 300
      · obtain ⟨b, o, rfl, hb, hc⟩ := Mem.Rd.elem acCells_length HR.out hlt (by omega)
        obtain ⟨a, ha⟩ : ∃ a, acs[k] = a := ⟨_, rfl⟩
        have hpk : acs[k]? = some a := by rw [← ha]; exact List.getElem?_eq_getElem hlt
        rw [ha] at hc
        have hai := Lib.hid (HD.out a (List.mem_of_getElem? hpk))
        have q1 : wr.cell? ⟨b, o + k * 5 + 1, none⟩ = some (.slice a.L a.es.length a.lc) := (HBW.out.cell (p := ⟨b, o + k * 5 + 1, none⟩) hb).trans (by simpa [Nat.add_assoc] using hc 1 _ rfl)
        have HTS := Lib.hid (show lenA (acs.take (k + 1)) = lenA (acs.take k) + a.es.length by rw [Mem.take_snoc hpk, lenA_snoc])
        have hbw := Nat.lt_of_lt_of_le hb HBW.out.size
        have HQ := Lib.hid q1
        have hal : a.es.length ≤ 8796093022208 := Nat.le_trans hai.out.len hai.out.cap
        have hmd : decide ((N : Int) ≤ 300) = true := by simp; omega
        clear hc ha hpk
        go_wp2
        rename World => wy
        go_loopw [3, 5] (MuchIn wy a.es (N + a.es.length)) (fun _ t _ => a.es.length - (intOf t).toNat)
        case atStart => exact ⟨⟨0, N + a.es.length, by omega, by omega, by omega, by go_num, rfl, Below.refl _ _⟩⟩
        case round =>
          clear hmd q1
          obtain ⟨j, M, hj, hlM, hM, rfl, rfl, HBI⟩ := hrel.out
          have q1 : wr.cell? ⟨b, o + k * 5 + 1, none⟩ = some (.slice a.L a.es.length a.lc) := (HBI.out.cell (p := ⟨b, o + k * 5 + 1, none⟩) hbw).trans HQ.out
          by_cases hlj : j < a.es.length
          · by_cases hmM : M ≤ 300
            · obtain ⟨b2, o2, e, hbl, hb2, he, hat⟩ := ent_elem hai.out.rd hlj
              have hei := hai.out.ein e (List.mem_of_getElem? he)
              have hat' := (hat.below HBW.out hb2).below HBI.out (Nat.lt_of_lt_of_le hb2 HBW.out.size)
              have q6 := hat'.c 6 _ rfl
              have q7 := hat'.c 7 _ rfl
              have hks := hei.ks
              have hvs := hei.vs
              rw [hbl] at q1
              have hmd : decide ((M : Int) ≤ 300) = true := by simp; omega
              obtain ⟨m, hm2⟩ : ∃ m, (e.key.size + e.val.size) / 60 = m := ⟨_, rfl⟩
              have hmb : m ≤ 5000000000000 := by omega
              have HM2 := Lib.hid hm2
              clear hat hat' he hei hm2
              go_wp2
              go_quiet (fail)
              go_wp2
              go_roundw
              case rel => exact ⟨⟨j + 1, M + m, by omega, by omega, by omega, by have := HM2.out; congr 1; omega, by go_num, Mem.below_drewN HBI.out _⟩⟩
              case measure => simp [intOf]; omega
            · have hmd : decide ((M : Int) ≤ 300) = false := by simp; omega
              go_wp2
              go_roundw
              case rel => exact ⟨⟨k + 1, M, by omega, by rw [HTS.out]; omega, hM, rfl, by go_num, HB.out.trans (HBI.out.mono HB.out.size)⟩⟩
              case measure => simp [intOf]; omega
          · obtain rfl : j = a.es.length := by omega
            go_wp2
            go_roundw
            case rel => exact ⟨⟨k + 1, M, by omega, by rw [HTS.out]; omega, hM, rfl, by go_num, HB.out.trans (HBI.out.mono HB.out.size)⟩⟩
            case measure => simp [intOf]; omega
      · have hmd : decide ((N : Int) ≤ 300) = false := by simp; omega
        have hmg : decide ((300 : Int) < (N : Int)) = true := by simp; omega
        go_wp2
        go_ret
        exact ⟨true, rfl, (fun h => by cases h), HB.out⟩
    · obtain rfl : k = acs.length := by omega
      rw [List.take_length] at hlN
      by_cases hm : N ≤ 300
      · have hmg : decide ((300 : Int) < (N : Int)) = false := by simp; omega
        go_wp2
        go_ret
        exact ⟨false, rfl, fun _ => by omega, HB.out⟩
      · have hmg : decide ((300 : Int) < (N : Int)) = true := by simp; omega
        go_wp2
        go_ret
        exact ⟨true, rfl, (fun h => by cases h), HB.out⟩
end Go.Proofs.Ytfafehffnjbhnaa
