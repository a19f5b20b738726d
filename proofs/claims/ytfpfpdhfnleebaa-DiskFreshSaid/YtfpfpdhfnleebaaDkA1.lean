/- What came in: a script of acts; much; one act at both disks. No conditions. -/
import Derived.Test.YtfpfpdhfnleebaaDkA0
import Derived.Test.YtfpfpdhfnleebaaDisk10
set_option maxRecDepth 8000
namespace Go.Proofs.Ytfpfpdhfnleebaa
open Go.ChangeShapes Go.WideShapes Go.ChangeAt Go.RowKit
set_option linter.unusedVariables false
set_option linter.unusedSimpArgs false
namespace Dq
def AcOk (w : World) (B : Nat) (a : Ac) : Prop := Mem.Rd w B a.B (a.bs.map Mem.byteV) ∧ a.bs.length ≤ a.c ∧ a.c ≤ maxLen ∧ Dk.okI a.kind ∧ Dk.okI a.file ∧ Dk.okI a.n ∧ a.bs.length ≤ 140737488355328
end Dq
section
variable {H : Type} {enc : TypeId × Value → H} {W : World}
open Dq
set_option maxRecDepth 20000 in
theorem dec_dact {n : Nat} {cs : List Value} {x : DataW H × List MemPlace} (h : DataW.trod enc Try.prog W 0 (fun _ => true) true n 47 cs = some x) (hl : cs.length = 4) (hz : Mem.Sz Try.prog 47 x.1) : ∃ a : Dq.Ac, cs = Dq.acCells a ∧ AcOk W W.heap.size a := by
  obtain ⟨m0, y0, e0, _⟩ := Mem.field1_sz Try.underlying47 h hz 0 _ rfl
  obtain ⟨m1, y1, e1, _⟩ := Mem.field1_sz Try.underlying47 h hz 1 _ rfl
  obtain ⟨m2, y2, e2, _⟩ := Mem.field1_sz Try.underlying47 h hz 2 _ rfl
  obtain ⟨m3, y3, e3, z3⟩ := Mem.field1_sz Try.underlying47 h hz 3 _ rfl
  have k1 : Try.prog.cellsOf 3 = 1 := by kernel_rfl
  have k2 : Try.prog.cellsOf 24 = 1 := by kernel_rfl
  change DataW.trod enc Try.prog W 0 (fun _ => true) true m0 3 ((cs.drop 0).take (Try.prog.cellsOf 3)) = some y0 at e0
  change DataW.trod enc Try.prog W 0 (fun _ => true) true m1 3 ((cs.drop 1).take (Try.prog.cellsOf 3)) = some y1 at e1
  change DataW.trod enc Try.prog W 0 (fun _ => true) true m2 3 ((cs.drop 2).take (Try.prog.cellsOf 3)) = some y2 at e2
  change DataW.trod enc Try.prog W 0 (fun _ => true) true m3 24 ((cs.drop 3).take (Try.prog.cellsOf 24)) = some y3 at e3
  rw [k1] at e0 e1 e2
  rw [k2] at e3
  obtain ⟨a0, q0, _, w0⟩ := DataW.trod_int Try.underlying3 e0
  obtain ⟨a1, q1, _, w1⟩ := DataW.trod_int Try.underlying3 e1
  obtain ⟨a2, q2, _, w2⟩ := DataW.trod_int Try.underlying3 e2
  obtain ⟨p, q3, ⟨d1, d2, d3⟩, d4⟩ := Pcs.trod_bytes e3 z3
  have b0 := bounds_i64 w0
  have b1 := bounds_i64 w1
  have b2 := bounds_i64 w2
  unfold reachBytes at d4
  refine ⟨⟨a0, a1, a2, p.A, p.c, p.bs⟩, ?_, ⟨d1, d2, d3, ⟨by show _ ≤ a0; omega, by show a0 ≤ _; omega⟩, ⟨by show _ ≤ a1; omega, by show a1 ≤ _; omega⟩, ⟨by show _ ≤ a2; omega, by show a2 ≤ _; omega⟩, by show p.bs.length ≤ _; omega⟩⟩
  have hd : cs = (cs.drop 0).take 1 ++ ((cs.drop 1).take 1 ++ ((cs.drop 2).take 1 ++ (cs.drop 3).take 1)) := by
    have h1 : ∀ a b : Nat, cs.drop a = (cs.drop a).take b ++ cs.drop (a + b) := fun a b => by rw [← List.drop_drop, List.take_append_drop]
    conv => lhs; rw [← List.drop_zero (l := cs), h1 0 1, h1 1 1, h1 2 1, h1 3 1, List.drop_eq_nil_of_le (show cs.length ≤ 3 + 1 by omega), List.append_nil]
  rw [hd, q0, q1, q2, q3]
  rfl
theorem open_dacts {base : Nat} {v : Value} {d : DataW H} {p : List MemPlace} (o : Value.okWide Try.prog W .any base 36 v) (k : DataW.Trod enc Try.prog W 0 (fun _ => true) true 36 v d p) (hz : (d.weights Try.prog 36).all (· ≤ reachBytes) = true) :
    ∃ A c, ∃ acs : List Dq.Ac, v = .slice A acs.length c ∧ acs.length ≤ c ∧ c ≤ 17592186044416 ∧ Mem.Rd W W.heap.size A (acs.flatMap Dq.acCells) ∧ ∀ a ∈ acs, AcOk W W.heap.size a := by
  obtain ⟨A, c, l, h1, h2, h3, h4, h5, _⟩ := Mem.open_slice_sz (α := Dq.Ac) (sz := 4) Try.underlying36 (by kernel_rfl) (by omega) Dq.acCells Dq.acCells_length (fun a => AcOk W W.heap.size a) (fun n cs x h hl hz => dec_dact h hl hz) o k hz
  have kb : Try.prog.bytesOf 47 = 48 := by kernel_rfl
  rw [kb] at h3
  unfold reachBytes at h3
  exact ⟨A, c, l, h1, h2, by omega, h4, h5⟩
end
namespace Dq
theorem at_act {W : World} {B : Nat} {A : Option Addr} {ps : List Ac} (h : Mem.Rd W B A (ps.flatMap acCells)) {k : Nat} (hk : k < ps.length) :
    ∃ b o p, A = some ⟨b, o, none⟩ ∧ b < B ∧ ps[k]? = some p ∧ ∀ j u, (acCells p)[j]? = some u → W.cell? ⟨b, o + k * 4 + j, none⟩ = some u := by
  obtain ⟨b, o, e, hb, hc⟩ := Mem.Rd.elem acCells_length h hk (by omega)
  exact ⟨b, o, ps[k], e, hb, List.getElem?_eq_getElem hk, fun j u hj => by rw [Nat.add_assoc]; exact hc j u hj⟩
def tot (ps : List Ac) (k : Nat) : Nat := 20 * ps.length + ((ps.take k).map (·.bs.length)).sum
theorem tot_zero (ps : List Ac) : tot ps 0 = 20 * ps.length := by simp [tot]
theorem tot_succ {ps : List Ac} {k : Nat} {p : Ac} (h : ps[k]? = some p) : tot ps (k + 1) = tot ps k + p.bs.length := by
  unfold tot; rw [Mem.take_snoc h]; simp [Nat.add_assoc]
theorem tot_le (ps : List Ac) (k : Nat) : tot ps k ≤ tot ps ps.length := by
  unfold tot
  rw [List.take_length, List.map_take]
  have := Pcs.sum_take_le (ps.map (·.bs.length)) k
  omega
def bigS (ps : List Ac) : Bool := decide (20000 < tot ps ps.length)
structure MuRel (w : World) (ps : List Ac) (v3 v4 : Value) (wr : World) : Prop where
  out : ∃ k, k ≤ ps.length ∧ v3 = .int .i64 (tot ps k : Nat) ∧ v4 = .int .i64 k ∧ (k = 0 ∨ tot ps (k - 1) ≤ 20000) ∧ wr = w
end Dq
open Dq in
set_option maxHeartbeats 2000000 in
theorem dkMuch_any {w : World} {B : Nat} {A : Option Addr} {c : Nat} {ps : List Dq.Ac} (hR : Mem.Rd w B A (ps.flatMap Dq.acCells)) (hl : ps.length ≤ 17592186044416) (hok : ∀ a ∈ ps, a.bs.length ≤ 140737488355328) :
    Calls Try.prog 16 #[.slice A ps.length c] w fun x w' => x = .returned (.bool (Dq.bigS ps)) ∧ w' = w := by
  have HR := Lib.hid hR
  have HOK := Lib.hid hok
  clear hR hok
  have hz := tot_zero ps
  go_enter Try.func16, Try.ntmps16
  go_wp2
  go_loopw [3, 4] (MuRel w ps) (fun _ t _ => ps.length - (intOf t).toNat)
  case atStart => exact ⟨⟨0, by omega, by rw [hz]; go_num, rfl, .inl rfl, rfl⟩⟩
  case round =>
    obtain ⟨k, hk, rfl, rfl, hpr, rfl⟩ := hrel.out
    clear hrel hz
    have hle := tot_le ps k
    by_cases hm : tot ps k ≤ 20000
    · have e2 : (tot ps k : Int) ≤ 20000 := by omega
      have d2 : decide ((tot ps k : Int) ≤ 20000) = true := decide_eq_true e2
      have d3 : decide ((20000 : Int) < (tot ps k : Int)) = false := by simp; omega
      by_cases hlt : k < ps.length
      · obtain ⟨b, o, p, rfl, hb, hp, hc⟩ := at_act HR.out hlt
        have y3 : wr.cell? ⟨b, o + k * 4 + 3, none⟩ = some (.slice p.B p.bs.length p.c) := hc 3 _ rfl
        have hts := Lib.hid (tot_succ hp)
        have hpb := HOK.out p (List.mem_of_getElem? hp)
        have d0 : decide ((k : Int) < (ps.length : Int)) = true := by simp; omega
        have hm9 : tot ps k + p.bs.length ≤ 200000000000000 := by omega
        obtain ⟨T, hT⟩ : ∃ T, tot ps k = T := ⟨_, rfl⟩
        have HT := Lib.hid hT
        rw [hT] at e2 d2 d3 hm9 hts ⊢
        clear hp hc hle hpr hm hT
        go_wp2
        go_roundw
        case rel => exact ⟨⟨k + 1, by omega, by rw [hts.out]; go_num, by go_num, .inr (by rw [Nat.add_sub_cancel, HT.out]; omega), rfl⟩⟩
        case measure => simp [intOf]; omega
      · obtain rfl : k = ps.length := by omega
        have d0 : decide ((ps.length : Int) < (ps.length : Int)) = false := by simp
        have hbg : bigS ps = false := by unfold bigS; simp; omega
        have HBG := Lib.hid hbg
        clear hbg
        obtain ⟨T, hT⟩ : ∃ T, tot ps ps.length = T := ⟨_, rfl⟩
        rw [hT] at e2 d2 d3 ⊢
        clear hle hpr hm hT
        go_wp2
        go_ret
        exact ⟨by rw [HBG.out]; rfl, rfl⟩
    · have e2 : ¬ (tot ps k : Int) ≤ 20000 := by omega
      have d2 : decide ((tot ps k : Int) ≤ 20000) = false := decide_eq_false e2
      have d3 : decide ((20000 : Int) < (tot ps k : Int)) = true := by simp; omega
      have hbg : bigS ps = true := by unfold bigS; simp; omega
      have HBG := Lib.hid hbg
      clear hbg
      obtain ⟨T, hT⟩ : ∃ T, tot ps k = T := ⟨_, rfl⟩
      rw [hT] at e2 d2 d3 ⊢
      clear hle hpr hm hT
      by_cases hlt : k < ps.length
      · have d0 : decide ((k : Int) < (ps.length : Int)) = true := by simp; omega
        go_wp2
        go_ret
        exact ⟨by rw [HBG.out]; rfl, rfl⟩
      · obtain rfl : k = ps.length := by omega
        have d0 : decide ((ps.length : Int) < (ps.length : Int)) = false := by simp
        go_wp2
        go_ret
        exact ⟨by rw [HBG.out]; rfl, rfl⟩
end Go.Proofs.Ytfpfpdhfnleebaa
