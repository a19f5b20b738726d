/- What came in: a script of acts; is it much; is it the beginning. No conditions. -/
import Derived.Test.YtjkonfanmpcipaaWorldM
import Derived.Test.YtjkonfanmpcipaaOpen2
namespace Go.Proofs.Ytjkonfanmpcipaa
open Go.ChangeShapes Go.WideShapes Go.ChangeAt Go.RowKit
set_option linter.unusedVariables false

namespace Link
theorem acCells_length (a : Ac) : (acCells a).length = 4 := rfl
structure AcIn (W : World) (a : Ac) : Prop where
  ok : AcOk W a
  ss : ∀ s ∈ a.data, s.size ≤ 140737488351232
theorem ac_elem {w : World} {B : Nat} {A : Option Addr} {l : List Ac} (h : Mem.Rd w B A (l.flatMap acCells)) {k : Nat} (hk : k < l.length) :
    ∃ b o a, A = some ⟨b, o, none⟩ ∧ b < B ∧ l[k]? = some a ∧ w.cell? ⟨b, o + k * 4, none⟩ = some (.int .i64 a.kind) ∧ w.cell? ⟨b, o + k * 4 + 1, none⟩ = some (.int .i64 a.n) ∧ w.cell? ⟨b, o + k * 4 + 2, none⟩ = some (.bool a.twice) ∧
      w.cell? ⟨b, o + k * 4 + 3, none⟩ = some (.slice a.D a.data.length a.dc) := by
  obtain ⟨b, o, e, hb, hc⟩ := Mem.Rd.elem acCells_length h hk (by omega)
  exact ⟨b, o, l[k], e, hb, List.getElem?_eq_getElem hk, by simpa using hc 0 _ rfl, by simpa [Nat.add_assoc] using hc 1 _ rfl, by simpa [Nat.add_assoc] using hc 2 _ rfl, by simpa [Nat.add_assoc] using hc 3 _ rfl⟩
def cost1 (s : ByteArray) : Nat := 1 + s.size / 20
def costS (l : List ByteArray) : Nat := (l.map cost1).sum
def costsA (acs : List Ac) : Nat := (acs.map fun a => costS a.data).sum
theorem costS_snoc (l : List ByteArray) (s : ByteArray) : costS (l ++ [s]) = costS l + cost1 s := by simp [costS]
theorem costsA_snoc (acs : List Ac) (a : Ac) : costsA (acs ++ [a]) = costsA acs + costS a.data := by simp [costsA]
theorem costS_len : ∀ l : List ByteArray, l.length ≤ costS l
  | [] => by simp
  | s :: l => by have := costS_len l; simp only [costS, List.map_cons, List.sum_cons, List.length_cons, cost1] at *; omega
theorem costsA_take (acs : List Ac) (k : Nat) : costsA (acs.take k) ≤ costsA acs := by
  have h : costsA acs = costsA (acs.take k) + costsA (acs.drop k) := by
    conv => lhs; rw [← List.take_append_drop k acs]
    unfold costsA
    rw [List.map_append, List.sum_append]
  omega
def MuchEnd (w : World) (acs : List Ac) (x : Ending) (w' : World) : Prop := ∃ b, x = .returned (.bool b) ∧ (b = false → acs.length + costsA acs ≤ 2000) ∧ Below w.heap.size w w'
def MuchRel (w : World) (acs : List Ac) (vn vi : Value) (wr : World) : Prop :=
  ∃ k N : Nat, k ≤ acs.length ∧ N ≤ 40000000000000 ∧ (N = acs.length + costsA (acs.take k) ∨ 2000 < N) ∧ vn = .int .i64 (N : Int) ∧ vi = .int .i64 k ∧ Hid (Below w.heap.size w wr)
def MuchRel3 (w : World) (M : Nat) (l : List ByteArray) (vn vi : Value) (wr : World) : Prop :=
  ∃ j N : Nat, j ≤ l.length ∧ N ≤ 40000000000000 ∧ N = M + costS (l.take j) ∧ vn = .int .i64 (N : Int) ∧ vi = .int .i64 j ∧ Hid (Below w.heap.size w wr)
end Link
section
variable {H : Type} {enc : TypeId × Value → H} {W : World}
theorem dec_ac {n : Nat} {cs : List Value} {x : DataW H × List MemPlace} (h : DataW.trod enc Try.prog W 0 (fun _ => true) true n 34 cs = some x) (hl : cs.length = 4) (hz : Mem.Sz Try.prog 34 x.1) : ∃ a : Link.Ac, cs = Link.acCells a ∧ Link.AcIn W a := by
  obtain ⟨m0, y0, e0, _⟩ := Mem.field1_sz Try.underlying34 h hz 0 _ rfl
  obtain ⟨m1, y1, e1, _⟩ := Mem.field1_sz Try.underlying34 h hz 1 _ rfl
  obtain ⟨m2, y2, e2, _⟩ := Mem.field1_sz Try.underlying34 h hz 2 _ rfl
  obtain ⟨m3, y3, e3, z3⟩ := Mem.field1_sz Try.underlying34 h hz 3 _ rfl
  obtain ⟨a0, q0, _⟩ := DataW.trod_int Try.underlying3 e0
  obtain ⟨a1, q1, _⟩ := DataW.trod_int Try.underlying3 e1
  obtain ⟨a2, q2, _⟩ := DataW.trod_bool Try.underlying4 e2
  obtain ⟨D, dc, data, q3, d1, d2, d3, d4, _⟩ := Mem.trod_strings_sz Try.underlying29 Try.underlying9 (by kernel_rfl) e3 z3
  have k1 : Try.prog.cellsOf 3 = 1 := by kernel_rfl
  have k2 : Try.prog.cellsOf 29 = 1 := by kernel_rfl
  have k3 : Try.prog.cellsOf 4 = 1 := by kernel_rfl
  have kb : Try.prog.bytesOf 9 = 16 := by kernel_rfl
  rw [kb] at d2
  unfold reachBytes at d2 d4
  match cs, hl with
  | [x0, x1, x2, x3], _ =>
    simp [k1, k2, k3] at q0 q1 q2 q3
    exact ⟨⟨a0, a1, a2, D, dc, data⟩, by rw [q0, q1, q2, q3]; rfl, ⟨d3, d1, by simp only; omega⟩, d4⟩
theorem open_acts {base : Nat} {v : Value} {d : DataW H} {p : List MemPlace} (o : Value.okWide Try.prog W .any base 22 v) (k : DataW.Trod enc Try.prog W 0 (fun _ => true) true 22 v d p) (hz : (d.weights Try.prog 22).all (· ≤ reachBytes) = true) :
    ∃ A c, ∃ acs : List Link.Ac, v = .slice A acs.length c ∧ acs.length ≤ c ∧ c ≤ 8796093022208 ∧ Mem.Rd W W.heap.size A (acs.flatMap Link.acCells) ∧ ∀ a ∈ acs, Link.AcIn W a := by
  obtain ⟨A, c, l, h1, h2, h3, h4, h5, _⟩ := Mem.open_slice_sz (α := Link.Ac) (sz := 4) Try.underlying22 (by kernel_rfl) (by omega) Link.acCells Link.acCells_length (Link.AcIn W) (fun n cs x h hl hz => dec_ac h hl hz) o k hz
  have kb : Try.prog.bytesOf 34 = 48 := by kernel_rfl
  rw [kb] at h3
  unfold reachBytes at h3
  exact ⟨A, c, l, h1, h2, by omega, h4, h5⟩
end
open Link in
set_option maxHeartbeats 4000000 in
theorem much_any {w0 w : World} (A : Option Addr) (c : Nat) (acs : List Link.Ac) (hr : Mem.Rd w0 w0.heap.size A (acs.flatMap Link.acCells)) (hn : acs.length ≤ 8796093022208) (hd : ∀ a ∈ acs, Link.AcIn w0 a) (hb : Below w0.heap.size w0 w) :
    Calls Try.prog 9 #[.slice A acs.length c] w (Link.MuchEnd w acs) := by
  have HR := Lib.hid hr
  have HD := Lib.hid hd
  have HB0 := Lib.hid hb
  clear hr hd hb
  go_enter Try.func9, Try.ntmps9
  go_wp2
  go_loopw [3, 4] (MuchRel w acs) (fun _ t _ => acs.length - (intOf t).toNat)
  case atStart => exact ⟨0, acs.length, by omega, by omega, .inl (by simp [costsA]), rfl, rfl, Below.refl _ _⟩
  case round =>
    obtain ⟨k, N, hk, hN, hNe, rfl, rfl, HB⟩ := hrel
    have HBW := Lib.hid (HB0.out.trans (HB.out.mono HB0.out.size))
    by_cases hlt : k < acs.length
    · by_cases hm : N ≤ 2000
      · obtain ⟨b, o, a, rfl, hb, hp, q0, q1, q2, q3⟩ := ac_elem HR.out hlt
        have hdo := HD.out a (List.mem_of_getElem? hp)
        have HDO := Lib.hid hdo
        have q3' := (HBW.out.cell (p := ⟨b, o + k * 4 + 3, none⟩) hb).trans q3
        have Q3 := Lib.hid q3
        have hl1 := hdo.ok.dl
        have hl3 := hdo.ok.dm
        have HTS : Hid (costsA (acs.take (k + 1)) = costsA (acs.take k) + costS a.data) := by show _ = _; rw [Mem.take_snoc hp, costsA_snoc]
        have HNE : Hid (N = acs.length + costsA (acs.take k)) := by show _ = _; omega
        clear hp hdo q0 q1 q2 q3 hNe
        have hmd : decide (N ≤ 2000) = true := by simpa using hm
        go_wp2
        obtain ⟨wo, hwo⟩ : ∃ wo, wr = wo := ⟨_, rfl⟩
        rw [hwo]
        have HB' : Hid (Below w.heap.size w wo) := by rw [← hwo]; exact HB
        clear hwo q3' HB HBW
        go_loopw [3, 5] (MuchRel3 w N a.data) (fun _ t _ => a.data.length - (intOf t).toNat)
        case atStart => exact ⟨0, N, by omega, by omega, by simp [costS], rfl, rfl, HB'⟩
        case round =>
          clear HB'
          obtain ⟨j, M, hj, hM, hMe, rfl, rfl, HB⟩ := hrel
          have HBW := Lib.hid (HB0.out.trans (HB.out.mono HB0.out.size))
          have q3' := (HBW.out.cell (p := ⟨b, o + k * 4 + 3, none⟩) hb).trans Q3.out
          by_cases hjl : j < a.data.length
          · by_cases hM2 : M ≤ 2000
            · obtain ⟨b1, o1, hD, hb1, hc⟩ := (HDO.out.ok.rd.below HBW.out).at (k := j) (by simpa using hjl)
              simp only [List.getElem_map] at hc
              have hts := Mem.take_snoc (List.getElem?_eq_getElem hjl)
              have hsz := HDO.out.ss a.data[j] (List.getElem_mem hjl)
              obtain ⟨s, hs⟩ : ∃ s, a.data[j] = s := ⟨_, rfl⟩
              rw [hs] at hc hts hsz
              rw [hD] at q3'
              have HTJ : Hid (costS (a.data.take (j + 1)) = costS (a.data.take j) + (1 + s.size / 20)) := by show _ = _; rw [hts, costS_snoc]; rfl
              have hMd : decide (M ≤ 2000) = true := by simpa using hM2
              clear hs hts hD
              go_wp2
              go_roundw
              case rel => exact ⟨j + 1, M + (1 + s.size / 20), by omega, by omega, by rw [HTJ.out]; omega, by go_num, by go_num, HB⟩
              case measure => simp [intOf]; omega
            · have hMd : decide (M ≤ 2000) = false := by simpa using hM2
              go_wp2
              go_roundw
              case rel => exact ⟨k + 1, M, by omega, hM, .inr (by omega), rfl, by go_num, HB⟩
              case measure => simp [intOf]; omega
          · obtain rfl : j = a.data.length := by omega
            rw [List.take_length] at hMe
            go_wp2
            go_roundw
            case rel => exact ⟨k + 1, M, by omega, hM, .inl (by rw [HTS.out]; have := HNE.out; omega), rfl, by go_num, HB⟩
            case measure => simp [intOf]; omega
      · have hmd : decide (N ≤ 2000) = false := by simpa using hm
        have hmg : decide (2000 < N) = true := by simp; omega
        go_wp2
        go_ret
        exact ⟨true, rfl, (fun h => by cases h), HB.out⟩
    · obtain rfl : k = acs.length := by omega
      rw [List.take_length] at hNe
      by_cases hm : N ≤ 2000
      · have hmg : decide (2000 < N) = false := by simp; omega
        have HNE : Hid (acs.length + costsA acs ≤ 2000) := by show _ ≤ _; omega
        clear hNe
        go_wp2
        go_ret
        exact ⟨decide ((2000 : Int) < (N : Int)), rfl, fun _ => HNE.out, HB.out⟩
      · have hmg : decide (2000 < N) = true := by simp; omega
        go_wp2
        go_ret
        exact ⟨decide ((2000 : Int) < (N : Int)), rfl, (fun h => by have := of_decide_eq_false h; omega), HB.out⟩
theorem words_quiet2 {w : World} (n : Nat) (l : List ByteArray) (A B : Option Addr) (ac bc : Nat) (hA : Mem.Rd w w.heap.size A (l.map Link.strV)) (hB : Mem.Rd w w.heap.size B (l.map Link.strV)) (hn : l.length ≤ maxLen) :
    Calls Try.prog 14 #[.slice A l.length ac, .slice B l.length bc] (w.drewN n) fun e w' => e = .returned (.bool true) ∧ ∃ m, w' = w.drewN m :=
  (words_quiet (w := w.drewN n) l A B ac bc hA hB hn).mono fun _ _ ⟨h, m, hm⟩ => ⟨h, n + m, by rw [hm]; simp⟩
set_option maxHeartbeats 1000000 in
theorem prefix_quiet {w : World} (l m : List ByteArray) (A B : Option Addr) (ac bc : Nat) (hp : l = m.take l.length) (hl : l.length ≤ m.length) (hA : Mem.Rd w w.heap.size A (l.map Link.strV)) (hB : Mem.Rd w w.heap.size B (m.map Link.strV)) (hm : m.length ≤ bc) (hn : bc ≤ maxLen) :
    Calls Try.prog 16 #[.slice A l.length ac, .slice B m.length bc] w fun e w' => e = .returned (.bool true) ∧ ∃ k, w' = w.drewN k := by
  unfold maxLen at hn
  have hB2 : Mem.Rd w w.heap.size B (l.map Link.strV) := by
    have h1 := hB.take l.length
    rw [← List.map_take, ← hp] at h1
    exact h1
  have HA := Lib.hid hA
  have HB := Lib.hid hB2
  have hld : decide (l.length ≤ m.length) = true := by simpa using hl
  have hlb : l.length ≤ bc := by omega
  clear hp hA hB hB2
  go_enter Try.func16, Try.ntmps16
  go_wp2_with fail
  refine (words_quiet l A B ac bc HA.out HB.out (by unfold maxLen; omega)).mono ?_
  rintro x w' ⟨rfl, k, rfl⟩
  go_wp2
  go_ret
  exact ⟨rfl, k, rfl⟩
theorem prefix_quiet2 {w : World} (n : Nat) (l m : List ByteArray) (A B : Option Addr) (ac bc : Nat) (hp : l = m.take l.length) (hl : l.length ≤ m.length) (hA : Mem.Rd w w.heap.size A (l.map Link.strV)) (hB : Mem.Rd w w.heap.size B (m.map Link.strV)) (hm : m.length ≤ bc) (hn : bc ≤ maxLen) :
    Calls Try.prog 16 #[.slice A l.length ac, .slice B m.length bc] (w.drewN n) fun e w' => e = .returned (.bool true) ∧ ∃ k, w' = w.drewN k :=
  (prefix_quiet (w := w.drewN n) l m A B ac bc hp hl hA hB hm hn).mono fun _ _ ⟨h, m, hm⟩ => ⟨h, n + m, by rw [hm]; simp⟩
end Go.Proofs.Ytjkonfanmpcipaa
