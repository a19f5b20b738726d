/- Two ends, the program's and the reference's, side by side; the sums at LinkPlays' head. Plain lemmas and a walk. No conditions. -/
import Derived.Test.YtjkonfanmpcipaaPlays0
import Derived.Deep.DeepCutAuto
import Derived.Deep.CutBlock
import Derived.Outline
namespace Go.Proofs.Ytjkonfanmpcipaa
open Go.ChangeShapes Go.WideShapes Go.ChangeAt Go.RowKit
set_option linter.unusedVariables false

theorem words_quiet2 {w : World} (n : Nat) (l : List ByteArray) (A B : Option Addr) (ac bc : Nat) (hA : Mem.Rd w w.heap.size A (l.map Link.strV)) (hB : Mem.Rd w w.heap.size B (l.map Link.strV)) (hn : l.length ≤ maxLen) :
    Calls Try.prog 14 #[.slice A l.length ac, .slice B l.length bc] (w.drewN n) fun e w' => e = .returned (.bool true) ∧ ∃ m, w' = w.drewN m :=
  (words_quiet (w := w.drewN n) l A B ac bc hA hB hn).mono fun _ _ ⟨h, m, hm⟩ => ⟨h, n + m, by rw [hm]; simp⟩

namespace Link
def cost1 (s : ByteArray) : Nat := 1 + s.size / 20
def costS (l : List ByteArray) : Nat := (l.map cost1).sum
def costD (d : Dd) : Nat := d.pks.length + costS d.data
def costsD (ds : List Dd) : Nat := (ds.map costD).sum
theorem costS_snoc (l : List ByteArray) (s : ByteArray) : costS (l ++ [s]) = costS l + cost1 s := by simp [costS]
theorem costsD_snoc (ds : List Dd) (d : Dd) : costsD (ds ++ [d]) = costsD ds + costD d := by simp [costsD]
theorem costS_len : ∀ l : List ByteArray, l.length ≤ costS l
  | [] => by simp
  | s :: l => by have := costS_len l; simp only [costS, List.map_cons, List.sum_cons, List.length_cons, cost1] at *; omega
theorem costs_le : ∀ ds : List Dd, costs ds ≤ costsD ds
  | [] => by simp [costs]
  | d :: ds => by have := costs_le ds; have := costS_len d.data; simp only [costs, costsD, List.map_cons, List.sum_cons, cost, costD] at *; omega
/-- both ends in memory, apart -/
structure Two (w : World) (g r : Nat) (wr : World) (A : Option Addr) (c : Nat) (e1 : E) (D : Option Addr) (d : Nat) (e2 : E) (data : List ByteArray) (ack : Nat) : Prop where
  en : At wr g A c e1
  rf : R wr r D d e2 data ack
  bl : Below w.heap.size w wr
  fg : w.heap.size ≤ g
  fr : w.heap.size ≤ r
  fa : Mem.From w.heap.size A
  fd : Mem.From w.heap.size D
  gr : g ≠ r
  ar : Mem.blk A ≠ some r
  dg : Mem.blk D ≠ some g
  ad : ∀ q, Mem.blk A = some q → Mem.blk D ≠ some q
section
variable {w wr w' : World} {g r c d c2 d2 ack ack2 : Nat} {A D A2 D2 : Option Addr} {e1 e2 e3 : E} {data data2 : List ByteArray}
theorem Two.quiet (h : Two w g r wr A c e1 D d e2 data ack) (k : Mem.Keeps (fun _ => False) wr w') : Two w g r w' A c e1 D d e2 data ack :=
  ⟨h.en.keeps k (fun h => h) (fun _ _ h => h), h.rf.keeps k (fun h => h) (fun _ _ h => h), h.bl.trans (k.below (fun _ h => h.elim) h.bl.size), h.fg, h.fr, h.fa, h.fd, h.gr, h.ar, h.dg, h.ad⟩
theorem Two.below (h : Two w g r wr A c e1 D d e2 data ack) (k : Below wr.heap.size wr w') : Two w g r w' A c e1 D d e2 data ack := h.quiet (Mem.Keeps.of_below k)
theorem Two.left (h : Two w g r wr A c e1 D d e2 data ack) (h2 : At w' g A2 c2 e3) (k : Mem.Keeps (Bl g A) wr w') (hm : Mem.blk A2 = Mem.blk A ∨ Mem.blk A2 = none ∨ Mem.From wr.heap.size A2) : Two w g r w' A2 c2 e3 D d e2 data ack := by
  have hsz := h.bl.size
  refine ⟨h2, h.rf.keeps k ?_ ?_, h.bl.trans (k.below ?_ hsz), h.fg, h.fr, ?_, h.fd, h.gr, ?_, h.dg, ?_⟩
  · rintro (e | e)
    · exact h.gr e.symm
    · exact h.ar e
  · rintro q hq (e | e)
    · subst e; exact h.dg hq
    · exact h.ad q e hq
  · rintro q (e | e)
    · have := h.fg; omega
    · exact h.fa.blk q e
  · refine Mem.From.of_blk fun q hq => ?_
    rcases hm with e | e | e
    · exact h.fa.blk q (e ▸ hq)
    · rw [e] at hq; cases hq
    · have := e.blk q hq; omega
  · intro hq
    rcases hm with e | e | e
    · exact h.ar (e ▸ hq)
    · rw [e] at hq; cases hq
    · have := e.blk r hq; have := h.rf.lt; omega
  · intro q hq
    rcases hm with e | e | e
    · exact h.ad q (e ▸ hq)
    · rw [e] at hq; cases hq
    · intro hd
      have := e.blk q hq
      have := h.rf.row.lt hd
      omega
theorem Two.right (h : Two w g r wr A c e1 D d e2 data ack) (h2 : R w' r D2 d2 e3 data2 ack2) (k : Mem.Keeps (Bl r D) wr w') (hm : Mem.blk D2 = Mem.blk D ∨ Mem.blk D2 = none ∨ Mem.From wr.heap.size D2) : Two w g r w' A c e1 D2 d2 e3 data2 ack2 := by
  have hsz := h.bl.size
  refine ⟨h.en.keeps k ?_ ?_, h2, h.bl.trans (k.below ?_ hsz), h.fg, h.fr, h.fa, ?_, h.gr, h.ar, ?_, ?_⟩
  · rintro (e | e)
    · exact h.gr e
    · exact h.dg e
  · rintro q hq (e | e)
    · subst e; exact h.ar hq
    · exact h.ad q hq e
  · rintro q (e | e)
    · have := h.fr; omega
    · exact h.fd.blk q e
  · refine Mem.From.of_blk fun q hq => ?_
    rcases hm with e | e | e
    · exact h.fd.blk q (e ▸ hq)
    · rw [e] at hq; cases hq
    · have := e.blk q hq; omega
  · intro hq
    rcases hm with e | e | e
    · exact h.dg (e ▸ hq)
    · rw [e] at hq; cases hq
    · have := e.blk g hq; have := h.en.box.lt; omega
  · intro q hq hd
    rcases hm with e | e | e
    · exact h.ad q hq (e ▸ hd)
    · rw [e] at hd; cases hd
    · have := e.blk q hd
      have := h.en.opn.lt hq
      omega
theorem Two.both {d3 ack3 : Nat} {data3 : List ByteArray} {e4 : E} (h : Two w g r wr A c e1 D d e2 data ack) (h1 : At w' g A2 c2 e3) (h2 : R w' r D2 d3 e4 data3 ack3) (k : Mem.Keeps (fun q => q = g ∨ q = r ∨ False) wr w') (m1 : Mem.blk A2 = Mem.blk A ∨ Mem.blk A2 = none) (m2 : Mem.blk D2 = Mem.blk D ∨ Mem.blk D2 = none) : Two w g r w' A2 c2 e3 D2 d3 e4 data3 ack3 := by
  have hsz := h.bl.size
  have ha : ∀ q, Mem.blk A2 = some q → Mem.blk A = some q := fun q hq => by
    rcases m1 with e | e
    · exact e ▸ hq
    · rw [e] at hq; cases hq
  have hd : ∀ q, Mem.blk D2 = some q → Mem.blk D = some q := fun q hq => by
    rcases m2 with e | e
    · exact e ▸ hq
    · rw [e] at hq; cases hq
  refine ⟨h1, h2, h.bl.trans (k.below ?_ hsz), h.fg, h.fr, Mem.From.of_blk fun q hq => h.fa.blk q (ha q hq), Mem.From.of_blk fun q hq => h.fd.blk q (hd q hq), h.gr, fun hq => h.ar (ha _ hq), fun hq => h.dg (hd _ hq), fun q hq hq2 => h.ad q (ha q hq) (hd q hq2)⟩
  rintro q (e | e | e)
  · have := h.fg; omega
  · have := h.fr; omega
  · exact e.elim
theorem Two.lt (h : Two w g r wr A c e1 D d e2 data ack) : g < wr.heap.size ∧ r < wr.heap.size ∧ (∀ q, Mem.blk A = some q → q < wr.heap.size) ∧ (∀ q, Mem.blk D = some q → q < wr.heap.size) :=
  ⟨h.en.box.lt, h.rf.lt, fun _ hq => h.en.opn.lt hq, fun _ hq => h.rf.row.lt hq⟩
end
def SumRel2 (w w1 : World) (ds : List Dd) (vn vi : Value) (wr : World) : Prop :=
  ∃ k N : Nat, k ≤ ds.length ∧ N ≤ 40000000000000 ∧ (N = ds.length + costsD (ds.take k) ∨ 2000 < N) ∧ vn = .int .i64 (N : Int) ∧ vi = .int .i64 k ∧ Hid (Below w.heap.size w wr) ∧ Hid (w1.heap.size ≤ wr.heap.size)
def SumRel3 (w w1 : World) (M : Nat) (l : List ByteArray) (vn vi : Value) (wr : World) : Prop :=
  ∃ j N : Nat, j ≤ l.length ∧ N ≤ 40000000000000 ∧ N = M + costS (l.take j) ∧ vn = .int .i64 (N : Int) ∧ vi = .int .i64 j ∧ Hid (Below w.heap.size w wr) ∧ Hid (w1.heap.size ≤ wr.heap.size)
end Link
namespace Link
theorem TakeEnd_eq (w : World) (g : Nat) (A : Option Addr) (e : E) (ps : List Pk) : TakeEnd w g A e ps = fun x w' => ∃ A' O c' oc, x = .returned (.slice O (take e ps).2.length oc) ∧ At w' g A' c' (take e ps).1 ∧ Mem.Own w' 9 1 O (take e ps).2.length oc ((take e ps).2.map strV) ∧ Mem.From w.heap.size O ∧ Mem.Keeps (fun q => q = g) w w' ∧ (Mem.blk A' = Mem.blk A ∨ Mem.blk A' = none) := rfl
theorem RTakeEnd_eq (w : World) (g : Nat) (A : Option Addr) (e : E) (ps : List Pk) : RTakeEnd w g A e ps = fun x w' => ∃ A' O c' oc data' ack', x = .returned (.slice O (take e ps).2.length oc) ∧ R w' g A' c' (take e ps).1 data' ack' ∧ Mem.Own w' 9 1 O (take e ps).2.length oc ((take e ps).2.map strV) ∧ Mem.From w.heap.size O ∧ Mem.Keeps (fun q => q = g) w w' ∧ (Mem.blk A' = Mem.blk A ∨ Mem.blk A' = none) := rfl
theorem pks_one {ps : List Pk} : ∀ u ∈ ps.flatMap pkCells, u.oneCell' = true := by
  intro u hu
  obtain ⟨p, _, hp⟩ := List.mem_flatMap.1 hu
  simp only [pkCells, List.mem_cons, List.not_mem_nil, or_false] at hp
  rcases hp with rfl | rfl | rfl | rfl | rfl <;> rfl
end Link
namespace linkPlaysOpen
open Link
structure PRel (w : World) (g r : Nat) (ds : List Dd) (vi : Value) (wr : World) : Prop where
  out : ∃ (k : Nat) (A : Option Addr) (c : Nat) (D : Option Addr) (d : Nat) (data : List ByteArray) (ack : Nat) (e : E), k ≤ ds.length ∧ vi = .int .i64 k ∧ Hid (Two w g r wr A c e D d e data ack) ∧ Hid (Fine (costs (ds.take k)) e)
def PMid (w : World) (g r N : Nat) (wx : World) : Prop := ∃ (A : Option Addr) (c : Nat) (D : Option Addr) (d : Nat) (data : List ByteArray) (ack : Nat) (e : E), Hid (Two w g r wx A c e D d e data ack) ∧ Hid (Fine N e)
set_option maxRecDepth 100000 in
set_option maxHeartbeats 8000000 in
theorem walk (life : Int) (A : Option Addr) (c : Nat) (ds : List Dd) (w : World) (hr : Mem.Rd w w.heap.size A (ds.flatMap ddCells)) (hn : ds.length ≤ 8796093022208) (hd : ∀ d ∈ ds, DdOk w d) :
    Calls Try.prog 6 #[.int .i64 life, .slice A ds.length c] w fun e w' => e = .returned (.bool true) ∧ Below w.heap.size w w' := by
  have HR := Lib.hid hr
  have HD := Lib.hid hd
  clear hr hd
  go_enter Try.func6, Try.ntmps6
  go_wp2_with fail
  refine (linkAble_any w).mono ?_
  rintro x w1 ⟨rfl, hb1⟩
  have HB1 := Lib.hid hb1
  clear hb1
  go_wp2
  go_loopw [5, 6] (SumRel2 w w1 ds) (fun _ t _ => ds.length - (intOf t).toNat)
  case atStart => exact ⟨0, ds.length, by omega, by omega, .inl (by simp [costsD]), rfl, rfl, HB1.out, Nat.le_refl _⟩
  case round =>
    obtain ⟨k, N, hk, hN, hNe, rfl, rfl, HB, HS⟩ := hrel
    by_cases hlt : k < ds.length
    · by_cases hm : N ≤ 2000
      · obtain ⟨b, o, d, rfl, hb, hp, q0, q1, q2, q3⟩ := dd_elem HR.out hlt
        have hdo := HD.out d (List.mem_of_getElem? hp)
        have HDO := Lib.hid hdo
        have q2' := (HB.out.cell (p := ⟨b, o + k * 4 + 2, none⟩) hb).trans q2
        have q3' := (HB.out.cell (p := ⟨b, o + k * 4 + 3, none⟩) hb).trans q3
        have Q2 := Lib.hid q2
        have hl1 := hdo.dl
        have hl2 := hdo.ql
        have hl3 := hdo.dm
        have hl4 := hdo.qm
        have HTS : Hid (costsD (ds.take (k + 1)) = costsD (ds.take k) + (d.pks.length + costS d.data)) := by show _ = _; rw [Mem.take_snoc hp, costsD_snoc]; rfl
        have HNE : Hid (N = ds.length + costsD (ds.take k)) := by show _ = _; omega
        clear hp hdo q0 q1 q2 q3 hNe
        have hmd : decide (N ≤ 2000) = true := by simpa using hm
        go_wp2
        obtain ⟨wo, hwo⟩ : ∃ wo, wr = wo := ⟨_, rfl⟩
        rw [hwo]
        have HB' : Hid (Below w.heap.size w wo) := by rw [← hwo]; exact HB
        have HS' : Hid (w1.heap.size ≤ wo.heap.size) := by rw [← hwo]; exact HS
        clear hwo q2' q3' HB HS
        go_loopw [5, 7] (SumRel3 w w1 (N + d.pks.length) d.data) (fun _ t _ => d.data.length - (intOf t).toNat)
        case atStart => exact ⟨0, N + d.pks.length, by omega, by omega, by simp [costS], by go_num, rfl, HB', HS'⟩
        case round =>
          clear HB' HS'
          obtain ⟨j, M, hj, hM, hMe, rfl, rfl, HB, HS⟩ := hrel
          have q2' := (HB.out.cell (p := ⟨b, o + k * 4 + 2, none⟩) hb).trans Q2.out
          by_cases hjl : j < d.data.length
          · by_cases hM2 : M ≤ 2000
            · obtain ⟨b1, o1, hD, hb1, hc⟩ := (HDO.out.rd.below HB.out).at (k := j) (by simpa using hjl)
              simp only [List.getElem_map] at hc
              have hts := Mem.take_snoc (List.getElem?_eq_getElem hjl)
              have hsz := HDO.out.ss d.data[j] (List.getElem_mem hjl)
              obtain ⟨s, hs⟩ : ∃ s, d.data[j] = s := ⟨_, rfl⟩
              rw [hs] at hc hts hsz
              rw [hD] at q2'
              have HTJ : Hid (costS (d.data.take (j + 1)) = costS (d.data.take j) + (1 + s.size / 20)) := by show _ = _; rw [hts, costS_snoc]; rfl
              have hMd : decide (M ≤ 2000) = true := by simpa using hM2
              clear hs hts hD
              go_wp2
              go_roundw
              case rel => exact ⟨j + 1, M + (1 + s.size / 20), by omega, by omega, by rw [HTJ.out]; omega, by go_num, by go_num, HB, HS⟩
              case measure => simp [intOf]; omega
            · have hMd : decide (M ≤ 2000) = false := by simpa using hM2
              go_wp2
              go_roundw
              case rel => exact ⟨k + 1, M, by omega, hM, .inr (by omega), rfl, by go_num, HB, HS⟩
              case measure => simp [intOf]; omega
          · obtain rfl : j = d.data.length := by omega
            rw [List.take_length] at hMe
            go_wp2
            go_roundw
            case rel => exact ⟨k + 1, M, by omega, hM, .inl (by rw [HTS.out]; have := HNE.out; omega), rfl, by go_num, HB, HS⟩
            case measure => simp [intOf]; omega
      · have hmd : decide (N ≤ 2000) = false := by simpa using hm
        have hmg : decide (2000 < N) = true := by simp; omega
        go_wp2
        go_ret
        exact ⟨rfl, HB.out⟩
    · obtain rfl : k = ds.length := by omega
      rw [List.take_length] at hNe
      by_cases hm : N ≤ 2000
      case neg =>
        have hmg : decide (2000 < N) = true := by simp; omega
        go_wp2
        go_ret
        exact ⟨rfl, HB.out⟩
      case pos =>
      have hmg : decide (2000 < N) = false := by simp; omega
      have hcs := costs_le ds
      have HC : Hid (costs ds ≤ 2000) := by show _ ≤ _; omega
      clear hlt hNe hcs
      go_wp2_with fail
      refine (new_any life wr wr.heap.size rfl).mono ?_
      rintro x w2 ⟨rfl, hA, hb2, hs2⟩
      have HB2 := Lib.hid (HB.out.trans (hb2.mono HB.out.size))
      have HA2 := Lib.hid hA
      have hsz2 : w.heap.size ≤ wr.heap.size := HB.out.size
      obtain ⟨g, hg⟩ : ∃ g, wr.heap.size = g := ⟨_, rfl⟩
      rw [hg] at HA2 hsz2 hs2 ⊢
      have HS2 := Lib.hid hs2
      clear hb2 hA hs2 hg hmg HS HB
      go_upto_region 16 with fail
      obtain ⟨w3, hw3⟩ : ∃ w3, w2.alloc (.cells #[.int .i64 life, .slice none 0 0, .int .i64 0, .int .i64 0] 45) = w3 := ⟨_, rfl⟩
      have HT0 : Hid (Two w g w2.heap.size w3 none 0 ⟨life, 0, 0, []⟩ none 0 ⟨life, 0, 0, []⟩ [] 0) := by
        show Two _ _ _ _ _ _ _ _ _ _ _ _
        have hs := HS2.out
        rw [← hw3]
        exact ⟨HA2.out.keeps ((Mem.Keeps.refl (fun _ => False) w2).alloc _) (fun h => h) (fun _ _ h => h), ⟨Mem.Own.lit w2 _ 4 #[.int .i64 life, .slice none 0 0, .int .i64 0, .int .i64 0] 1 rfl rfl (by simp [maxLen]), Mem.Own.nil _ _ _, by simp [Mem.blk], rfl, rfl, by simp⟩,
          HB2.out.alloc HB2.out.size _, hsz2, HB2.out.size, Mem.From.none_ _, Mem.From.none_ _, by omega, by simp [Mem.blk], by simp [Mem.blk], fun _ h => by cases h⟩
      obtain ⟨r, hrr⟩ : ∃ r, w2.heap.size = r := ⟨_, rfl⟩
      rw [hrr] at HT0 ⊢
      rw [hw3]
      clear hw3 hrr HA2 HB2 HS2
      go_wp2
      go_loopw [10] (PRel w g r ds) (fun t _ => ds.length - (intOf t).toNat)
      case atStart => exact ⟨⟨0, none, 0, none, 0, [], 0, ⟨life, 0, 0, []⟩, by omega, rfl, HT0.out, Fine.new life⟩⟩
      case round =>
        obtain ⟨k, A', c', D', d', data', ack', e, hk, rfl, HT, HF⟩ := hrel.out
        clear HT0
        have hct := costs_take ds k
        have HBL := Lib.hid HT.out.bl
        by_cases hlt : k < ds.length
        · obtain ⟨b, o, d, rfl, hb, hp, p0, p1, p2, p3⟩ := dd_elem HR.out hlt
          have q0 := (HBL.out.cell (p := ⟨b, o + k * 4, none⟩) hb).trans p0
          have q1 := (HBL.out.cell (p := ⟨b, o + k * 4 + 1, none⟩) hb).trans p1
          have q2 := (HBL.out.cell (p := ⟨b, o + k * 4 + 2, none⟩) hb).trans p2
          have q3 := (HBL.out.cell (p := ⟨b, o + k * 4 + 3, none⟩) hb).trans p3
          have HDO := Lib.hid (HD.out d (List.mem_of_getElem? hp))
          have HTS : Hid (costs (ds.take (k + 1)) = costs (ds.take k) + (d.pks.length + d.data.length)) := by show _ = _; rw [Mem.take_snoc hp, costs_snoc]; rfl
          have hcost : costs (ds.take k) + (d.pks.length + d.data.length) ≤ 2000 := by have := costs_take ds (k + 1); rw [HTS.out] at this; have := HC.out; omega
          clear hp p0 p1 p2 p3
          go_upto_block 6 with fail
          obtain ⟨w4, hw4⟩ : ∃ w4, wr.alloc (.cells #[.int .i64 d.kind, .int .i64 d.n, .slice d.D d.data.length d.dc, .slice d.Q d.pks.length d.qc] 42) = w4 := ⟨_, rfl⟩
          have HT4 : Hid (Two w g r w4 A' c' e D' d' e data' ack') := by show Two _ _ _ _ _ _ _ _ _ _ _ _; rw [← hw4]; exact HT.out.quiet ((Mem.Keeps.refl _ _).alloc _)
          have hz : ∀ j, w4.cell? ⟨wr.heap.size, j, none⟩ = #[Value.int .i64 d.kind, .int .i64 d.n, .slice d.D d.data.length d.dc, .slice d.Q d.pks.length d.qc][j]? := fun j => by rw [← hw4, cell_of_row _ _ _ _ _ _ (heap_alloc_new wr _)]
          have z0 := hz 0
          have z1 := hz 1
          have z2 := hz 2
          have z3 := hz 3
          simp only [List.getElem?_toArray, List.getElem?_cons_zero, List.getElem?_cons_succ] at z0 z1 z2 z3
          obtain ⟨l1, l2, l3, l4⟩ := HT.out.lt
          have hbw : wr.heap.size < w4.heap.size := by rw [← hw4]; simp
          obtain ⟨b0, hb0⟩ : ∃ b0, wr.heap.size = b0 := ⟨_, rfl⟩
          rw [hb0] at z0 z1 z2 z3 l1 l2 l3 l4 hbw
          rw [hw4, hb0]
          have HLB : Hid (Mem.blk A' ≠ some b0 ∧ ∀ q, Mem.blk D' = some q → q < b0) := ⟨fun h => by have := l3 _ h; omega, l4⟩
          have hwb : w.heap.size ≤ b0 := by rw [← hb0]; exact HT.out.bl.size
          have HL3 : Hid (∀ q, Mem.blk A' = some q → q < w4.heap.size) := fun q hq => HT4.out.lt.2.2.1 q hq
          have HL4 : Hid (∀ q, Mem.blk D' = some q → q < w4.heap.size) := fun q hq => HT4.out.lt.2.2.2 q hq
          clear hz hw4 hb0 l3 l4 q0 q1 q2 q3 HT HBL
          go_cut [] (fun wx => PMid w g r (costs (ds.take (k + 1))) wx)
          case first =>
            by_cases k1 : d.kind = 1
            · have d1 : (d.kind == 1) = true := by simp [k1]
              have h8 := HF.out.o8
              obtain ⟨kk, hkk⟩ : ∃ kk, sendK e d.data = kk := ⟨_, rfl⟩
              have hkl : kk ≤ d.data.length ∧ e.opn.length + kk ≤ 8 := by rw [← hkk]; unfold sendK; omega
              have HKK := Lib.hid hkk
              have HB4 := Lib.hid HT4.out.bl
              clear k1 hkk
              go_upto_region 23 with (first
                | (at_builtin; refine Mem.wpList_clone _ rfl (.tmp 88) (.tmp 90) _ rfl strs_elem _ rfl _ _ d.D d.data.length d.dc (d.data.map strV) rfl ?_ rfl (Below.refl _ _) (Nat.le_refl _) (HDO.out.rd.below HB4.out |>.more HB4.out.size) (by simp) (by simp [Value.oneCell']) (by unfold maxLen; omega) (by omega); intro A1 c1 w5 hown hb5 hs5 hf5; have HO5 := Lib.hid hown; have HB5 := Lib.hid hb5; have HF5 := Lib.hid hf5; clear hown hb5 hf5)
                | (at_builtin; refine Mem.wpList_app _ rfl (.tmp 91) (.tmp 92) _ rfl strs_elem A1 d.data.length c1 (d.data.map strV) rfl (w5.heap.size + 1) (some ⟨w5.heap.size, 0, none⟩) 1 1 [strV ⟨#[120, 55]⟩] rfl ?_ (HO5.out.alloc _) (Mem.Rd.alloc_new _ _ _ _ rfl) rfl (by simp [Value.oneCell']) (by unfold maxLen; omega) (by omega); intro G gc w6 hown hg6 hat; obtain ⟨gg, gq, rfl⟩ := hown.form (by omega); have hgc := hown.le; have HO6 := Lib.hid hown; have HG6 := Lib.hid hg6; have HAT := Lib.hid hat; clear hown hg6 hat))
              have hgg : w4.heap.size ≤ gg := by
                rcases HAT.out with h | h
                · exact HF5.out _ h.symm
                · have : gg = w5.heap.size + 1 ∧ gq = 0 := by simpa using h
                  have := HB5.out.size
                  omega
              have k6 : Mem.Keeps (fun _ => False) w4 w6 := Mem.Keeps.mono ((((Mem.Keeps.of_below HB5.out).mono (T := fun q => w4.heap.size ≤ q) (fun _ h _ => h.elim)).alloc (.cells #[strV ⟨#[120, 55]⟩] 9)).grown HG6.out (fun q hq _ => HF5.out.blk q hq)) (fun q hq hl => by omega)
              have HT6 := Lib.hid (HT4.out.quiet k6)
              have HK6 := Lib.hid k6
              have hrd6 := Lib.hid (Mem.Rd.left HO6.out.rd)
              have hz6 : ∀ j, w6.cell? ⟨b0, j, none⟩ = w4.cell? ⟨b0, j, none⟩ := fun j => HK6.out.cell (p := ⟨b0, j, none⟩) hbw (fun h => h)
              have y2 := (hz6 2).trans z2
              have HZ6 := Lib.hid hz6
              clear hz6 k6
              go_wp2_with fail
              refine (send_any HT6.out.en (some ⟨gg, gq, none⟩) gc d.data (fun W hk => hrd6.out.keepsAt hk (Nat.le_refl _) (fun q hq h => by
                obtain rfl : gg = q := by cases hq; rfl
                rcases h with h | h
                · omega
                · have := HL3.out _ h; omega)) (by unfold maxLen; omega) HF.out.s0 (by have := HF.out.sN; omega) (by omega)).mono ?_
              rintro x w7 ⟨A7, c7, rfl, hA7, hk7, hm7⟩
              rw [HKK.out] at hA7 ⊢
              have HT7 := Lib.hid (HT6.out.left hA7 hk7 (hm7.elim .inl (fun h => .inr (.inr h))))
              have hS7 : ∀ q, w4.heap.size ≤ q ∨ q = b0 → ¬ Bl g A' q := fun q hq h => by
                rcases h with h | h
                · omega
                · have h1 := HL3.out _ h
                  rcases hq with hq | hq
                  · omega
                  · subst hq; exact HLB.out.1 h
              have HO7 := Lib.hid (HO6.out.keeps hk7 (fun q hq => hS7 q (.inl (by have h' : gg = q := Option.some.inj hq; omega))))
              have hz7 : ∀ j, w7.cell? ⟨b0, j, none⟩ = w6.cell? ⟨b0, j, none⟩ := fun j => hk7.cell (p := ⟨b0, j, none⟩) (Nat.lt_of_lt_of_le hbw HK6.out.size) (hS7 b0 (.inr rfl))
              have v2 := (hz7 2).trans ((HZ6.out 2).trans z2)
              have hbw7 := Nat.lt_of_lt_of_le (Nat.lt_of_lt_of_le hbw HK6.out.size) hk7.size
              have HW47 : Hid (w4.heap.size ≤ w7.heap.size) := Nat.le_trans HK6.out.size hk7.size
              have HMD : Hid (∀ q, Mem.blk D' = some q → q < b0) := fun q hq => HLB.out.2 q hq
              clear hA7 hk7 hm7 hz7 hS7 y2
              by_cases hke : kk = d.data.length
              · rw [if_pos hke]
                subst hke
                have HKE : Hid (d.data.length = d.data.length) := rfl
                go_wp2_with fail
                refine (refSend_any HT7.out.rf d.D d.dc d.data (fun W hk => (HDO.out.rd.below HT7.out.bl).keepsLt hk HT7.out.bl.size (fun q hq h => by
                  have h0 := HT7.out.fr
                  rcases h with h | h
                  · omega
                  · have := HT7.out.fd.blk q h; omega)) (by omega) (by have := HF.out.sN; omega) h8).mono ?_
                rintro x w8 ⟨D8, d8, data8, ack8, rfl, hR8, hk8, hm8⟩
                rw [HKK.out] at hR8 ⊢
                have HT8 := Lib.hid (HT7.out.right hR8 hk8 (hm8.elim .inl (fun h => .inr (.inr h))))
                have hS8 : ∀ q, b0 ≤ q → ¬ Bl r D' q := fun q hq h => by
                  rcases h with h | h
                  · omega
                  · have := HMD.out _ h; omega
                have hO8 := HO7.out.keeps hk8 (fun q hq => hS8 q (by have h' : gg = q := Option.some.inj hq; omega))
                have u2 := (hk8.cell (p := ⟨b0, 2, none⟩) hbw7 (hS8 b0 (Nat.le_refl _))).trans v2
                have ux : w8.cell? ⟨gg, gq + d.data.length, none⟩ = some (.string ⟨#[120, 55]⟩) := Mem.Own.cell (j := d.data.length) hO8 (by simp)
                have HQ2 : Hid (∀ m, _) := fun m => words_quiet2 (w := w8) m d.data (some ⟨gg, gq, none⟩) d.D gc d.dc (Mem.Rd.left hO8.rd) ((HDO.out.rd.below HT8.out.bl).more HT8.out.bl.size) (by unfold maxLen; omega)
                have hHM : ∀ m, PMid w g r (costs (ds.take (k + 1))) (w8.drewN m) := fun m => ⟨A7, c7, D8, d8, data8, ack8, _, HT8.out.quiet ((Mem.Keeps.refl _ _).drewN m), (HF.out.sendTo d.data d.data.length hkl.2).mono (by rw [HTS.out]; omega)⟩
                have HM := Lib.hid hHM
                clear hR8 hk8 hm8 hS8 hO8 v2 hHM
                rw [show decide (d.data.length = d.data.length) = true by simp [HKE.out]]
                go_wp2
                go_quiet ((go_at_call 14; exact HQ2.out _))
                go_wp2
                go_meet
                case rel => exact HM.out _
              · rw [if_neg hke]
                have HKE := Lib.hid hke
                clear hke
                go_wp2_with fail
                refine (refSend_any HT7.out.rf d.D d.dc d.data (fun W hk => (HDO.out.rd.below HT7.out.bl).keepsLt hk HT7.out.bl.size (fun q hq h => by
                  have h0 := HT7.out.fr
                  rcases h with h | h
                  · omega
                  · have := HT7.out.fd.blk q h; omega)) (by omega) (by have := HF.out.sN; omega) h8).mono ?_
                rintro x w8 ⟨D8, d8, data8, ack8, rfl, hR8, hk8, hm8⟩
                rw [HKK.out] at hR8 ⊢
                have HT8 := Lib.hid (HT7.out.right hR8 hk8 (hm8.elim .inl (fun h => .inr (.inr h))))
                have hS8 : ∀ q, b0 ≤ q → ¬ Bl r D' q := fun q hq h => by
                  rcases h with h | h
                  · omega
                  · have := HMD.out _ h; omega
                have hO8 := HO7.out.keeps hk8 (fun q hq => hS8 q (by have h' : gg = q := Option.some.inj hq; omega))
                have u2 := (hk8.cell (p := ⟨b0, 2, none⟩) hbw7 (hS8 b0 (Nat.le_refl _))).trans v2
                have ux : w8.cell? ⟨gg, gq + d.data.length, none⟩ = some (.string ⟨#[120, 55]⟩) := Mem.Own.cell (j := d.data.length) hO8 (by simp)
                have HQ2 : Hid (∀ m, _) := fun m => words_quiet2 (w := w8) m d.data (some ⟨gg, gq, none⟩) d.D gc d.dc (Mem.Rd.left hO8.rd) ((HDO.out.rd.below HT8.out.bl).more HT8.out.bl.size) (by unfold maxLen; omega)
                have hHM : ∀ m, PMid w g r (costs (ds.take (k + 1))) (w8.drewN m) := fun m => ⟨A7, c7, D8, d8, data8, ack8, _, HT8.out.quiet ((Mem.Keeps.refl _ _).drewN m), (HF.out.sendTo d.data kk hkl.2).mono (by rw [HTS.out]; omega)⟩
                have HM := Lib.hid hHM
                clear hR8 hk8 hm8 hS8 hO8 v2 hHM
                rw [show decide (kk = d.data.length) = false by simp [HKE.out]]
                go_wp2
                go_quiet ((go_at_call 14; exact HQ2.out _))
                go_wp2
                go_meet
                case rel => exact HM.out _
            by_cases k2 : d.kind = 2
            · have d1 : (d.kind == 1) = false := by simp [k2]
              have d2 : (d.kind == 2) = true := by simp [k2]
              have h8 := HF.out.o8
              have HB4 := Lib.hid HT4.out.bl
              have HSZ2 := Lib.hid HT4.out.bl.size
              have hql : d.pks.length ≤ 2000 := by omega
              clear k1 k2
              go_upto_region 29 with (first
                | (at_builtin; refine Mem.wpList_clone _ rfl (.tmp 150) (.tmp 152) _ rfl packets_elem _ rfl _ _ d.Q d.pks.length d.qc (d.pks.flatMap pkCells) rfl ?_ rfl (Below.refl _ _) (Nat.le_refl _) (HDO.out.rq.below HB4.out |>.more HB4.out.size) (Mem.flat_length pkCells_length _) pks_one (by unfold maxLen; omega) (by omega); intro A1 c1 w5 hown hb5 hs5 hf5; have HO5 := Lib.hid hown; have HB5 := Lib.hid hb5; have HF5 := Lib.hid hf5; clear hown hb5 hf5)
                | (at_builtin; refine Mem.wpList_app _ rfl (.tmp 153) (.tmp 155) _ rfl packets_elem A1 d.pks.length c1 (d.pks.flatMap pkCells) rfl (w5.heap.size + 1) (some ⟨w5.heap.size, 0, none⟩) 1 1 (pkCells ⟨0, -77, 0, false, ByteArray.empty⟩) rfl ?_ (HO5.out.alloc _) (Mem.Rd.alloc_new _ _ _ _ rfl) rfl (by simp [Value.oneCell', pkCells]) (by unfold maxLen; omega) (by omega); intro G gc w6 hown hg6 hat; obtain ⟨gg, gq, rfl⟩ := hown.form (by omega); have hgc := hown.le; have HO6 := Lib.hid hown; have HG6 := Lib.hid hg6; have HAT := Lib.hid hat; clear hown hg6 hat))
              have hgg : w4.heap.size ≤ gg := by
                rcases HAT.out with h | h
                · exact HF5.out _ h.symm
                · have : gg = w5.heap.size + 1 ∧ gq = 0 := by simpa using h
                  have := HB5.out.size
                  omega
              have k6 : Mem.Keeps (fun _ => False) w4 w6 := Mem.Keeps.mono ((((Mem.Keeps.of_below HB5.out).mono (T := fun q => w4.heap.size ≤ q) (fun _ h _ => h.elim)).alloc (.cells (pkCells ⟨0, -77, 0, false, ByteArray.empty⟩).toArray 52)).grown HG6.out (fun q hq _ => HF5.out.blk q hq)) (fun q hq hl => by omega)
              have HT6 := Lib.hid (HT4.out.quiet k6)
              have hbw6 : b0 < w6.heap.size := Nat.lt_of_lt_of_le hbw k6.size
              have y3 := (k6.cell (p := ⟨b0, 3, none⟩) hbw (fun h => h)).trans z3
              have hgw6 : gg < w6.heap.size := HO6.out.lt rfl
              have hx77 : w6.cell? ⟨gg, gq + d.pks.length * 5 + 1, none⟩ = some (.int .i64 (-77)) := by
                have := Mem.Own.cell (j := d.pks.length * 5 + 1) HO6.out (u := .int .i64 (-77)) (by
                  rw [List.getElem?_append_right (by rw [Mem.flat_length pkCells_length]; omega), Mem.flat_length pkCells_length]
                  rw [show d.pks.length * 5 + 1 - d.pks.length * 5 = 1 by omega]; rfl)
                rwa [← Nat.add_assoc] at this
              have hns : ¬ (b0 = g ∨ b0 = r ∨ False) := by rintro (h | h | h) <;> first | omega | exact h
              have hng : ¬ (gg = g ∨ gg = r ∨ False) := by rintro (h | h | h) <;> first | omega | exact h
              have HRG := Lib.hid (Mem.Rd.left HO6.out.rd)
              have HRQ := Lib.hid ((HDO.out.rq.below HT6.out.bl))
              have HFG := Lib.hid HT6.out.fg
              have HFR := Lib.hid HT6.out.fr
              have HF6 := HF
              obtain ⟨s, hs⟩ : ∃ s, take e d.pks = s := ⟨_, rfl⟩
              have hsl : s.2.length ≤ 2000 := by have := Link.take_len e d.pks; rw [hs] at this; omega
              have HSS := Lib.hid hs
              have hq6 : ∀ q, q = g ∨ q = r ∨ False → w.heap.size ≤ q := by rintro q (h | h | h); (have := HFG.out; omega); (have := HFR.out; omega); exact h.elim
              have HQ6 := Lib.hid hq6
              clear hs k6 hq6
              go_wp2
              refine Reg.wp_region_w (by kernel_rfl) 209 34 rfl rfl (by kernel_rfl) (6) (fun q => q = g) (10) (fun q => q = r) (0) (fun _ => False)
                (fun i v u => match i with
                  | 0 => v = .pointer (some ⟨g, 0, none⟩)
                  | 1 => v = .slice (some ⟨gg, gq, none⟩) (d.pks.length + 1) gc
                  | 2 => v = .pointer (some ⟨b0, 3, none⟩)
                  | 3 => v = .slice d.Q d.pks.length d.qc
                  | 4 => v = .int .i64 ((d.pks.length : Nat) : Int)
                  | 5 => v = .slice (some ⟨gg, gq, none⟩) d.pks.length gc
                  | 6 => ∃ A2 O c2 oc, v = .slice O s.2.length oc ∧ At u g A2 c2 s.1 ∧ Mem.Own u 9 1 O s.2.length oc (s.2.map strV) ∧ Mem.From w6.heap.size O ∧ (Mem.blk A2 = Mem.blk A' ∨ Mem.blk A2 = none)
                  | 7 => v = .pointer (some ⟨r, 0, none⟩)
                  | 8 => v = .pointer (some ⟨b0, 3, none⟩)
                  | 9 => v = .slice d.Q d.pks.length d.qc
                  | 10 => ∃ D2 O c2 oc data2 ack2, v = .slice O s.2.length oc ∧ R u r D2 c2 s.1 data2 ack2 ∧ Mem.Own u 9 1 O s.2.length oc (s.2.map strV) ∧ Mem.From w6.heap.size O ∧ (Mem.blk D2 = Mem.blk D' ∨ Mem.blk D2 = none)
                  | 11 => v = .bool true
                  | 12 => v = .bool false
                  | 13 => v = .bool false
                  | 14 => v = .slice (some ⟨gg, gq, none⟩) (d.pks.length + 1) gc
                  | 15 => v = .pointer (some ⟨b0, 3, none⟩)
                  | 16 => v = .slice d.Q d.pks.length d.qc
                  | 17 => v = .int .i64 ((d.pks.length : Nat) : Int)
                  | 18 => v = .slice (some ⟨gg, gq, none⟩) d.pks.length gc
                  | 19 => v = .pointer (some ⟨b0, 3, none⟩)
                  | 20 => v = .slice d.Q d.pks.length d.qc
                  | 21 => v = .bool true
                  | 22 => v = .bool false
                  | 23 => v = .bool false
                  | 24 => v = .bool false
                  | 25 => v = .slice (some ⟨gg, gq, none⟩) (d.pks.length + 1) gc
                  | 26 => v = .pointer (some ⟨b0, 3, none⟩)
                  | 27 => v = .slice d.Q d.pks.length d.qc
                  | 28 => v = .int .i64 ((d.pks.length : Nat) : Int)
                  | 29 => v = .pointer (some ⟨gg, gq + d.pks.length * 5, none⟩)
                  | 30 => v = .pointer (some ⟨gg, gq + d.pks.length * 5 + 1, none⟩)
                  | 31 => v = .int .i64 (-77)
                  | 32 => v = .bool false
                  | 33 => v = .bool false
                  | _ => True) ?_ ?_
              · refine Reg.Steps.cons ?_ (Reg.Steps.cons ?_ (Reg.Steps.cons ?_ (Reg.Steps.cons ?_ (Reg.Steps.cons ?_ (Reg.Steps.cons ?_ (Reg.Steps.cons ?_ (Reg.Steps.cons ?_ (Reg.Steps.cons ?_ (Reg.Steps.cons ?_ (Reg.Steps.cons ?_ (Reg.Steps.cons ?_ (Reg.Steps.cons ?_ (Reg.Steps.cons ?_ (Reg.Steps.cons ?_ (Reg.Steps.cons ?_ (Reg.Steps.cons ?_ (Reg.Steps.cons ?_ (Reg.Steps.cons ?_ (Reg.Steps.cons ?_ (Reg.Steps.cons ?_ (Reg.Steps.cons ?_ (Reg.Steps.cons ?_ (Reg.Steps.cons ?_ (Reg.Steps.cons ?_ (Reg.Steps.cons ?_ (Reg.Steps.cons ?_ (Reg.Steps.cons ?_ (Reg.Steps.cons ?_ (Reg.Steps.cons ?_ (Reg.Steps.cons ?_ (Reg.Steps.cons ?_ (Reg.Steps.cons ?_ (Reg.Steps.cons ?_ (Reg.Steps.nil _))))))))))))))))))))))))))))))))))
                · intro val ac u hR hp ha K hK      -- 0: t157 := Op.move t8
                  have e8 : (ac.tmps[8]?).getD undef = .pointer (some ⟨g, 0, none⟩) := ha 8 (by decide)
                  clear ha hp
                  refine Reg.Op1.plain rfl ?_
                  go_wp2
                  exact ⟨rfl, hK _ _ rfl (Reg.Wr.same _)⟩
                · intro val ac u hR hp ha K hK      -- 1: t158 := Op.move t17
                  have e17 : (ac.tmps[17]?).getD undef = .slice (some ⟨gg, gq, none⟩) (d.pks.length + 1) gc := ha 17 (by decide)
                  clear ha hp
                  refine Reg.Op1.plain rfl ?_
                  go_wp2
                  exact ⟨rfl, hK _ _ rfl (Reg.Wr.same _)⟩
                · intro val ac u hR hp ha K hK      -- 2: t159 := Op.fieldAddr 42 t11 3
                  have e11 : (ac.tmps[11]?).getD undef = .pointer (some ⟨b0, 0, none⟩) := ha 11 (by decide)
                  clear ha hp
                  refine Reg.Op1.plain rfl ?_
                  go_wp2
                  exact ⟨rfl, hK _ _ rfl (Reg.Wr.same _)⟩
                · intro val ac u hR hp ha K hK      -- 3: t160 := Op.load 28 t159
                  obtain ⟨w159, h159, r159⟩ := hp 2 (by decide)
                  have e159 : (ac.tmps[159]?).getD undef = .pointer (some ⟨b0, 3, none⟩) := (ha 159 (by decide)).trans h159
                  clear h159
                  clear ha hp
                  refine Reg.Op1.plain rfl ?_
                  have x0 := (((Reg.Wr.all hR)).cell (p := ⟨b0, 3, none⟩) (hbw6) (hns)).trans (y3)
                  go_wp2
                  exact ⟨rfl, hK _ _ rfl (Reg.Wr.same _)⟩
                · intro val ac u hR hp ha K hK      -- 4: t161 := Op.call { builtin len, args := #[t160], argTypes := #[28] }
                  obtain ⟨w160, h160, r160⟩ := hp 3 (by decide)
                  have e160 : (ac.tmps[160]?).getD undef = .slice d.Q d.pks.length d.qc := (ha 160 (by decide)).trans h160
                  clear h160
                  clear ha hp
                  refine Reg.Op1.plain rfl ?_
                  go_wp2
                  exact ⟨rfl, hK _ _ rfl (Reg.Wr.same _)⟩
                · intro val ac u hR hp ha K hK      -- 5: t162 := Op.slice 28 t158 none (some t161) none
                  obtain ⟨w158, h158, r158⟩ := hp 1 (by decide)
                  have e158 : (ac.tmps[158]?).getD undef = .slice (some ⟨gg, gq, none⟩) (d.pks.length + 1) gc := (ha 158 (by decide)).trans h158
                  clear h158
                  obtain ⟨w161, h161, r161⟩ := hp 4 (by decide)
                  have e161 : (ac.tmps[161]?).getD undef = .int .i64 ((d.pks.length : Nat) : Int) := (ha 161 (by decide)).trans h161
                  clear h161
                  clear ha hp
                  refine Reg.Op1.plain rfl ?_
                  go_wp2
                  exact ⟨rfl, hK _ _ rfl (Reg.Wr.same _)⟩
                · intro val ac u hR hp ha K hK      -- 6: t163 := Op.call { value (Operand.func 12), args := #[t157, t162], argTypes := #[26, 28] }
                  obtain ⟨w157, h157, r157⟩ := hp 0 (by decide)
                  have e157 : (ac.tmps[157]?).getD undef = .pointer (some ⟨g, 0, none⟩) := (ha 157 (by decide)).trans h157
                  clear h157
                  obtain ⟨w162, h162, r162⟩ := hp 5 (by decide)
                  have e162 : (ac.tmps[162]?).getD undef = .slice (some ⟨gg, gq, none⟩) d.pks.length gc := (ha 162 (by decide)).trans h162
                  clear h162
                  clear ha hp
                  refine Reg.Op1.plain rfl ?_
                  have hq : Mem.Keeps (fun q => q = r ∨ False) w6 u := (Mem.Keeps.refl (fun q => q = r ∨ False) w6).drew.trans (Reg.Wr.not1 hR (by decide +kernel)) (fun _ h _ => h)
                  have hen := HT6.out.en.keeps hq (fun h => h.elim HT6.out.gr id) (fun q hq h => h.elim (fun h => HT6.out.ar (h ▸ hq)) id)
                  go_wp2_with fail
                  refine (take_any hen (some ⟨gg, gq, none⟩) gc d.pks (fun W hk => (HRG.out.keepsAt hq (Nat.le_refl _) (fun q h1 h => hng (by have h' : gg = q := Option.some.inj h1; subst h'; exact h.elim (fun h => .inr (.inl h)) (fun h => h.elim)))).keepsAt hk (Nat.le_refl _) (fun q h1 h => hng (by have h' : gg = q := Option.some.inj h1; subst h'; exact .inl h))) (by omega) HF6.out (by omega)).mono ?_
                  rw [TakeEnd_eq, HSS.out]
                  rintro x w' ⟨A2, O, c2, oc, rfl, hA2, hO2, hf2, hk2, hm2⟩
                  go_wp2_with fail
                  exact ⟨rfl, hK _ _ ⟨A2, O, c2, oc, rfl, hA2, hO2, hf2.mono hq.size, hm2⟩ (Reg.Wr.does1 hk2)⟩
                · intro val ac u hR hp ha K hK      -- 7: t164 := Op.move t9
                  have e9 : (ac.tmps[9]?).getD undef = .pointer (some ⟨r, 0, none⟩) := ha 9 (by decide)
                  clear ha hp
                  refine Reg.Op1.plain rfl ?_
                  go_wp2
                  exact ⟨rfl, hK _ _ rfl (Reg.Wr.same _)⟩
                · intro val ac u hR hp ha K hK      -- 8: t165 := Op.fieldAddr 42 t11 3
                  have e11 : (ac.tmps[11]?).getD undef = .pointer (some ⟨b0, 0, none⟩) := ha 11 (by decide)
                  clear ha hp
                  refine Reg.Op1.plain rfl ?_
                  go_wp2
                  exact ⟨rfl, hK _ _ rfl (Reg.Wr.same _)⟩
                · intro val ac u hR hp ha K hK      -- 9: t166 := Op.load 28 t165
                  obtain ⟨w165, h165, r165⟩ := hp 8 (by decide)
                  have e165 : (ac.tmps[165]?).getD undef = .pointer (some ⟨b0, 3, none⟩) := (ha 165 (by decide)).trans h165
                  clear h165
                  clear ha hp
                  refine Reg.Op1.plain rfl ?_
                  have x0 := (((Reg.Wr.all hR)).cell (p := ⟨b0, 3, none⟩) (hbw6) (hns)).trans (y3)
                  go_wp2
                  exact ⟨rfl, hK _ _ rfl (Reg.Wr.same _)⟩
                · intro val ac u hR hp ha K hK      -- 10: t167 := Op.call { value (Operand.func 23), args := #[t164, t166], argTypes := #[43, 28] }
                  obtain ⟨w164, h164, r164⟩ := hp 7 (by decide)
                  have e164 : (ac.tmps[164]?).getD undef = .pointer (some ⟨r, 0, none⟩) := (ha 164 (by decide)).trans h164
                  clear h164
                  obtain ⟨w166, h166, r166⟩ := hp 9 (by decide)
                  have e166 : (ac.tmps[166]?).getD undef = .slice d.Q d.pks.length d.qc := (ha 166 (by decide)).trans h166
                  clear h166
                  clear ha hp
                  refine Reg.Op1.plain rfl ?_
                  have hq : Mem.Keeps (fun q => q = g ∨ False) w6 u := (Mem.Keeps.refl (fun q => q = g ∨ False) w6).drew.trans (Reg.Wr.not2 hR (by decide +kernel)) (fun _ h _ => h)
                  have hen := HT6.out.rf.keeps hq (fun h => h.elim (fun h => HT6.out.gr h.symm) id) (fun q hq h => h.elim (fun h => HT6.out.dg (h ▸ hq)) id)
                  have hqa := hq.mono (T := fun q => q = g ∨ q = r ∨ False) (fun _ h _ => h.elim .inl (fun h => h.elim))
                  go_wp2_with fail
                  refine (refTake_any hen d.Q d.qc d.pks (fun W hk => (HRQ.out.keepsLt (hqa.trans (hk.mono (T := fun q => q = g ∨ q = r ∨ False) (fun _ h _ => .inr (.inl h))) (fun _ h _ => h)) HT6.out.bl.size (fun q h1 h => by have := HQ6.out q h; omega))) (by omega) HF6.out (by omega)).mono ?_
                  rw [RTakeEnd_eq, HSS.out]
                  rintro x w' ⟨D2, O, c2, oc, data2, ack2, rfl, hA2, hO2, hf2, hk2, hm2⟩
                  go_wp2_with fail
                  exact ⟨rfl, hK _ _ ⟨D2, O, c2, oc, data2, ack2, rfl, hA2, hO2, hf2.mono hq.size, hm2⟩ (Reg.Wr.does2 hk2)⟩
                · intro val ac u hR hp ha K hK      -- 11: t168 := Op.call { value (Operand.func 14), args := #[t163, t167], argTypes := #[29, 29] }
                  obtain ⟨w163, h163, r163⟩ := hp 6 (by decide)
                  have e163 : (ac.tmps[163]?).getD undef = val 6 := ha 163 (by decide)
                  obtain ⟨w167, h167, r167⟩ := hp 10 (by decide)
                  have e167 : (ac.tmps[167]?).getD undef = val 10 := ha 167 (by decide)
                  clear ha hp
                  refine Reg.Op1.plain rfl ?_
                  obtain ⟨_, O1, _, oc1, hv1, _, hO1, hf1, _⟩ := h163
                  obtain ⟨_, O2, _, oc2, _, _, hv2, _, hO2, hf2, _⟩ := h167
                  rw [hv1] at e163
                  rw [hv2] at e167
                  have hg6 := HT6.out.lt
                  have hO1' := hO1.keeps (Reg.Wr.all r163) (fun q h1 h => by have := hf1.blk q h1; rcases h with h | h | h; (have := hg6.1; omega); (have := hg6.2.1; omega); exact h)
                  have hO2' := hO2.keeps (Reg.Wr.all r167) (fun q h1 h => by have := hf2.blk q h1; rcases h with h | h | h; (have := hg6.1; omega); (have := hg6.2.1; omega); exact h)
                  go_wp2_with fail
                  refine (words_same s.2 O1 O2 oc1 oc2 hO1'.rd hO2'.rd (by unfold maxLen; omega)).mono ?_
                  rintro x w' ⟨rfl, hb⟩
                  go_wp2_with fail
                  exact ⟨rfl, hK _ _ rfl (Reg.Wr.below hb)⟩
                · intro val ac u hR hp ha K hK      -- 12: t169 := Op.unOp UnOp.not 4 t168
                  obtain ⟨w168, h168, r168⟩ := hp 11 (by decide)
                  have e168 : (ac.tmps[168]?).getD undef = .bool true := (ha 168 (by decide)).trans h168
                  clear h168
                  clear ha hp
                  refine Reg.Op1.plain rfl ?_
                  go_wp2
                  exact ⟨rfl, hK _ _ rfl (Reg.Wr.same _)⟩
                · intro val ac u hR hp ha K hK      -- 13: t170 := Op.move t169
                  obtain ⟨w169, h169, r169⟩ := hp 12 (by decide)
                  have e169 : (ac.tmps[169]?).getD undef = .bool false := (ha 169 (by decide)).trans h169
                  clear h169
                  clear ha hp
                  refine Reg.Op1.plain rfl ?_
                  go_wp2
                  exact ⟨rfl, hK _ _ rfl (Reg.Wr.same _)⟩
                · intro val ac u hR hp ha K hK      -- 14: t171 := Op.move t17
                  have e17 : (ac.tmps[17]?).getD undef = .slice (some ⟨gg, gq, none⟩) (d.pks.length + 1) gc := ha 17 (by decide)
                  obtain ⟨w170, h170, r170⟩ := hp 13 (by decide)
                  have e170 : (ac.tmps[170]?).getD undef = .bool false := (ha 170 (by decide)).trans h170
                  clear h170
                  clear ha hp
                  refine Reg.Op1.guarded rfl rfl e170 (fun _ => Reg.Op1.plain rfl ?_) (fun h => absurd rfl h)
                  go_wp2
                  exact ⟨rfl, hK _ _ rfl (Reg.Wr.same _)⟩
                · intro val ac u hR hp ha K hK      -- 15: t172 := Op.fieldAddr 42 t11 3
                  have e11 : (ac.tmps[11]?).getD undef = .pointer (some ⟨b0, 0, none⟩) := ha 11 (by decide)
                  obtain ⟨w170, h170, r170⟩ := hp 13 (by decide)
                  have e170 : (ac.tmps[170]?).getD undef = .bool false := (ha 170 (by decide)).trans h170
                  clear h170
                  clear ha hp
                  refine Reg.Op1.guarded rfl rfl e170 (fun _ => Reg.Op1.plain rfl ?_) (fun h => absurd rfl h)
                  go_wp2
                  exact ⟨rfl, hK _ _ rfl (Reg.Wr.same _)⟩
                · intro val ac u hR hp ha K hK      -- 16: t173 := Op.load 28 t172
                  obtain ⟨w172, h172, r172⟩ := hp 15 (by decide)
                  have e172 : (ac.tmps[172]?).getD undef = .pointer (some ⟨b0, 3, none⟩) := (ha 172 (by decide)).trans h172
                  clear h172
                  obtain ⟨w170, h170, r170⟩ := hp 13 (by decide)
                  have e170 : (ac.tmps[170]?).getD undef = .bool false := (ha 170 (by decide)).trans h170
                  clear h170
                  clear ha hp
                  refine Reg.Op1.guarded rfl rfl e170 (fun _ => Reg.Op1.plain rfl ?_) (fun h => absurd rfl h)
                  have x0 := (((Reg.Wr.all hR)).cell (p := ⟨b0, 3, none⟩) (hbw6) (hns)).trans (y3)
                  go_wp2
                  exact ⟨rfl, hK _ _ rfl (Reg.Wr.same _)⟩
                · intro val ac u hR hp ha K hK      -- 17: t174 := Op.call { builtin len, args := #[t173], argTypes := #[28] }
                  obtain ⟨w173, h173, r173⟩ := hp 16 (by decide)
                  have e173 : (ac.tmps[173]?).getD undef = .slice d.Q d.pks.length d.qc := (ha 173 (by decide)).trans h173
                  clear h173
                  obtain ⟨w170, h170, r170⟩ := hp 13 (by decide)
                  have e170 : (ac.tmps[170]?).getD undef = .bool false := (ha 170 (by decide)).trans h170
                  clear h170
                  clear ha hp
                  refine Reg.Op1.guarded rfl rfl e170 (fun _ => Reg.Op1.plain rfl ?_) (fun h => absurd rfl h)
                  go_wp2
                  exact ⟨rfl, hK _ _ rfl (Reg.Wr.same _)⟩
                · intro val ac u hR hp ha K hK      -- 18: t175 := Op.slice 28 t171 none (some t174) none
                  obtain ⟨w171, h171, r171⟩ := hp 14 (by decide)
                  have e171 : (ac.tmps[171]?).getD undef = .slice (some ⟨gg, gq, none⟩) (d.pks.length + 1) gc := (ha 171 (by decide)).trans h171
                  clear h171
                  obtain ⟨w174, h174, r174⟩ := hp 17 (by decide)
                  have e174 : (ac.tmps[174]?).getD undef = .int .i64 ((d.pks.length : Nat) : Int) := (ha 174 (by decide)).trans h174
                  clear h174
                  obtain ⟨w170, h170, r170⟩ := hp 13 (by decide)
                  have e170 : (ac.tmps[170]?).getD undef = .bool false := (ha 170 (by decide)).trans h170
                  clear h170
                  clear ha hp
                  refine Reg.Op1.guarded rfl rfl e170 (fun _ => Reg.Op1.plain rfl ?_) (fun h => absurd rfl h)
                  go_wp2
                  exact ⟨rfl, hK _ _ rfl (Reg.Wr.same _)⟩
                · intro val ac u hR hp ha K hK      -- 19: t176 := Op.fieldAddr 42 t11 3
                  have e11 : (ac.tmps[11]?).getD undef = .pointer (some ⟨b0, 0, none⟩) := ha 11 (by decide)
                  obtain ⟨w170, h170, r170⟩ := hp 13 (by decide)
                  have e170 : (ac.tmps[170]?).getD undef = .bool false := (ha 170 (by decide)).trans h170
                  clear h170
                  clear ha hp
                  refine Reg.Op1.guarded rfl rfl e170 (fun _ => Reg.Op1.plain rfl ?_) (fun h => absurd rfl h)
                  go_wp2
                  exact ⟨rfl, hK _ _ rfl (Reg.Wr.same _)⟩
                · intro val ac u hR hp ha K hK      -- 20: t177 := Op.load 28 t176
                  obtain ⟨w176, h176, r176⟩ := hp 19 (by decide)
                  have e176 : (ac.tmps[176]?).getD undef = .pointer (some ⟨b0, 3, none⟩) := (ha 176 (by decide)).trans h176
                  clear h176
                  obtain ⟨w170, h170, r170⟩ := hp 13 (by decide)
                  have e170 : (ac.tmps[170]?).getD undef = .bool false := (ha 170 (by decide)).trans h170
                  clear h170
                  clear ha hp
                  refine Reg.Op1.guarded rfl rfl e170 (fun _ => Reg.Op1.plain rfl ?_) (fun h => absurd rfl h)
                  have x0 := (((Reg.Wr.all hR)).cell (p := ⟨b0, 3, none⟩) (hbw6) (hns)).trans (y3)
                  go_wp2
                  exact ⟨rfl, hK _ _ rfl (Reg.Wr.same _)⟩
                · intro val ac u hR hp ha K hK      -- 21: t178 := Op.call { value (Operand.func 24), args := #[t175, t177], argTypes := #[28, 28] }
                  obtain ⟨w175, h175, r175⟩ := hp 18 (by decide)
                  have e175 : (ac.tmps[175]?).getD undef = .slice (some ⟨gg, gq, none⟩) d.pks.length gc := (ha 175 (by decide)).trans h175
                  clear h175
                  obtain ⟨w177, h177, r177⟩ := hp 20 (by decide)
                  have e177 : (ac.tmps[177]?).getD undef = .slice d.Q d.pks.length d.qc := (ha 177 (by decide)).trans h177
                  clear h177
                  obtain ⟨w170, h170, r170⟩ := hp 13 (by decide)
                  have e170 : (ac.tmps[170]?).getD undef = .bool false := (ha 170 (by decide)).trans h170
                  clear h170
                  clear ha hp
                  refine Reg.Op1.guarded rfl rfl e170 (fun _ => Reg.Op1.plain rfl ?_) (fun h => absurd rfl h)
                  have hqa : Mem.Keeps (fun q => q = g ∨ q = r ∨ False) w6 u := (Mem.Keeps.refl (fun q => q = g ∨ q = r ∨ False) w6).drew.trans (Reg.Wr.all hR) (fun _ h _ => h)
                  go_wp2_with fail
                  refine (packets_same d.pks (some ⟨gg, gq, none⟩) d.Q gc d.qc (HRG.out.keepsAt hqa (Nat.le_refl _) (fun q h1 h => hng (by have h' : gg = q := Option.some.inj h1; subst h'; exact h))) (HRQ.out.keepsLt hqa HT6.out.bl.size (fun q h1 h => by have := HQ6.out q h; omega)) (by unfold maxLen; omega)).mono ?_
                  rintro x w' ⟨rfl, hb⟩
                  go_wp2_with fail
                  exact ⟨rfl, hK _ _ rfl (Reg.Wr.below hb)⟩
                · intro val ac u hR hp ha K hK      -- 22: t179 := Op.unOp UnOp.not 4 t178
                  obtain ⟨w178, h178, r178⟩ := hp 21 (by decide)
                  have e178 : (ac.tmps[178]?).getD undef = .bool true := (ha 178 (by decide)).trans h178
                  clear h178
                  obtain ⟨w170, h170, r170⟩ := hp 13 (by decide)
                  have e170 : (ac.tmps[170]?).getD undef = .bool false := (ha 170 (by decide)).trans h170
                  clear h170
                  clear ha hp
                  refine Reg.Op1.guarded rfl rfl e170 (fun _ => Reg.Op1.plain rfl ?_) (fun h => absurd rfl h)
                  go_wp2
                  exact ⟨rfl, hK _ _ rfl (Reg.Wr.same _)⟩
                · intro val ac u hR hp ha K hK      -- 23: t180 := Op.pick t170 (const (Value.bool true)) t179
                  obtain ⟨w170, h170, r170⟩ := hp 13 (by decide)
                  have e170 : (ac.tmps[170]?).getD undef = .bool false := (ha 170 (by decide)).trans h170
                  clear h170
                  obtain ⟨w179, h179, r179⟩ := hp 22 (by decide)
                  have e179 : (ac.tmps[179]?).getD undef = .bool false := (ha 179 (by decide)).trans h179
                  clear h179
                  clear ha hp
                  refine Reg.Op1.plain rfl ?_
                  go_wp2
                  exact ⟨rfl, hK _ _ rfl (Reg.Wr.same _)⟩
                · intro val ac u hR hp ha K hK      -- 24: t181 := Op.move t180
                  obtain ⟨w180, h180, r180⟩ := hp 23 (by decide)
                  have e180 : (ac.tmps[180]?).getD undef = .bool false := (ha 180 (by decide)).trans h180
                  clear h180
                  clear ha hp
                  refine Reg.Op1.plain rfl ?_
                  go_wp2
                  exact ⟨rfl, hK _ _ rfl (Reg.Wr.same _)⟩
                · intro val ac u hR hp ha K hK      -- 25: t182 := Op.move t17
                  have e17 : (ac.tmps[17]?).getD undef = .slice (some ⟨gg, gq, none⟩) (d.pks.length + 1) gc := ha 17 (by decide)
                  obtain ⟨w181, h181, r181⟩ := hp 24 (by decide)
                  have e181 : (ac.tmps[181]?).getD undef = .bool false := (ha 181 (by decide)).trans h181
                  clear h181
                  clear ha hp
                  refine Reg.Op1.guarded rfl rfl e181 (fun _ => Reg.Op1.plain rfl ?_) (fun h => absurd rfl h)
                  go_wp2
                  exact ⟨rfl, hK _ _ rfl (Reg.Wr.same _)⟩
                · intro val ac u hR hp ha K hK      -- 26: t183 := Op.fieldAddr 42 t11 3
                  have e11 : (ac.tmps[11]?).getD undef = .pointer (some ⟨b0, 0, none⟩) := ha 11 (by decide)
                  obtain ⟨w181, h181, r181⟩ := hp 24 (by decide)
                  have e181 : (ac.tmps[181]?).getD undef = .bool false := (ha 181 (by decide)).trans h181
                  clear h181
                  clear ha hp
                  refine Reg.Op1.guarded rfl rfl e181 (fun _ => Reg.Op1.plain rfl ?_) (fun h => absurd rfl h)
                  go_wp2
                  exact ⟨rfl, hK _ _ rfl (Reg.Wr.same _)⟩
                · intro val ac u hR hp ha K hK      -- 27: t184 := Op.load 28 t183
                  obtain ⟨w183, h183, r183⟩ := hp 26 (by decide)
                  have e183 : (ac.tmps[183]?).getD undef = .pointer (some ⟨b0, 3, none⟩) := (ha 183 (by decide)).trans h183
                  clear h183
                  obtain ⟨w181, h181, r181⟩ := hp 24 (by decide)
                  have e181 : (ac.tmps[181]?).getD undef = .bool false := (ha 181 (by decide)).trans h181
                  clear h181
                  clear ha hp
                  refine Reg.Op1.guarded rfl rfl e181 (fun _ => Reg.Op1.plain rfl ?_) (fun h => absurd rfl h)
                  have x0 := (((Reg.Wr.all hR)).cell (p := ⟨b0, 3, none⟩) (hbw6) (hns)).trans (y3)
                  go_wp2
                  exact ⟨rfl, hK _ _ rfl (Reg.Wr.same _)⟩
                · intro val ac u hR hp ha K hK      -- 28: t185 := Op.call { builtin len, args := #[t184], argTypes := #[28] }
                  obtain ⟨w184, h184, r184⟩ := hp 27 (by decide)
                  have e184 : (ac.tmps[184]?).getD undef = .slice d.Q d.pks.length d.qc := (ha 184 (by decide)).trans h184
                  clear h184
                  obtain ⟨w181, h181, r181⟩ := hp 24 (by decide)
                  have e181 : (ac.tmps[181]?).getD undef = .bool false := (ha 181 (by decide)).trans h181
                  clear h181
                  clear ha hp
                  refine Reg.Op1.guarded rfl rfl e181 (fun _ => Reg.Op1.plain rfl ?_) (fun h => absurd rfl h)
                  go_wp2
                  exact ⟨rfl, hK _ _ rfl (Reg.Wr.same _)⟩
                · intro val ac u hR hp ha K hK      -- 29: t186 := Op.indexAddr 28 t182 t185
                  obtain ⟨w182, h182, r182⟩ := hp 25 (by decide)
                  have e182 : (ac.tmps[182]?).getD undef = .slice (some ⟨gg, gq, none⟩) (d.pks.length + 1) gc := (ha 182 (by decide)).trans h182
                  clear h182
                  obtain ⟨w185, h185, r185⟩ := hp 28 (by decide)
                  have e185 : (ac.tmps[185]?).getD undef = .int .i64 ((d.pks.length : Nat) : Int) := (ha 185 (by decide)).trans h185
                  clear h185
                  obtain ⟨w181, h181, r181⟩ := hp 24 (by decide)
                  have e181 : (ac.tmps[181]?).getD undef = .bool false := (ha 181 (by decide)).trans h181
                  clear h181
                  clear ha hp
                  refine Reg.Op1.guarded rfl rfl e181 (fun _ => Reg.Op1.plain rfl ?_) (fun h => absurd rfl h)
                  go_wp2
                  exact ⟨rfl, hK _ _ rfl (Reg.Wr.same _)⟩
                · intro val ac u hR hp ha K hK      -- 30: t187 := Op.fieldAddr 52 t186 1
                  obtain ⟨w186, h186, r186⟩ := hp 29 (by decide)
                  have e186 : (ac.tmps[186]?).getD undef = .pointer (some ⟨gg, gq + d.pks.length * 5, none⟩) := (ha 186 (by decide)).trans h186
                  clear h186
                  obtain ⟨w181, h181, r181⟩ := hp 24 (by decide)
                  have e181 : (ac.tmps[181]?).getD undef = .bool false := (ha 181 (by decide)).trans h181
                  clear h181
                  clear ha hp
                  refine Reg.Op1.guarded rfl rfl e181 (fun _ => Reg.Op1.plain rfl ?_) (fun h => absurd rfl h)
                  go_wp2
                  exact ⟨rfl, hK _ _ rfl (Reg.Wr.same _)⟩
                · intro val ac u hR hp ha K hK      -- 31: t188 := Op.load 3 t187
                  obtain ⟨w187, h187, r187⟩ := hp 30 (by decide)
                  have e187 : (ac.tmps[187]?).getD undef = .pointer (some ⟨gg, gq + d.pks.length * 5 + 1, none⟩) := (ha 187 (by decide)).trans h187
                  clear h187
                  obtain ⟨w181, h181, r181⟩ := hp 24 (by decide)
                  have e181 : (ac.tmps[181]?).getD undef = .bool false := (ha 181 (by decide)).trans h181
                  clear h181
                  clear ha hp
                  refine Reg.Op1.guarded rfl rfl e181 (fun _ => Reg.Op1.plain rfl ?_) (fun h => absurd rfl h)
                  have x0 := (((Reg.Wr.all hR)).cell (p := ⟨gg, gq + d.pks.length * 5 + 1, none⟩) (hgw6) (hng)).trans (hx77)
                  go_wp2
                  exact ⟨rfl, hK _ _ rfl (Reg.Wr.same _)⟩
                · intro val ac u hR hp ha K hK      -- 32: t189 := Op.binOp BinOp.neq 3 t188 (const (Value.int IntKind.i64 (-77))) 3
                  obtain ⟨w188, h188, r188⟩ := hp 31 (by decide)
                  have e188 : (ac.tmps[188]?).getD undef = .int .i64 (-77) := (ha 188 (by decide)).trans h188
                  clear h188
                  obtain ⟨w181, h181, r181⟩ := hp 24 (by decide)
                  have e181 : (ac.tmps[181]?).getD undef = .bool false := (ha 181 (by decide)).trans h181
                  clear h181
                  clear ha hp
                  refine Reg.Op1.guarded rfl rfl e181 (fun _ => Reg.Op1.plain rfl ?_) (fun h => absurd rfl h)
                  go_wp2
                  exact ⟨rfl, hK _ _ rfl (Reg.Wr.same _)⟩
                · intro val ac u hR hp ha K hK      -- 33: t190 := Op.pick t181 (const (Value.bool true)) t189
                  obtain ⟨w181, h181, r181⟩ := hp 24 (by decide)
                  have e181 : (ac.tmps[181]?).getD undef = .bool false := (ha 181 (by decide)).trans h181
                  clear h181
                  obtain ⟨w189, h189, r189⟩ := hp 32 (by decide)
                  have e189 : (ac.tmps[189]?).getD undef = .bool false := (ha 189 (by decide)).trans h189
                  clear h189
                  clear ha hp
                  refine Reg.Op1.plain rfl ?_
                  go_wp2
                  exact ⟨rfl, hK _ _ rfl (Reg.Wr.same _)⟩
              · intro val u hR H
                obtain ⟨wA, ⟨A2, _, c2, _, _, hA2, _, _, hm1⟩, rA⟩ := H 6 (by decide)
                obtain ⟨wB, ⟨D2, _, dd2, _, data2, ack2, _, hD2, _, _, hm2⟩, rB⟩ := H 10 (by decide)
                obtain ⟨wC, hv, _⟩ := H 33 (by decide)
                have hv : val 33 = .bool false := hv
                have hgr := HT6.out.gr
                have hA3 := hA2.keeps (Reg.Wr.not1 rA (by decide +kernel)) (fun h => h.elim hgr id) (fun q hq h => h.elim (fun h => by
                  subst h
                  rcases hm1 with e1 | e1
                  · exact HT6.out.ar (e1 ▸ hq)
                  · rw [e1] at hq; cases hq) id)
                have hD3 := hD2.keeps (Reg.Wr.not2 rB (by decide +kernel)) (fun h => h.elim (fun h => hgr h.symm) id) (fun q hq h => h.elim (fun h => by
                  subst h
                  rcases hm2 with e1 | e1
                  · exact HT6.out.dg (e1 ▸ hq)
                  · rw [e1] at hq; cases hq) id)
                have HM : Hid (PMid w g r (costs (ds.take (k + 1))) u) := ⟨A2, c2, D2, dd2, data2, ack2, s.1, HT6.out.both hA3 hD3 ((Mem.Keeps.refl (fun q => q = g ∨ q = r ∨ False) w6).drew.trans (Reg.Wr.all hR) (fun _ h _ => h)) hm1 hm2, by have := HF6.out.take d.pks; rw [HSS.out] at this; exact this.mono (by rw [HTS.out]; omega)⟩
                simp only [List.map_cons, List.map_nil, Reg.lay, Act.put, List.setIfInBounds_toArray, List.set_cons_succ, List.set_cons_zero, Nat.reduceAdd, hv]
                clear hv hR H hA3 hD3 hA2 hD2 rA rB
                go_wp2
                go_meet
                case rel => exact HM.out
            by_cases k3 : d.kind = 3
            · have d1 : (d.kind == 1) = false := by simp [k3]
              have d2 : (d.kind == 2) = false := by simp [k3]
              have d3 : (d.kind == 3) = true := by simp [k3]
              have hns : ¬ (b0 = g ∨ b0 = r ∨ False) := by rintro (h | h | h) <;> first | omega | exact h
              clear k1 k2 k3
              go_wp2
              refine Reg.wp_region_w (by kernel_rfl) 209 9 rfl rfl (by kernel_rfl) (3) (fun q => q = g) (7) (fun q => q = r) (0) (fun _ => False)
                (fun i v u => match i with
                  | 0 => v = .pointer (some ⟨g, 0, none⟩)
                  | 1 => v = .pointer (some ⟨b0, 1, none⟩)
                  | 2 => v = .int .i64 d.n
                  | 3 => ∃ A2 c2, v = .bool (decide (e.life < d.n)) ∧ At u g A2 c2 (renew e d.n) ∧ (Mem.blk A2 = Mem.blk A' ∨ Mem.blk A2 = none)
                  | 4 => v = .pointer (some ⟨r, 0, none⟩)
                  | 5 => v = .pointer (some ⟨b0, 1, none⟩)
                  | 6 => v = .int .i64 d.n
                  | 7 => ∃ D2 d2 data2 ack2, v = .bool (decide (e.life < d.n)) ∧ R u r D2 d2 (renew e d.n) data2 ack2 ∧ (Mem.blk D2 = Mem.blk D' ∨ Mem.blk D2 = none)
                  | 8 => v = .bool false
                  | _ => True) ?_ ?_
              · refine Reg.Steps.cons ?_ (Reg.Steps.cons ?_ (Reg.Steps.cons ?_ (Reg.Steps.cons ?_ (Reg.Steps.cons ?_ (Reg.Steps.cons ?_ (Reg.Steps.cons ?_ (Reg.Steps.cons ?_ (Reg.Steps.cons ?_ (Reg.Steps.nil _)))))))))
                · intro val ac u hR hp ha K hK      -- 0: t193 := Op.move t8
                  have e8 : (ac.tmps[8]?).getD undef = .pointer (some ⟨g, 0, none⟩) := ha 8 (by decide)
                  clear ha hp
                  refine Reg.Op1.plain rfl ?_
                  go_wp2
                  exact ⟨rfl, hK _ _ rfl (Reg.Wr.same _)⟩
                · intro val ac u hR hp ha K hK      -- 1: t194 := Op.fieldAddr 42 t11 1
                  have e11 : (ac.tmps[11]?).getD undef = .pointer (some ⟨b0, 0, none⟩) := ha 11 (by decide)
                  clear ha hp
                  refine Reg.Op1.plain rfl ?_
                  go_wp2
                  exact ⟨rfl, hK _ _ rfl (Reg.Wr.same _)⟩
                · intro val ac u hR hp ha K hK      -- 2: t195 := Op.load 3 t194
                  obtain ⟨w194, h194, r194⟩ := hp 1 (by decide)
                  have e194 : (ac.tmps[194]?).getD undef = .pointer (some ⟨b0, 1, none⟩) := (ha 194 (by decide)).trans h194
                  clear h194
                  clear ha hp
                  refine Reg.Op1.plain rfl ?_
                  have x0 := (((Reg.Wr.all hR)).cell (p := ⟨b0, 1, none⟩) (hbw) (hns)).trans (z1)
                  go_wp2
                  exact ⟨rfl, hK _ _ rfl (Reg.Wr.same _)⟩
                · intro val ac u hR hp ha K hK      -- 3: t196 := Op.call { value (Operand.func 20), args := #[t193, t195], argTypes := #[26, 3] }
                  obtain ⟨w193, h193, r193⟩ := hp 0 (by decide)
                  have e193 : (ac.tmps[193]?).getD undef = .pointer (some ⟨g, 0, none⟩) := (ha 193 (by decide)).trans h193
                  clear h193
                  obtain ⟨w195, h195, r195⟩ := hp 2 (by decide)
                  have e195 : (ac.tmps[195]?).getD undef = .int .i64 d.n := (ha 195 (by decide)).trans h195
                  clear h195
                  clear ha hp
                  refine Reg.Op1.plain rfl ?_
                  have hq : Mem.Keeps (fun q => q = r ∨ False) w4 u := (Mem.Keeps.refl (fun q => q = r ∨ False) w4).drew.trans (Reg.Wr.not1 hR (by decide +kernel)) (fun _ h _ => h)
                  have hen := HT4.out.en.keeps hq (fun h => h.elim HT4.out.gr id) (fun q hq h => h.elim (fun h => HT4.out.ar (h ▸ hq)) id)
                  go_wp2_with fail
                  refine (renew_any hen d.n).mono ?_
                  rintro x w' ⟨A2, c2, rfl, hA2, hk2, hm2⟩
                  go_wp2_with fail
                  exact ⟨rfl, hK _ _ ⟨A2, c2, rfl, hA2, by rcases hm2 with rfl | rfl; exact .inl rfl; exact .inr rfl⟩ (Reg.Wr.does1 hk2)⟩
                · intro val ac u hR hp ha K hK      -- 4: t197 := Op.move t9
                  have e9 : (ac.tmps[9]?).getD undef = .pointer (some ⟨r, 0, none⟩) := ha 9 (by decide)
                  clear ha hp
                  refine Reg.Op1.plain rfl ?_
                  go_wp2
                  exact ⟨rfl, hK _ _ rfl (Reg.Wr.same _)⟩
                · intro val ac u hR hp ha K hK      -- 5: t198 := Op.fieldAddr 42 t11 1
                  have e11 : (ac.tmps[11]?).getD undef = .pointer (some ⟨b0, 0, none⟩) := ha 11 (by decide)
                  clear ha hp
                  refine Reg.Op1.plain rfl ?_
                  go_wp2
                  exact ⟨rfl, hK _ _ rfl (Reg.Wr.same _)⟩
                · intro val ac u hR hp ha K hK      -- 6: t199 := Op.load 3 t198
                  obtain ⟨w198, h198, r198⟩ := hp 5 (by decide)
                  have e198 : (ac.tmps[198]?).getD undef = .pointer (some ⟨b0, 1, none⟩) := (ha 198 (by decide)).trans h198
                  clear h198
                  clear ha hp
                  refine Reg.Op1.plain rfl ?_
                  have x0 := (((Reg.Wr.all hR)).cell (p := ⟨b0, 1, none⟩) (hbw) (hns)).trans (z1)
                  go_wp2
                  exact ⟨rfl, hK _ _ rfl (Reg.Wr.same _)⟩
                · intro val ac u hR hp ha K hK      -- 7: t200 := Op.call { value (Operand.func 25), args := #[t197, t199], argTypes := #[43, 3] }
                  obtain ⟨w197, h197, r197⟩ := hp 4 (by decide)
                  have e197 : (ac.tmps[197]?).getD undef = .pointer (some ⟨r, 0, none⟩) := (ha 197 (by decide)).trans h197
                  clear h197
                  obtain ⟨w199, h199, r199⟩ := hp 6 (by decide)
                  have e199 : (ac.tmps[199]?).getD undef = .int .i64 d.n := (ha 199 (by decide)).trans h199
                  clear h199
                  clear ha hp
                  refine Reg.Op1.plain rfl ?_
                  have hq : Mem.Keeps (fun q => q = g ∨ False) w4 u := (Mem.Keeps.refl (fun q => q = g ∨ False) w4).drew.trans (Reg.Wr.not2 hR (by decide +kernel)) (fun _ h _ => h)
                  have hen := HT4.out.rf.keeps hq (fun h => h.elim (fun h => HT4.out.gr h.symm) id) (fun q hq h => h.elim (fun h => HT4.out.dg (h ▸ hq)) id)
                  go_wp2_with fail
                  refine (refRenew_any hen d.n).mono ?_
                  rintro x w' ⟨D2, d2, data2, ack2, rfl, hA2, hk2, hm2⟩
                  go_wp2_with fail
                  exact ⟨rfl, hK _ _ ⟨D2, d2, data2, ack2, rfl, hA2, by rcases hm2 with rfl | rfl; exact .inl rfl; exact .inr rfl⟩ (Reg.Wr.does2 hk2)⟩
                · intro val ac u hR hp ha K hK      -- 8: t201 := Op.binOp BinOp.neq 4 t196 t200 4
                  obtain ⟨w196, h196, r196⟩ := hp 3 (by decide)
                  have e196 : (ac.tmps[196]?).getD undef = val 3 := ha 196 (by decide)
                  obtain ⟨w200, h200, r200⟩ := hp 7 (by decide)
                  have e200 : (ac.tmps[200]?).getD undef = val 7 := ha 200 (by decide)
                  clear ha hp
                  refine Reg.Op1.plain rfl ?_
                  obtain ⟨_, _, hv1, _⟩ := h196
                  obtain ⟨_, _, _, _, hv2, _⟩ := h200
                  rw [hv1] at e196
                  rw [hv2] at e200
                  go_wp2
                  exact ⟨rfl, hK _ _ rfl (Reg.Wr.same _)⟩
              · intro val u hR H
                obtain ⟨wA, ⟨A2, c2, _, hA2, hm1⟩, rA⟩ := H 3 (by decide)
                obtain ⟨wB, ⟨D2, dd2, data2, ack2, _, hD2, hm2⟩, rB⟩ := H 7 (by decide)
                obtain ⟨wC, hv, _⟩ := H 8 (by decide)
                have hv : val 8 = .bool false := hv
                have hgr := HT4.out.gr
                have hA3 := hA2.keeps (Reg.Wr.not1 rA (by decide +kernel)) (fun h => h.elim hgr id) (fun q hq h => h.elim (fun h => by
                  subst h
                  rcases hm1 with e1 | e1
                  · exact HT4.out.ar (e1 ▸ hq)
                  · rw [e1] at hq; cases hq) id)
                have hD3 := hD2.keeps (Reg.Wr.not2 rB (by decide +kernel)) (fun h => h.elim (fun h => hgr h.symm) id) (fun q hq h => h.elim (fun h => by
                  subst h
                  rcases hm2 with e1 | e1
                  · exact HT4.out.dg (e1 ▸ hq)
                  · rw [e1] at hq; cases hq) id)
                have HM : Hid (PMid w g r (costs (ds.take (k + 1))) u) := ⟨A2, c2, D2, dd2, data2, ack2, _, HT4.out.both hA3 hD3 ((Mem.Keeps.refl (fun q => q = g ∨ q = r ∨ False) w4).drew.trans (Reg.Wr.all hR) (fun _ h _ => h)) hm1 hm2, (HF.out.renew d.n).mono (by rw [HTS.out]; omega)⟩
                simp only [List.map_cons, List.map_nil, Reg.lay, Act.put, List.setIfInBounds_toArray, List.set_cons_succ, List.set_cons_zero, Nat.reduceAdd, hv]
                clear hv hR H hA3 hD3 hA2 hD2 rA rB
                go_wp2
                go_meet
                case rel => exact HM.out
            · obtain ⟨d1, d2, d3⟩ := kinds k1 k2 k3
              have HM : Hid (PMid w g r (costs (ds.take (k + 1))) w4) := ⟨A', c', D', d', data', ack', e, HT4, HF.out.mono (by rw [HTS.out]; omega)⟩
              clear k1 k2 k3
              go_wp2
              go_meet
              case rel => exact HM.out
          case rest =>
            obtain ⟨A3, c3, D3, dd3, data3, ack3, e3, HT3, HF3⟩ := hcut
            have hc2 : costs (ds.take (k + 1)) ≤ 2000 := by rw [HTS.out]; omega
            have HB3 := Lib.hid HT3.out.bl
            go_wp2_with fail
            refine (looks_any HT3.out.en HT3.out.rf (by have := HF3.out.sN; omega) HF3.out.o8).mono ?_
            rintro x w9 ⟨rfl, hb9⟩
            have hrel : PRel w g r ds (.int .i64 ((k : Int) + 1)) w9 := ⟨⟨k + 1, A3, c3, D3, dd3, data3, ack3, e3, by omega, by go_num, HT3.out.below hb9, HF3⟩⟩
            have HREL := Lib.hid hrel
            clear hb9 hrel
            go_wp2
            go_roundw
            case rel => exact HREL.out
            case measure => simp [intOf]; omega
        · obtain rfl : k = ds.length := by omega
          have HC2 := HC.out
          go_wp2_with fail
          refine (looks_any HT.out.en HT.out.rf (by have := HF.out.sN; rw [List.take_length] at this; omega) HF.out.o8).mono ?_
          rintro x w9 ⟨rfl, hb9⟩
          have HB9 := Lib.hid (HBL.out.trans (hb9.mono HBL.out.size))
          clear hb9
          go_wp2
          go_ret
          exact ⟨rfl, HB9.out⟩
theorem opened {H : Type} (enc : TypeId × Value → H) (W : World) (base : Nat) (v0 v1 : Value) {d0 d1 : DataW H} {p0 p1 : List MemPlace}
    (o0 : Value.okWide Try.prog W .any base 3 v0) (o1 : Value.okWide Try.prog W .any base 40 v1)
    (k0 : DataW.Trod enc Try.prog W 0 (fun _ => true) true 3 v0 d0 p0) (k1 : DataW.Trod enc Try.prog W 0 (fun _ => true) true 40 v1 d1 p1)
    (z0 : (d0.weights Try.prog 3).all (· ≤ reachBytes) = true) (z1 : (d1.weights Try.prog 40).all (· ≤ reachBytes) = true) :
    Calls Try.prog 6 #[v0, v1] W fun e w' => e = .returned (.bool true) ∧ Below W.heap.size W w' := by
  obtain ⟨a0, rfl, rfl, rfl, w0⟩ := open_int Try.underlying3 o0 k0
  obtain ⟨A, c, ds, rfl, h1, h2, h3, h4⟩ := open_deeds o1 k1 z1
  exact walk a0 A c ds W h3 (by omega) h4
end linkPlaysOpen
end Go.Proofs.Ytjkonfanmpcipaa
