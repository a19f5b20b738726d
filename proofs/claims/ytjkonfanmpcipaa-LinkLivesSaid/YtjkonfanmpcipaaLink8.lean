/- The walk of LinkWindow. No conditions. -/
import Derived.Test.YtjkonfanmpcipaaLink7
import Derived.Deep.DeepCutAuto
import Derived.Deep.CutBlock
namespace Go.Proofs.Ytjkonfanmpcipaa
open Go.ChangeShapes Go.WideShapes Go.ChangeAt Go.RowKit
set_option linter.unusedVariables false

theorem quiet_open {w : World} {g : Nat} {life sent got : Int} {A : Option Addr} {n c : Nat} (h : Link.Cell w g life sent got A n c) (m : Nat) :
    Calls Try.prog 15 #[.pointer (some ⟨g, 0, none⟩)] (w.drewN m) fun e w' => e = .returned (.int .i64 n) ∧ ∃ m, w' = w.drewN m :=
  (open_any (w := w.drewN m) h).mono fun _ _ h => ⟨h.1, m, h.2.symm⟩
theorem quiet_sent {w : World} {g : Nat} {life sent got : Int} {A : Option Addr} {n c : Nat} (h : Link.Cell w g life sent got A n c) (m : Nat) :
    Calls Try.prog 18 #[.pointer (some ⟨g, 0, none⟩)] (w.drewN m) fun e w' => e = .returned (.int .i64 sent) ∧ ∃ m, w' = w.drewN m :=
  (sent_any (w := w.drewN m) h).mono fun _ _ h => ⟨h.1, m, h.2.symm⟩
theorem quiet_got {w : World} {g : Nat} {life sent got : Int} {A : Option Addr} {n c : Nat} (h : Link.Cell w g life sent got A n c) (m : Nat) :
    Calls Try.prog 17 #[.pointer (some ⟨g, 0, none⟩)] (w.drewN m) fun e w' => e = .returned (.int .i64 got) ∧ ∃ m, w' = w.drewN m :=
  (got_any (w := w.drewN m) h).mono fun _ _ h => ⟨h.1, m, h.2.symm⟩
theorem quiet_life {w : World} {g : Nat} {life sent got : Int} {A : Option Addr} {n c : Nat} (h : Link.Cell w g life sent got A n c) (m : Nat) :
    Calls Try.prog 19 #[.pointer (some ⟨g, 0, none⟩)] (w.drewN m) fun e w' => e = .returned (.int .i64 life) ∧ ∃ m, w' = w.drewN m :=
  (life_any (w := w.drewN m) h).mono fun _ _ h => ⟨h.1, m, h.2.symm⟩
namespace Link
/-- how much a deed may move an end's numbers -/
def cost (d : Dd) : Nat := d.pks.length + d.data.length
def costs (ds : List Dd) : Nat := (ds.map cost).sum
theorem costs_snoc (ds : List Dd) (d : Dd) : costs (ds ++ [d]) = costs ds + cost d := by simp [costs]
theorem costs_take (ds : List Dd) (k : Nat) : costs (ds.take k) ≤ costs ds := by
  have h : costs ds = costs (ds.take k) + costs (ds.drop k) := by
    conv => lhs; rw [← List.take_append_drop k ds]
    unfold costs
    rw [List.map_append, List.sum_append]
  omega
def SumRel (w w1 : World) (ds : List Dd) (vn vi : Value) (wr : World) : Prop :=
  ∃ k : Nat, k ≤ ds.length ∧ costs (ds.take k) ≤ 20000000000000 ∧ vn = .int .i64 ((ds.length + costs (ds.take k) : Nat) : Int) ∧ vi = .int .i64 k ∧ Hid (Below w.heap.size w wr) ∧ Hid (w1.heap.size ≤ wr.heap.size)
end Link
namespace Link
theorem kinds {k : Int} (h1 : ¬ k = 1) (h2 : ¬ k = 2) (h3 : ¬ k = 3) : (k == 1) = false ∧ (k == 2) = false ∧ (k == 3) = false := by simp [h1, h2, h3]
end Link
namespace Link
theorem run_min8 (ts : Array TypeId) (t : TypeId) (W : World) (n : Nat) (e : E) (data : List ByteArray) (h : e.opn.length ≤ 8) : (Builtin.min_ ts t #[.int .i64 (data.length : Nat), .int .i64 (8 - (e.opn.length : Int))]).run Try.prog W = .ok (.int .i64 ((sendK e data : Nat) : Int)) W := by
  have h1 : ∀ x y : Int, (Builtin.min_ ts t #[.int .i64 x, .int .i64 y]).run Try.prog W = .ok (.int .i64 (if y < x then y else x)) W := fun x y => by simp [go_sem]
  rw [h1]; congr 2; unfold sendK; split <;> omega
theorem pks_get (life got : Int) : ∀ (l : List ByteArray) (q : Int) (j : Nat) (p : Pk), (pks life got q l)[j]? = some p → p.life = life ∧ p.seq = q + j ∧ p.ack = got ∧ p.has = true
  | [], q, j, p, h => by simp [pks] at h
  | s :: l, q, 0, p, h => by simp [pks] at h; subst h; simp
  | s :: l, q, j + 1, p, h => by
    have := pks_get life got l (q + 1) j p (by simpa [pks] using h)
    refine ⟨this.1, ?_, this.2.2⟩
    rw [this.2.1]; omega
end Link
namespace linkWindowOpen
open Link
def Mid (w : World) (g N : Nat) (wx : World) : Prop := ∃ (A : Option Addr) (c : Nat) (e : E), Hid (At wx g A c e) ∧ Hid (Fine N e) ∧ Hid (Below w.heap.size w wx) ∧ Hid (Mem.From w.heap.size A)
structure Rel (w : World) (g : Nat) (ds : List Dd) (vi : Value) (wr : World) : Prop where
  out : ∃ (k : Nat) (A : Option Addr) (c : Nat) (e : E), k ≤ ds.length ∧ vi = .int .i64 k ∧ Hid (At wr g A c e) ∧ Hid (Fine (costs (ds.take k)) e) ∧ Hid (Below w.heap.size w wr) ∧ Hid (Mem.From w.heap.size A)

set_option maxRecDepth 100000 in
set_option maxHeartbeats 4000000 in
theorem walk (A : Option Addr) (c : Nat) (ds : List Dd) (w : World) (hr : Mem.Rd w w.heap.size A (ds.flatMap ddCells)) (hn : ds.length ≤ 8796093022208) (hd : ∀ d ∈ ds, DdOk w d) :
    Calls Try.prog 7 #[.slice A ds.length c] w fun e w' => e = .returned (.bool true) ∧ Below w.heap.size w w' := by
  have HR := Lib.hid hr
  have HD := Lib.hid hd
  clear hr hd
  go_enter Try.func7, Try.ntmps7
  go_wp2_with fail
  refine (linkAble_any w).mono ?_
  rintro x w1 ⟨rfl, hb1⟩
  have HB1 := Lib.hid hb1
  clear hb1
  go_wp2
  go_loopw [3, 4] (SumRel w w1 ds) (fun _ t _ => ds.length - (intOf t).toNat)
  case atStart => exact ⟨0, by omega, by simp [costs], by simp [costs], rfl, HB1.out, Nat.le_refl _⟩
  case round =>
    obtain ⟨k, hk, hck, rfl, rfl, HB, HS⟩ := hrel
    by_cases hlt : k < ds.length
    · by_cases hm : ds.length + costs (ds.take k) ≤ 2000
      · obtain ⟨b, o, d, rfl, hb, hp, q0, q1, q2, q3⟩ := dd_elem (HR.out.below HB.out) hlt
        have hdo := HD.out d (List.mem_of_getElem? hp)
        have hts := Mem.take_snoc hp
        have hl1 := hdo.dl
        have hl2 := hdo.ql
        have hl3 := hdo.dm
        have hl4 := hdo.qm
        have HTS : Hid (costs (ds.take (k + 1)) = costs (ds.take k) + (d.pks.length + d.data.length)) := by show _ = _; rw [hts, costs_snoc]; rfl
        clear hp hts hdo
        have hmd : decide (ds.length + costs (ds.take k) ≤ 2000) = true := by simpa using hm
        go_wp2
        go_quiet (fail)
        go_wp2
        go_roundw
        case rel => exact ⟨k + 1, by omega, by rw [HTS.out]; omega, by rw [HTS.out]; go_num, by go_num, Mem.below_drewN HB.out _, HS.out⟩
        case measure => simp [intOf]; omega
      · have hmd : decide (ds.length + costs (ds.take k) ≤ 2000) = false := by simpa using hm
        have hmg : decide (2000 < ds.length + costs (ds.take k)) = true := by simp; omega
        go_wp2
        go_ret
        exact ⟨rfl, HB.out⟩
    · obtain rfl : k = ds.length := by omega
      rw [List.take_length] at hck ⊢
      by_cases hm : ds.length + costs ds ≤ 2000
      case neg =>
        have hmg : decide (2000 < ds.length + costs ds) = true := by simp; omega
        go_wp2
        go_ret
        exact ⟨rfl, HB.out⟩
      case pos =>
      have hmg : decide (2000 < ds.length + costs ds) = false := by simp; omega
      clear hlt hck
      go_wp2_with fail
      refine (new_any 1 wr wr.heap.size rfl).mono ?_
      rintro x w2 ⟨rfl, hA, hb2, hs2⟩
      have HB2 := Lib.hid (HB.out.trans (hb2.mono HB.out.size))
      have HA2 := Lib.hid hA
      have HSZ := Lib.hid HB.out.size
      have hsz2 : w.heap.size ≤ wr.heap.size := HB.out.size
      obtain ⟨g, hg⟩ : ∃ g, wr.heap.size = g := ⟨_, rfl⟩
      rw [hg] at HA2 hsz2 ⊢
      clear hb2 hA hs2 HSZ hg hmg HS HB
      go_wp2
      go_loopw [6] (Rel w g ds) (fun t _ => ds.length - (intOf t).toNat)
      case atStart => exact ⟨⟨0, none, 0, ⟨1, 0, 0, []⟩, by omega, rfl, HA2.out, Fine.new 1, HB2.out, Mem.From.none_ _⟩⟩
      case round =>
        rename_i wy
        obtain ⟨k, A', c', e, hk, rfl, HA, HF, HB, HFr⟩ := hrel.out
        clear HA2 HB2
        have hct := costs_take ds k
        by_cases hlt : k < ds.length
        · obtain ⟨b, o, d, rfl, hb, hp, p0, p1, p2, p3⟩ := dd_elem HR.out hlt
          have q0 := (HB.out.cell (p := ⟨b, o + k * 4, none⟩) hb).trans p0
          have q1 := (HB.out.cell (p := ⟨b, o + k * 4 + 1, none⟩) hb).trans p1
          have q2 := (HB.out.cell (p := ⟨b, o + k * 4 + 2, none⟩) hb).trans p2
          have q3 := (HB.out.cell (p := ⟨b, o + k * 4 + 3, none⟩) hb).trans p3
          have P2 := Lib.hid p2
          clear p0 p1 p2 p3
          have HDO := Lib.hid (HD.out d (List.mem_of_getElem? hp))
          have HTS : Hid (costs (ds.take (k + 1)) = costs (ds.take k) + (d.pks.length + d.data.length)) := by show _ = _; rw [Mem.take_snoc hp, costs_snoc]; rfl
          have hcost : costs (ds.take k) + (d.pks.length + d.data.length) ≤ 2000 := by have := costs_take ds (k + 1); rw [HTS.out] at this; omega
          clear hp
          go_upto_block 4 with fail
          go_cut [] (fun wx => Mid w g (costs (ds.take (k + 1))) wx)
          case first =>
            by_cases k1 : d.kind = 1
            · have d1 : (d.kind == 1) = true := by simp [k1]
              have h8 := HF.out.o8
              have hgl := HA.out.box.lt
              obtain ⟨kk, hkk⟩ : ∃ kk, sendK e d.data = kk := ⟨_, rfl⟩
              have hkl : kk ≤ d.data.length ∧ kk ≤ 8 := by rw [← hkk]; unfold sendK; omega
              have hmn : ∀ ts t W, (Builtin.min_ ts t #[.int .i64 (d.data.length : Nat), .int .i64 (8 - (e.opn.length : Int))]).run Try.prog W = .ok (.int .i64 ((kk : Nat) : Int)) W := fun ts t W => by rw [← hkk]; exact run_min8 ts t W 0 e d.data HF.out.o8
              have hbw := Nat.lt_of_lt_of_le hb HB.out.size
              have HKK := Lib.hid hkk
              have HMN := Lib.hid hmn
              clear k1 hkk hmn
              go_wp2_with fail
              refine (open_any HA.out.box).mono ?_
              rintro x w3 ⟨rfl, rfl⟩
              go_wp2_with (at_builtin; refine Mem.wpList_clone _ rfl (.tmp 62) (.tmp 67) _ rfl strs_elem _ rfl _ _ d.D d.data.length d.dc (d.data.map strV) rfl ?_ rfl (Below.refl _ _) (Nat.le_refl _) (HDO.out.rd.below HB.out |>.more HB.out.size) (by simp) (by simp [Value.oneCell']) (by unfold maxLen; omega) (by omega); intro A2 c2 w3 hown hb3 hs3 hf3; have HO3 := Lib.hid hown; have HB3 := Lib.hid hb3; have HF3 := Lib.hid hf3; clear hown hb3 hf3)
              refine (send_any (HA.out.keeps (Mem.Keeps.of_below HB3.out) (fun h => h) (fun _ _ h => h)) A2 c2 d.data (fun W hk => HO3.out.rd.keepsAt hk (Nat.le_refl _) (fun q hq h => by
                have hqw := HF3.out.blk q hq
                rcases h with h | h
                · omega
                · have := HA.out.opn.lt h; omega)) (by unfold maxLen; omega) HF.out.s0 (by have := HF.out.sN; omega) (by omega)).mono ?_
              rintro x w4 ⟨A4, c4, rfl, hA4, hk4, hm4⟩
              rw [HKK.out] at hA4 ⊢
              have hbw4 : Below w.heap.size w w4 := (HB.out.trans (HB3.out.mono HB.out.size)).trans (hk4.below (fun q hq => by
                rcases hq with h | h
                · omega
                · exact HFr.out.blk q h) (Nat.le_trans HB.out.size HB3.out.size))
              have HM : Mid w g (costs (ds.take (k + 1))) w4 := ⟨A4, c4, _, hA4, (HF.out.sendTo d.data kk (by rw [← HKK.out]; unfold sendK; omega)).mono (by rw [HTS.out]; omega), hbw4, Mem.From.of_blk (fun q hq => by
                rcases hm4 with h | h
                · exact HFr.out.blk q (h ▸ hq)
                · exact Nat.le_trans (Nat.le_trans HB.out.size HB3.out.size) (h.blk q hq))⟩
              have HMM := Lib.hid HM
              have r2 := (hbw4.cell (p := ⟨b, o + k * 4 + 2, none⟩) hb).trans P2.out
              have hmn := HMN.out
              clear hA4 hk4 hm4 HM hbw4
              by_cases hke : kk = d.data.length
              · have e1 : ((kk : Int) == (d.data.length : Int)) = true := by simp [hke]
                have e2 : ((kk : Int) != (kk : Int)) = false := by simp
                rw [if_pos hke]
                have HKE := Lib.hid hke
                clear hke
                go_wp2
                go_meet
                case rel => exact HMM.out
              · have e1 : ((kk : Int) == (d.data.length : Int)) = false := by simp; omega
                have e2 : ((kk : Int) != (kk : Int)) = false := by simp
                rw [if_neg hke]
                clear hke
                go_wp2
                go_meet
                case rel => exact HMM.out
            by_cases k2 : d.kind = 2
            · have d1 : (d.kind == 1) = false := by simp [k2]
              have d2 : (d.kind == 2) = true := by simp [k2]
              clear k1 k2
              go_wp2_with fail
              refine (take_any HA.out d.Q d.qc d.pks (fun W hk => (HDO.out.rq.below HB.out).keepsLt hk HB.out.size (fun q hq h => by omega)) (by omega) HF.out (by omega)).mono ?_
              rintro x w3 ⟨A3, O3, c3, oc3, rfl, hA3, hO3, hf3, hk3, hm3⟩
              have HM : Mid w g (costs (ds.take (k + 1))) w3 := ⟨A3, c3, _, hA3, (HF.out.take d.pks).mono (by rw [HTS.out]; omega), HB.out.trans (hk3.below (fun q hq => by omega) HB.out.size), Mem.From.of_blk (fun q hq => by
                rcases hm3 with h | h
                · exact HFr.out.blk q (h ▸ hq)
                · rw [h] at hq; cases hq)⟩
              have HMM := Lib.hid HM
              clear hA3 hO3 hf3 hk3 hm3 HM
              go_wp2
              go_meet
              case rel => exact HMM.out
            by_cases k3 : d.kind = 3
            · have d1 : (d.kind == 1) = false := by simp [k3]
              have d2 : (d.kind == 2) = false := by simp [k3]
              have d3 : (d.kind == 3) = true := by simp [k3]
              clear k1 k2 k3
              go_wp2_with fail
              refine (renew_any HA.out d.n).mono ?_
              rintro x w3 ⟨A3, c3, rfl, hA3, hk3, hm3⟩
              have HM : Mid w g (costs (ds.take (k + 1))) w3 := ⟨A3, c3, _, hA3, (HF.out.renew d.n).mono (by rw [HTS.out]; omega), HB.out.trans (hk3.below (fun q hq => by omega) HB.out.size), by rcases hm3 with rfl | rfl; exact HFr.out; exact Mem.From.none_ _⟩
              have HMM := Lib.hid HM
              clear hA3 hk3 hm3 HM
              go_wp2
              go_meet
              case rel => exact HMM.out
            · obtain ⟨d1, d2, d3⟩ := kinds k1 k2 k3
              have HMM : Hid (Mid w g (costs (ds.take (k + 1))) _) := ⟨A', c', e, HA, HF.out.mono (by rw [HTS.out]; omega), HB, HFr⟩
              clear k1 k2 k3
              go_wp2
              go_meet
              case rel => exact HMM.out
          case rest =>
            obtain ⟨A3, c3, e3, HA3, HF3, HB3, HFr3⟩ := hcut
            clear HA HF HB HFr q0 q1 q2 q3 P2
            obtain ⟨n1, n2, n3, n4, n5, n6⟩ := HF3.out
            have hc2 : costs (ds.take (k + 1)) ≤ 2000 := by rw [HTS.out]; omega
            go_wp2_with fail
            refine (out_any HA3.out n1 (by omega) (by omega)).mono ?_
            rintro x w4 ⟨O1, oc1, rfl, hO1, hb4, hf4⟩
            have HA4 := Lib.hid (HA3.out.keeps (Mem.Keeps.of_below hb4) (fun h => h) (fun _ _ h => h))
            have HO1 := Lib.hid hO1
            have HB4 := Lib.hid (HB3.out.trans (hb4.mono HB3.out.size))
            clear hO1 hb4 hf4
            go_wp2_with fail
            refine (out_any HA4.out n1 (by omega) (by omega)).mono ?_
            rintro x w5 ⟨O2, oc2, rfl, hO2, hb5, hf5⟩
            have HA5 := Lib.hid (HA4.out.keeps (Mem.Keeps.of_below hb5) (fun h => h) (fun _ _ h => h))
            have HO5 := Lib.hid (HO1.out.below hb5 (fun q hq => HO1.out.lt hq))
            have HO2 := Lib.hid hO2
            have HB5 := Lib.hid (HB4.out.trans (hb5.mono HB4.out.size))
            clear hO2 hb5 hf5
            go_wp2_with fail
            refine (packets_same (out e3) O1 O2 oc1 oc2 HO5.out.rd HO2.out.rd (Nat.le_trans HO5.out.le HO5.out.cap)).mono ?_
            rintro x w6 ⟨rfl, hb6⟩
            have HA6 := Lib.hid (HA5.out.keeps (Mem.Keeps.of_below hb6) (fun h => h) (fun _ _ h => h))
            have HO6 := Lib.hid (HO5.out.below hb6 (fun q hq => HO5.out.lt hq))
            have HB6 := Lib.hid (HB5.out.trans (hb6.mono HB5.out.size))
            clear hb6 HA3 HA4 HA5 HO1 HO2 HO5 HB3 HB4 HB5
            have ho6 := open_any HA6.out.box
            have HOP := Lib.hid ho6
            have c8 : decide ((8 : Int) < (e3.opn.length : Int)) = false := by simp; omega
            have c9 : decide ((e3.opn.length : Int) < 0) = false := by simp
            clear ho6
            by_cases h0 : e3.opn.length = 0
            · have hout : out e3 = [⟨e3.life, 0, e3.got, false, ByteArray.empty⟩] := if_pos h0
              have hO6 := HO6.out
              rw [hout] at hO6 ⊢
              obtain ⟨g1, o1, rfl⟩ := hO6.form (by simp)
              have x1 : w6.cell? ⟨g1, o1 + 1, none⟩ = some (.int .i64 0) := Mem.Own.cell (j := 1) hO6 rfl
              have x3 : w6.cell? ⟨g1, o1 + 3, none⟩ = some (.bool false) := Mem.Own.cell (j := 3) hO6 rfl
              have e0 : ((e3.opn.length : Int) == 0) = true := by simp [h0]
              have H0 := Lib.hid h0
              have hrel : Rel w g ds (.int .i64 ((k : Int) + 1)) w6 := ⟨⟨k + 1, A3, c3, e3, by omega, by go_num, HA6, HF3, HB6, HFr3⟩⟩
              have HREL := Lib.hid hrel
              clear hO6 h0 hout hrel
              go_wp2_with (go_at_call 15; refine HOP.out.mono ?_; rintro x w7 ⟨rfl, rfl⟩)
              go_roundw
              case rel => exact HREL.out
              case measure => simp [intOf]; omega
            · have hout : out e3 = pks e3.life e3.got (e3.sent - e3.opn.length + 1) e3.opn := if_neg h0
              have hol : (out e3).length = e3.opn.length := by rw [hout, pks_length]
              have e0 : ((e3.opn.length : Int) == 0) = false := by rw [beq_eq_false_iff_ne]; omega
              rw [hol]
              have HOUT := Lib.hid hout
              have HOL := Lib.hid hol
              clear hout hol h0
              go_wp2_with (go_at_call 15; refine HOP.out.mono ?_; rintro x w7 ⟨rfl, rfl⟩)
              have hz6 := HB6.out.size
              go_loopw [12] (fun vj wq => ∃ j : Nat, j ≤ e3.opn.length ∧ vj = .int .i64 j ∧ Hid (Below w6.heap.size w6 wq)) (fun t _ => e3.opn.length - (intOf t).toNat)
              case atStart => exact ⟨0, by omega, rfl, Below.refl _ _⟩
              case round =>
                obtain ⟨j, hj, rfl, HQ⟩ := hrel
                by_cases hjl : j < e3.opn.length
                · obtain ⟨b1, o1, p, rfl, hb1, hp, y0, y1, y2, y3, y4⟩ := pk_elem ((HO6.out.rd).below HQ.out) (k := j) (by rw [HOL.out]; exact hjl)
                  rw [HOUT.out] at hp
                  obtain ⟨t1, t2, t3, t4⟩ := pks_get _ _ _ _ _ _ hp
                  rw [t1] at y0
                  rw [t2, show e3.sent - (e3.opn.length : Int) + 1 + j = e3.sent - e3.opn.length + j + 1 by omega] at y1
                  rw [t3] at y2
                  rw [t4] at y3
                  clear hp t1 t2 t3 t4
                  have HAQ := Lib.hid (HA6.out.keeps (Mem.Keeps.of_below HQ.out) (fun h => h) (fun _ _ h => h))
                  have e1 : ((e3.opn.length : Int) != (e3.opn.length : Int)) = false := by simp
                  have w1' : IntKind.i64.wrap (e3.sent - (e3.opn.length : Int)) = e3.sent - e3.opn.length := IntWalk.i64_in _ (by omega)
                  have w2' : IntKind.i64.wrap (e3.sent - (e3.opn.length : Int) + j) = e3.sent - e3.opn.length + j := IntWalk.i64_in _ (by omega)
                  have w3' : IntKind.i64.wrap (e3.sent - (e3.opn.length : Int) + j + 1) = e3.sent - e3.opn.length + j + 1 := IntWalk.i64_in _ (by omega)
                  go_wp2
                  go_quiet ((first | (go_at_call 15; exact quiet_open HAQ.out.box _) | (go_at_call 18; exact quiet_sent HAQ.out.box _) | (go_at_call 17; exact quiet_got HAQ.out.box _) | (go_at_call 19; exact quiet_life HAQ.out.box _)))
                  go_wp2
                  go_roundw
                  case rel => exact ⟨j + 1, by omega, by go_num, Mem.below_drewN HQ.out _⟩
                  case measure => simp [intOf]; omega
                · obtain ⟨jj, hjj⟩ : ∃ jj, e3.opn.length = jj := ⟨_, rfl⟩
                  have hrel : Rel w g ds (.int .i64 ((k : Int) + 1)) _ := ⟨⟨k + 1, A3, c3, e3, by omega, by go_num, HA6.out.keeps (Mem.Keeps.of_below HQ.out) (fun h => h) (fun _ _ h => h), HF3, HB6.out.trans (HQ.out.mono HB6.out.size), HFr3⟩⟩
                  have HREL := Lib.hid hrel
                  clear hrel hjj jj
                  go_wp2
                  go_roundw
                  case rel => exact HREL.out
                  case measure => simp [intOf]; omega
        · obtain rfl : k = ds.length := by omega
          go_wp2
          go_ret
          exact ⟨rfl, HB.out⟩
theorem opened {H : Type} (enc : TypeId × Value → H) (W : World) (base : Nat) (v0 : Value) {d0 : DataW H} {p0 : List MemPlace}
    (o0 : Value.okWide Try.prog W .any base 40 v0) (k0 : DataW.Trod enc Try.prog W 0 (fun _ => true) true 40 v0 d0 p0) (z0 : (d0.weights Try.prog 40).all (· ≤ reachBytes) = true) :
    Calls Try.prog 7 #[v0] W fun e w' => e = .returned (.bool true) ∧ Below W.heap.size W w' := by
  obtain ⟨A, c, ds, rfl, h1, h2, h3, h4⟩ := open_deeds o0 k0 z0
  exact walk A c ds W h3 (by omega) h4
end linkWindowOpen
end Go.Proofs.Ytjkonfanmpcipaa
