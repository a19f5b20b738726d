/- Findings compared; is it much; are findings alike. No conditions but that lengths are numbers. -/
import Derived.Test.YtelephoalpphkaaAud24
import Derived.Test.YtelephoalpphkaaAud25
set_option maxRecDepth 8000
namespace Go.Proofs.Ytelephoalpphkaa
open Go.ChangeShapes Go.WideShapes Go.ChangeAt Go.RowKit
set_option linter.unusedVariables false
set_option linter.unusedSimpArgs false
namespace Au
def eqFi (a b : Fi) : Bool := a.ev == b.ev && a.rule == b.rule
theorem eqFi_iff {a b : Fi} : eqFi a b = true ↔ a = b := by
  cases a; cases b; unfold eqFi; simp
theorem fis_len (l : List Fi) : (l.flatMap fiCells).length = l.length * 2 := Mem.flat_length fiCells_length l
theorem fis_one (l : List Fi) : ∀ u ∈ l.flatMap fiCells, u.oneCell' = true := fun u hu => by
  obtain ⟨e, _, he⟩ := List.mem_flatMap.1 hu
  exact fi_one e u he
theorem fi_elem {w : World} {B : Nat} {A : Option Addr} {l : List Fi} (h : Mem.Rd w B A (l.flatMap fiCells)) {k : Nat} (hk : k < l.length) :
    ∃ b o f, A = some ⟨b, o, none⟩ ∧ b < B ∧ l[k]? = some f ∧ ∀ j u, (fiCells f)[j]? = some u → w.cell? ⟨b, o + k * 2 + j, none⟩ = some u := by
  obtain ⟨b, o, e, hb, hc⟩ := Mem.Rd.elem fiCells_length h hk (by omega)
  exact ⟨b, o, l[k], e, hb, List.getElem?_eq_getElem hk, fun j u hu => by rw [Nat.add_assoc]; exact hc j u hu⟩
end Au
theorem eqIn_fi (d : Nat) (a b : Au.Fi) (w : World) : (Op.equalIn (d + 2) 50 (.agg (Au.fiCells a).toArray) (.agg (Au.fiCells b).toArray)).run Try.prog w = .ok (Au.eqFi a b) w := by
  unfold Au.fiCells Au.eqFi
  simp [go_sem]
  by_cases h0 : a.ev = b.ev <;> by_cases h1 : a.rule = b.rule <;> simp [h0, h1]
theorem eql_fi (a b : Au.Fi) (w : World) : (binOp .eql 50 (.agg (Au.fiCells a).toArray) (.agg (Au.fiCells b).toArray)).run Try.prog w = .ok (.bool (Au.eqFi a b)) w := by
  rw [run_eql_struct, eqIn_fi 9998]
  rfl
theorem neq_fi (a b : Au.Fi) (w : World) : (binOp .neq 50 (.agg (Au.fiCells a).toArray) (.agg (Au.fiCells b).toArray)).run Try.prog w = .ok (.bool (!Au.eqFi a b)) w := by
  rw [run_neq_struct, eqIn_fi 9998]
  rfl
namespace Au
structure FsRel (w : World) (l m : List Fi) (vi : Value) (wr : World) : Prop where
  out : ∃ k : Nat, k ≤ l.length ∧ vi = .int .i64 k ∧ Hid (l.take k = m.take k) ∧ Hid (Below w.heap.size w wr)
def FsEnd (w : World) (l m : List Fi) (x : Ending) (w' : World) : Prop := ∃ b, x = .returned (.bool b) ∧ (b = true ↔ l = m) ∧ Below w.heap.size w w'
end Au
open Au in
set_option maxHeartbeats 4000000 in
theorem findings_any (A : Option Addr) (c : Nat) (l : List Au.Fi) (A2 : Option Addr) (c2 : Nat) (m : List Au.Fi) (B : Nat) (w : World) (hl : Mem.Rd w B A (l.flatMap Au.fiCells)) (hm : Mem.Rd w B A2 (m.flatMap Au.fiCells)) (hB : B ≤ w.heap.size) (hn : l.length ≤ 1000000000) (hn2 : m.length ≤ 1000000000) :
    Calls Try.prog 13 #[.slice A l.length c, .slice A2 m.length c2] w (Au.FsEnd w l m) := by
  have HL := Lib.hid (hl.more hB)
  have HM := Lib.hid (hm.more hB)
  clear hl hm hB
  go_enter Try.func13, Try.ntmps13
  by_cases hlen : l.length = m.length
  case neg =>
    have d0 : ((l.length : Int) != (m.length : Int)) = true := by simp; omega
    have d1 : ((l.length : Int) == (m.length : Int)) = false := by simp; omega
    have HN : Hid (l ≠ m) := fun h => hlen (by rw [h])
    clear hlen
    go_wp2
    go_ret
    exact ⟨false, rfl, ⟨fun h => (by cases h), fun h => absurd h HN.out⟩, Below.refl _ _⟩
  case pos =>
    have d0 : ((l.length : Int) != (m.length : Int)) = false := by simp; omega
    have d1 : ((l.length : Int) == (m.length : Int)) = true := by simp; omega
    have HLN := Lib.hid hlen
    clear hlen
    go_wp2
    go_loopw [5] (FsRel w l m) (fun t _ => l.length - (intOf t).toNat)
    case atStart => exact ⟨⟨0, by omega, rfl, rfl, Below.refl _ _⟩⟩
    case round =>
      obtain ⟨k, hk, rfl, HT, HB⟩ := hrel.out
      clear hrel d0 d1
      by_cases hlt : k < l.length
      · obtain ⟨b, o, f, rfl, hb, hf, hat⟩ := fi_elem HL.out hlt
        obtain ⟨b2, o2, g, rfl, hb2, hg, hat2⟩ := fi_elem HM.out (show k < m.length by have := HLN.out; omega)
        have d2 : decide ((k : Int) < (l.length : Int)) = true := by simp; omega
        obtain ⟨q, hq⟩ : ∃ q, eqFi f g = q := ⟨_, rfl⟩
        have HQ : Hid (∀ W, (binOp .neq 50 (.agg (fiCells f).toArray) (.agg (fiCells g).toArray)).run Try.prog W = .ok (.bool (!q)) W) := fun W => by rw [neq_fi, hq]
        have HQQ := Lib.hid hq
        have HF := Lib.hid hf
        have HG := Lib.hid hg
        have HLT := Lib.hid hlt
        have HML : Hid (k < m.length) := by show _ < _; have := HLN.out; omega
        have HAT : Hid (∀ j u, (fiCells f)[j]? = some u → wr.cell? ⟨b, o + k * 2 + j, none⟩ = some u) := fun j u hu => (HB.out.cell (p := ⟨b, o + k * 2 + j, none⟩) hb).trans (hat j u hu)
        have HAT2 : Hid (∀ j u, (fiCells g)[j]? = some u → wr.cell? ⟨b2, o2 + k * 2 + j, none⟩ = some u) := fun j u hu => (HB.out.cell (p := ⟨b2, o2 + k * 2 + j, none⟩) hb2).trans (hat2 j u hu)
        have hbw := Nat.lt_of_lt_of_le hb HB.out.size
        have hbw2 := Nat.lt_of_lt_of_le hb2 HB.out.size
        clear hq hat hat2 hf hg
        go_upto_region 6 with fail
        refine Reg.wp_region_rel (by kernel_rfl) 26 9 rfl rfl (by kernel_rfl) (Reg.Adds) (Reg.Adds.refl) (Reg.Adds.trans)
          (fun i v u => match i with
            | 0 => v = .slice (some ⟨b, o, none⟩) l.length c
            | 1 => v = .int .i64 k
            | 2 => v = .pointer (some ⟨b, o + k * 2, none⟩)
            | 3 => v = .agg (fiCells f).toArray
            | 4 => v = .slice (some ⟨b2, o2, none⟩) m.length c2
            | 5 => v = .int .i64 k
            | 6 => v = .pointer (some ⟨b2, o2 + k * 2, none⟩)
            | 7 => v = .agg (fiCells g).toArray
            | 8 => v = .bool (!q)
            | _ => True) ?_ ?_
        · refine Reg.Steps.cons ?_ (Reg.Steps.cons ?_ (Reg.Steps.cons ?_ (Reg.Steps.cons ?_ (Reg.Steps.cons ?_ (Reg.Steps.cons ?_ (Reg.Steps.cons ?_ (Reg.Steps.cons ?_ (Reg.Steps.cons ?_ (Reg.Steps.nil _)))))))))
          · intro val ac u hR hp ha K hK      -- 0: t17 := Op.move t0
            have e0 : (ac.tmps[0]?).getD undef = .slice (some ⟨b, o, none⟩) l.length c := ha 0 (by decide)
            clear ha hp
            refine Reg.Op1.plain rfl ?_
            go_wp2
            exact ⟨rfl, hK _ _ rfl (fun j k _ _ => Reg.Adds.refl _ _ _)⟩
          · intro val ac u hR hp ha K hK      -- 1: t18 := Op.move t5
            have e5 : (ac.tmps[5]?).getD undef = .int .i64 k := ha 5 (by decide)
            clear ha hp
            refine Reg.Op1.plain rfl ?_
            go_wp2
            exact ⟨rfl, hK _ _ rfl (fun j k _ _ => Reg.Adds.refl _ _ _)⟩
          · intro val ac u hR hp ha K hK      -- 2: t19 := Op.indexAddr 36 t17 t18
            obtain ⟨w17, h17, r17⟩ := hp 0 (by decide)
            have e17 : (ac.tmps[17]?).getD undef = .slice (some ⟨b, o, none⟩) l.length c := (ha 17 (by decide)).trans h17
            clear h17
            obtain ⟨w18, h18, r18⟩ := hp 1 (by decide)
            have e18 : (ac.tmps[18]?).getD undef = .int .i64 k := (ha 18 (by decide)).trans h18
            clear h18
            clear ha hp
            refine Reg.Op1.plain rfl ?_
            go_wp2
            exact ⟨rfl, hK _ _ rfl (fun j k _ _ => Reg.Adds.refl _ _ _)⟩
          · intro val ac u hR hp ha K hK      -- 3: t20 := Op.load 50 t19
            obtain ⟨w19, h19, r19⟩ := hp 2 (by decide)
            have e19 : (ac.tmps[19]?).getD undef = .pointer (some ⟨b, o + k * 2, none⟩) := (ha 19 (by decide)).trans h19
            clear h19
            clear ha hp
            refine Reg.Op1.plain rfl ?_
            refine Mem.load_agg _ _ finding_agg b (o + k * 2) (fiCells f) (Reg.eval_of e19) (fiCells_length _) (fun j u' hu => (hR.cell (p := ⟨b, o + k * 2 + j, none⟩) hbw).trans (HAT.out j u' hu)) ?_
            exact ⟨rfl, hK _ _ rfl (fun j k _ _ => Reg.Adds.refl _ _ _)⟩
          · intro val ac u hR hp ha K hK      -- 4: t21 := Op.move t1
            have e1 : (ac.tmps[1]?).getD undef = .slice (some ⟨b2, o2, none⟩) m.length c2 := ha 1 (by decide)
            clear ha hp
            refine Reg.Op1.plain rfl ?_
            go_wp2
            exact ⟨rfl, hK _ _ rfl (fun j k _ _ => Reg.Adds.refl _ _ _)⟩
          · intro val ac u hR hp ha K hK      -- 5: t22 := Op.move t5
            have e5 : (ac.tmps[5]?).getD undef = .int .i64 k := ha 5 (by decide)
            clear ha hp
            refine Reg.Op1.plain rfl ?_
            go_wp2
            exact ⟨rfl, hK _ _ rfl (fun j k _ _ => Reg.Adds.refl _ _ _)⟩
          · intro val ac u hR hp ha K hK      -- 6: t23 := Op.indexAddr 36 t21 t22
            obtain ⟨w21, h21, r21⟩ := hp 4 (by decide)
            have e21 : (ac.tmps[21]?).getD undef = .slice (some ⟨b2, o2, none⟩) m.length c2 := (ha 21 (by decide)).trans h21
            clear h21
            obtain ⟨w22, h22, r22⟩ := hp 5 (by decide)
            have e22 : (ac.tmps[22]?).getD undef = .int .i64 k := (ha 22 (by decide)).trans h22
            clear h22
            clear ha hp
            have hml := HML.out
            refine Reg.Op1.plain rfl ?_
            go_wp2
            exact ⟨rfl, hK _ _ rfl (fun j k _ _ => Reg.Adds.refl _ _ _)⟩
          · intro val ac u hR hp ha K hK      -- 7: t24 := Op.load 50 t23
            obtain ⟨w23, h23, r23⟩ := hp 6 (by decide)
            have e23 : (ac.tmps[23]?).getD undef = .pointer (some ⟨b2, o2 + k * 2, none⟩) := (ha 23 (by decide)).trans h23
            clear h23
            clear ha hp
            refine Reg.Op1.plain rfl ?_
            refine Mem.load_agg _ _ finding_agg b2 (o2 + k * 2) (fiCells g) (Reg.eval_of e23) (fiCells_length _) (fun j u' hu => (hR.cell (p := ⟨b2, o2 + k * 2 + j, none⟩) hbw2).trans (HAT2.out j u' hu)) ?_
            exact ⟨rfl, hK _ _ rfl (fun j k _ _ => Reg.Adds.refl _ _ _)⟩
          · intro val ac u hR hp ha K hK      -- 8: t25 := Op.binOp BinOp.neq 50 t20 t24 50
            obtain ⟨w20, h20, r20⟩ := hp 3 (by decide)
            have e20 : (ac.tmps[20]?).getD undef = .agg (fiCells f).toArray := (ha 20 (by decide)).trans h20
            clear h20
            obtain ⟨w24, h24, r24⟩ := hp 7 (by decide)
            have e24 : (ac.tmps[24]?).getD undef = .agg (fiCells g).toArray := (ha 24 (by decide)).trans h24
            clear h24
            clear ha hp
            refine Reg.Op1.plain rfl ?_
            have hqq := HQ.out
            go_wp2
            exact ⟨rfl, hK _ _ rfl (fun j k _ _ => Reg.Adds.refl _ _ _)⟩
        · intro val u hR H
          obtain ⟨_, hv, _⟩ := H 8 (by decide)
          have hv : val 8 = .bool (!q) := hv
          have HR2 : Hid (Below wr.heap.size wr u) := (Below.refl _ wr).drew.trans hR
          simp only [List.map_cons, List.map_nil, Reg.lay, Act.put, List.setIfInBounds_toArray, List.set_cons_succ, List.set_cons_zero, Nat.reduceAdd, hv]
          clear hR H hv
          cases q with
          | false =>
            have HN : Hid (l ≠ m) := fun h => by
              have h1 := HF.out
              rw [h, HG.out] at h1
              rw [Option.some.inj h1, eqFi_iff.2 rfl] at HQQ
              cases HQQ.out
            go_wp2
            go_ret
            exact ⟨false, rfl, ⟨fun h => (by cases h), fun h => absurd h HN.out⟩, HB.out.trans (HR2.out.mono HB.out.size)⟩
          | true =>
            go_wp2
            go_roundw
            case rel => exact ⟨⟨k + 1, by have := HLT.out; omega, by go_num, by show _ = _; rw [Mem.take_snoc HF.out, Mem.take_snoc HG.out, HT.out, eqFi_iff.1 HQQ.out], HB.out.trans (HR2.out.mono HB.out.size)⟩⟩
            case measure => have := HLT.out; simp [intOf]; omega
      · obtain rfl : k = l.length := by omega
        have d2 : decide ((l.length : Int) < (l.length : Int)) = false := by simp
        have HE : Hid (l = m) := by
          have h1 := HT.out
          rw [List.take_length, HLN.out, List.take_length] at h1
          exact h1
        go_wp2
        go_ret
        exact ⟨true, rfl, ⟨fun _ => HE.out, fun _ => rfl⟩, HB.out⟩
namespace Au
def MuEnd (w : World) (h : List Ev) (ws : List Vec.Ent) (x : Ending) (w' : World) : Prop := ∃ b, x = .returned (.bool b) ∧ (b = false → h.length + ws.length ≤ 360) ∧ Below w.heap.size w w'
/-- at the heads of much's loops -/
structure MuRel (w : World) (n0 n : Nat) (vn vi : Value) (wr : World) : Prop where
  out : ∃ k N : Nat, k ≤ n ∧ n0 ≤ N ∧ N ≤ 30000000000000 ∧ vn = .int .i64 (N : Int) ∧ vi = .int .i64 k ∧ Hid (Below w.heap.size w wr)
end Au
open Au in
set_option maxHeartbeats 8000000 in
theorem muchA_any (A : Option Addr) (c : Nat) (h : List Au.Ev) (A2 : Option Addr) (c2 : Nat) (ws : List Vec.Ent) (w0 w : World) (hr : Mem.Rd w0 w0.heap.size A (h.flatMap Au.evCells)) (hr2 : Mem.Rd w0 w0.heap.size A2 (ws.flatMap Vec.entCells)) (hn : h.length ≤ 8796093022208) (hn2 : ws.length ≤ 8796093022208)
    (hd : ∀ e ∈ h, Au.EvIn w0 e) (hd2 : ∀ e ∈ ws, Vec.EntIn e) (hb : Below w0.heap.size w0 w) :
    Calls Try.prog 10 #[.slice A h.length c, .slice A2 ws.length c2] w (Au.MuEnd w h ws) := by
  have HR := Lib.hid hr
  have HR2 := Lib.hid hr2
  have HD := Lib.hid hd
  have HD2 := Lib.hid hd2
  have HB0 := Lib.hid hb
  clear hr hr2 hd hd2 hb
  go_enter Try.func10, Try.ntmps10
  go_wp2
  go_loopw [5, 6] (MuRel w (h.length + ws.length) h.length) (fun _ t _ => h.length - (intOf t).toNat)
  case atStart => exact ⟨⟨0, h.length + ws.length, by omega, by omega, by omega, by congr 1, rfl, Below.refl _ _⟩⟩
  case round =>
    obtain ⟨k, N, hk, hlN, hN, rfl, rfl, HB⟩ := hrel.out
    clear hrel
    have HBW := Lib.hid (HB0.out.trans (HB.out.mono HB0.out.size))
    by_cases hin : k < h.length ∧ N ≤ 120
    · obtain ⟨hlt, hm⟩ := hin
      obtain ⟨b, o, e, rfl, hb, he, hat⟩ := ev_elem HR.out hlt
      have hei := HD.out e (List.mem_of_getElem? he)
      have hat' := hat.below HBW.out hb
      have q3 := hat'.c 3 _ rfl
      have q4 := hat'.c 4 _ rfl
      have q10 := hat'.c 10 _ rfl
      have hvs := hei.vs
      have hrn := hei.rn
      have d0 : decide ((k : Int) < (h.length : Int)) = true := by simp; omega
      have hmd : decide ((N : Int) ≤ 120) = true := by simp; omega
      obtain ⟨m, hm2⟩ : ∃ m, e.val.size / 60 = m := ⟨_, rfl⟩
      have hmb : m ≤ 3000000000000 := by omega
      obtain ⟨rn, hrn2⟩ : ∃ n, e.res.length = n := ⟨_, rfl⟩
      rw [hrn2] at q10 hrn
      have HM2 := Lib.hid hm2
      have HAT := Lib.hid hat
      have HEI := Lib.hid hei
      have HBL := Lib.hid hb
      have hkl : e.keys.length ≤ 9223372036854775807 := by have := hei.ok.kl; have := hei.ok.kn; omega
      clear hat hat' he hei hm2 hrn2
      have hkd : Hid (∀ s ∈ e.keys, s.size ≤ 140737488351232) := HEI.out.ks
      have HKL := Lib.hid hkl
      have HBD : Hid (N + (rn + m) ≤ 4000000000000) := by show _ ≤ _; omega
      have HLT := Lib.hid hlt
      go_wp2
      go_quiet (fail)
      go_wp2
      rename World => wy
      obtain ⟨wz, hwz⟩ : ∃ z, wy.drewN nq = z := ⟨_, rfl⟩
      have HBZ : Hid (Below w.heap.size w wz) := by show Below _ _ _; rw [← hwz]; exact Mem.below_drewN HB.out _
      have HBWZ := Lib.hid (HB0.out.trans (HBZ.out.mono HB0.out.size))
      try rw [hwz]
      clear hwz
      go_loopw [5, 7] (MuRel w (h.length + ws.length) e.keys.length) (fun _ t _ => e.keys.length - (intOf t).toNat)
      case atStart => exact ⟨⟨0, N + (rn + m), by omega, by omega, by omega, by have := HM2.out; congr 1; omega, rfl, HBZ⟩⟩
      case round =>
        clear hmd d0 q3 q4 q10 hmb HBD
        obtain ⟨j, M, hj, hlM, hM, rfl, rfl, HBI⟩ := hrel.out
        clear hrel
        have HBWI := Lib.hid (HB0.out.trans (HBI.out.mono HB0.out.size))
        have hat' := HAT.out.below HBWI.out HBL.out
        have q3 := hat'.c 3 _ rfl
        clear hat'
        by_cases hlj : j < e.keys.length
        · have d3 : decide ((j : Int) < (e.keys.length : Int)) = true := by simp; omega
          by_cases hmM : M ≤ 120
          · have hmd : decide ((M : Int) ≤ 120) = true := by simp; omega
            obtain ⟨b2, o2, hA2, hb2, hc2⟩ := HEI.out.ok.k.at (k := j) (by rw [List.length_map]; exact hlj)
            obtain ⟨s, hs⟩ : ∃ s, e.keys[j] = s := ⟨_, rfl⟩
            rw [List.getElem_map, hs] at hc2
            have q5 : wr.cell? ⟨b2, o2 + j, none⟩ = some (.string s) := (HBWI.out.cell (p := ⟨b2, o2 + j, none⟩) hb2).trans hc2
            have hss : s.size ≤ 140737488351232 := hkd.out s (by rw [← hs]; exact List.getElem_mem _)
            rw [hA2] at q3
            obtain ⟨p, hp⟩ : ∃ m, s.size / 60 = m := ⟨_, rfl⟩
            have hpb : p ≤ 3000000000000 := by omega
            have HP := Lib.hid hp
            clear hA2 hb2 hc2 hs hp
            go_wp2
            go_roundw
            case rel => exact ⟨⟨j + 1, M + (1 + p), by omega, by omega, by omega, by have := HP.out; have h2 : wrap64 (1 + (s.size : Int) / 60) = 1 + (s.size : Int) / 60 := IntWalk.wrap64_in _ (by omega); first | (congr 1; omega) | (congr 1; rw [h2]; congr 1; omega), by go_num, HBI⟩⟩
            case measure => simp [intOf]; omega
          · have hmd : decide ((M : Int) ≤ 120) = false := by simp; omega
            go_wp2
            go_roundw
            case rel => exact ⟨⟨k + 1, M, by have := HLT.out; omega, hlM, hM, rfl, by go_num, HBI⟩⟩
            case measure => have := HLT.out; simp [intOf]; omega
        · have d3 : decide ((j : Int) < (e.keys.length : Int)) = false := by simp; omega
          go_wp2
          go_roundw
          case rel => exact ⟨⟨k + 1, M, by have := HLT.out; omega, hlM, hM, rfl, by go_num, HBI⟩⟩
          case measure => have := HLT.out; simp [intOf]; omega
    · by_cases hlt : k < h.length
      · have d0 : decide ((k : Int) < (h.length : Int)) = true := by simp; omega
        have hmd : decide ((N : Int) ≤ 120) = false := by simp; omega
        clear hin
        go_wp2
        rename World => wy
        go_loopw [5, 8] (MuRel w (h.length + ws.length) ws.length) (fun _ t _ => ws.length - (intOf t).toNat)
        case atStart => exact ⟨⟨0, N, by omega, hlN, hN, rfl, rfl, HB⟩⟩
        case round =>
          clear HB HBW d0
          try clear hmd
          obtain ⟨j, M, hj, hlM, hM, rfl, rfl, HB⟩ := hrel.out
          clear hrel
          have HBW := Lib.hid (HB0.out.trans (HB.out.mono HB0.out.size))
          by_cases hin : j < ws.length ∧ M ≤ 120
          · obtain ⟨hlj, hmM⟩ := hin
            have d3 : decide ((j : Int) < (ws.length : Int)) = true := by simp; omega
            have hmd : decide ((M : Int) ≤ 120) = true := by simp; omega
            obtain ⟨b, o, e, rfl, hb, he, hat⟩   := Vec.ent_elem HR2.out hlj
            have hei := HD2.out e (List.mem_of_getElem? he)
            have hat' := hat.below HBW.out hb
            have q6 := hat'.c 6 _ rfl
            have q7 := hat'.c 7 _ rfl
            have hks := hei.ks
            have hvs := hei.vs
            obtain ⟨m, hm2⟩ : ∃ m, (e.key.size + e.val.size) / 60 = m := ⟨_, rfl⟩
            have hmb : m ≤ 5000000000000 := by omega
            have HM2 := Lib.hid hm2
            clear hat hat' he hei hm2
            go_wp2
            go_quiet (fail)
            go_wp2
            go_roundw
            case rel => exact ⟨⟨j + 1, M + m, by omega, by omega, by omega, by have := HM2.out; congr 1; omega, by go_num, Mem.below_drewN HB.out _⟩⟩
            case measure => simp [intOf]; omega
          · obtain ⟨g, hg⟩ : ∃ g, decide ((360 : Int) < (M : Int)) = g := ⟨_, rfl⟩
            have HGG : Hid (g = false → h.length + ws.length ≤ 360) := fun hz => by
              rw [hz] at hg
              have : ¬ (360 : Int) < (M : Int) := of_decide_eq_false hg
              omega
            by_cases hlj : j < ws.length
            · have d3 : decide ((j : Int) < (ws.length : Int)) = true := by simp; omega
              have hmd : decide ((M : Int) ≤ 120) = false := by simp; omega
              clear hin
              go_wp2
              go_ret
              exact ⟨g, rfl, HGG.out, HB.out⟩
            · have d3 : decide ((j : Int) < (ws.length : Int)) = false := by simp; omega
              clear hin
              go_wp2
              go_ret
              exact ⟨g, rfl, HGG.out, HB.out⟩
      · have d0 : decide ((k : Int) < (h.length : Int)) = false := by simp; omega
        clear hin
        go_wp2
        rename World => wy
        go_loopw [5, 8] (MuRel w (h.length + ws.length) ws.length) (fun _ t _ => ws.length - (intOf t).toNat)
        case atStart => exact ⟨⟨0, N, by omega, hlN, hN, rfl, rfl, HB⟩⟩
        case round =>
          clear HB HBW d0
          try clear hmd
          obtain ⟨j, M, hj, hlM, hM, rfl, rfl, HB⟩ := hrel.out
          clear hrel
          have HBW := Lib.hid (HB0.out.trans (HB.out.mono HB0.out.size))
          by_cases hin : j < ws.length ∧ M ≤ 120
          · obtain ⟨hlj, hmM⟩ := hin
            have d3 : decide ((j : Int) < (ws.length : Int)) = true := by simp; omega
            have hmd : decide ((M : Int) ≤ 120) = true := by simp; omega
            obtain ⟨b, o, e, rfl, hb, he, hat⟩   := Vec.ent_elem HR2.out hlj
            have hei := HD2.out e (List.mem_of_getElem? he)
            have hat' := hat.below HBW.out hb
            have q6 := hat'.c 6 _ rfl
            have q7 := hat'.c 7 _ rfl
            have hks := hei.ks
            have hvs := hei.vs
            obtain ⟨m, hm2⟩ : ∃ m, (e.key.size + e.val.size) / 60 = m := ⟨_, rfl⟩
            have hmb : m ≤ 5000000000000 := by omega
            have HM2 := Lib.hid hm2
            clear hat hat' he hei hm2
            go_wp2
            go_quiet (fail)
            go_wp2
            go_roundw
            case rel => exact ⟨⟨j + 1, M + m, by omega, by omega, by omega, by have := HM2.out; congr 1; omega, by go_num, Mem.below_drewN HB.out _⟩⟩
            case measure => simp [intOf]; omega
          · obtain ⟨g, hg⟩ : ∃ g, decide ((360 : Int) < (M : Int)) = g := ⟨_, rfl⟩
            have HGG : Hid (g = false → h.length + ws.length ≤ 360) := fun hz => by
              rw [hz] at hg
              have : ¬ (360 : Int) < (M : Int) := of_decide_eq_false hg
              omega
            by_cases hlj : j < ws.length
            · have d3 : decide ((j : Int) < (ws.length : Int)) = true := by simp; omega
              have hmd : decide ((M : Int) ≤ 120) = false := by simp; omega
              clear hin
              go_wp2
              go_ret
              exact ⟨g, rfl, HGG.out, HB.out⟩
            · have d3 : decide ((j : Int) < (ws.length : Int)) = false := by simp; omega
              clear hin
              go_wp2
              go_ret
              exact ⟨g, rfl, HGG.out, HB.out⟩
end Go.Proofs.Ytelephoalpphkaa
