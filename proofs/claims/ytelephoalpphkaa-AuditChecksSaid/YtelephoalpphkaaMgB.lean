/- Several texts of this proof in one file, in the order in which they build: AudR2, AudR4. No conditions but those that each theorem names. -/
import Derived.Test.YtelephoalpphkaaMgA
section
/- The document's checks of a history: fits, asked. No conditions but that lists are few. -/
set_option maxRecDepth 8000
namespace Go.Proofs.Ytelephoalpphkaa
open Go.ChangeShapes Go.WideShapes Go.ChangeAt Go.RowKit
set_option linter.unusedVariables false
set_option linter.unusedSimpArgs false
namespace Au
structure FtRel (w : World) (e : Ev) (vi : Value) (wr : World) : Prop where
  out : ∃ k : Nat, k ≤ e.res.length ∧ vi = .int .i64 k ∧ Hid ((e.res.take k).map (·.key) = e.keys.take k) ∧ Hid (VBx wr w.heap.size e) ∧ Hid (Below w.heap.size w wr)
theorem rs_elemR {w : World} {B : Nat} {A : Option Addr} {l : List Rs} (h : Mem.Rd w B A (l.flatMap rsCells)) {k : Nat} (hk : k < l.length) :
    ∃ b o r, A = some ⟨b, o, none⟩ ∧ b < B ∧ l[k]? = some r ∧ ∀ j u, (rsCells r)[j]? = some u → w.cell? ⟨b, o + k * 22 + j, none⟩ = some u := by
  obtain ⟨b, o, e, hb, hc⟩ := Mem.Rd.elem rsCells_length h hk (by omega)
  exact ⟨b, o, l[k], e, hb, List.getElem?_eq_getElem hk, fun j u hu => by rw [Nat.add_assoc]; exact hc j u hu⟩
end Au
open Au in
set_option maxHeartbeats 4000000 in
theorem fits_any {w : World} {B : Nat} {e : Au.Ev} (h : Au.EvOk w B e) (hB : B ≤ w.heap.size) :
    Calls Try.prog 38 #[.agg (Au.evCells e).toArray] w fun x w' => x = .returned (.bool (Au.dFits e)) ∧ Below w.heap.size w w' := by
  obtain ⟨z, hz⟩ : ∃ z, dFits e = z := ⟨_, rfl⟩
  rw [hz]
  have HZ := Lib.hid hz
  clear hz
  have hB1 : Below w.heap.size w (w.alloc (.cells (Au.evCells e).toArray 46)) := Reg.below_new _ _
  have hX1 : Au.VBx (w.alloc (.cells (Au.evCells e).toArray 46)) w.heap.size e := Mem.Bx.new w 46 (Au.evCells e).toArray rfl rfl
  obtain ⟨w1, hw1⟩ : ∃ w1, w.alloc (.cells (Au.evCells e).toArray 46) = w1 := ⟨_, rfl⟩
  rw [hw1] at hB1 hX1
  have HB1 := Lib.hid hB1
  have HX1 := Lib.hid hX1
  unfold Au.evCells at hw1 ⊢
  clear hB1 hX1
  have HKR := Lib.hid (h.k.more hB)
  have HRR := Lib.hid (h.r.more hB)
  have hkm : e.keys.length ≤ 9223372036854775807 := by have := h.kl; have := h.kn; omega
  have hrm : e.res.length ≤ 9223372036854775807 := by have := h.rl; have := h.rn; omega
  clear h
  go_enter Try.func38, Try.ntmps38
  go_upto_region 1 with fail
  try rw [hw1]
  clear hw1
  have y2 : w1.cell? ⟨w.heap.size, 2, none⟩ = some (.int .i64 e.kind) := HX1.out.cell (j := 2) rfl
  have y9 : w1.cell? ⟨w.heap.size, 9, none⟩ = some (.int .i64 e.code) := HX1.out.cell (j := 9) rfl
  have y3 : w1.cell? ⟨w.heap.size, 3, none⟩ = some (.slice e.kA e.keys.length e.kc) := HX1.out.cell (j := 3) rfl
  have y10 : w1.cell? ⟨w.heap.size, 10, none⟩ = some (.slice e.rA e.res.length e.rc) := HX1.out.cell (j := 10) rfl
  by_cases hc : e.code = 0
  case neg =>
    obtain rfl : ((e.res.length : Int) == 0) = z := by rw [← HZ.out]; unfold dFits; rw [if_pos (.inl hc)]
    have b0 : (e.code == 0) = false := by simpa using hc
    have b00 : (e.code != 0) = true := by simpa using hc
    clear hc HZ
    go_wp2
    go_ret
    exact ⟨rfl, HB1.out⟩
  case pos =>
    rw [hc] at y9
    by_cases h7 : e.kind < 1
    · obtain rfl : ((e.res.length : Int) == 0) = z := by rw [← HZ.out]; unfold dFits; rw [if_pos (.inr (.inl h7))]
      have b7 : decide (e.kind < 1) = true := decide_eq_true h7
      clear hc HZ
      go_wp2
      go_ret
      exact ⟨rfl, HB1.out⟩
    · have b7 : decide (e.kind < 1) = false := decide_eq_false h7
      by_cases h8 : 4 < e.kind
      · obtain rfl : ((e.res.length : Int) == 0) = z := by rw [← HZ.out]; unfold dFits; rw [if_pos (.inr (.inr h8))]
        have b8 : decide (4 < e.kind) = true := decide_eq_true h8
        clear hc HZ
        go_wp2
        go_ret
        exact ⟨rfl, HB1.out⟩
      · have b8 : decide (4 < e.kind) = false := decide_eq_false h8
        have HZ2 : Hid (decide (e.res.map (·.key) = e.keys) = z) := by show _ = _; rw [← HZ.out]; unfold dFits; rw [if_neg (by omega)]
        clear hc HZ h7 h8
        by_cases hlen : e.res.length = e.keys.length
        case neg =>
          have c0 : ((e.res.length : Int) != (e.keys.length : Int)) = true := by simp; omega
          have c1 : ((e.res.length : Int) == (e.keys.length : Int)) = false := by simp; omega
          obtain rfl : z = false := by
            rw [← HZ2.out]
            exact decide_eq_false (fun h => hlen (by rw [← h, List.length_map]))
          clear hlen
          go_wp2
          go_ret
          exact ⟨rfl, HB1.out⟩
        case pos =>
          have c0 : ((e.res.length : Int) != (e.keys.length : Int)) = false := by simp; omega
          have c1 : ((e.res.length : Int) == (e.keys.length : Int)) = true := by simp; omega
          have HLN := Lib.hid hlen
          clear hlen
          go_wp2
          go_loopw [3] (FtRel w e) (fun t _ => e.res.length - (intOf t).toNat)
          case atStart => exact ⟨⟨0, by omega, rfl, rfl, HX1, HB1⟩⟩
          case round =>
            obtain ⟨k, hk, rfl, HT, HX, HB⟩ := hrel.out
            clear hrel c0 c1 b7 b8 y2 y9 y3 y10
            have y3 : wr.cell? ⟨w.heap.size, 3, none⟩ = some (.slice e.kA e.keys.length e.kc) := HX.out.cell (j := 3) rfl
            have y10 : wr.cell? ⟨w.heap.size, 10, none⟩ = some (.slice e.rA e.res.length e.rc) := HX.out.cell (j := 10) rfl
            by_cases hlt : k < e.res.length
            · have hlm : k < e.keys.length := by have := HLN.out; omega
              obtain ⟨b, o, r, hA, hb, hr, hat⟩ := rs_elemR HRR.out hlt
              obtain ⟨b2, o2, hA2, hb2, hc2⟩ := HKR.out.at (k := k) (by rw [List.length_map]; exact hlm)
              obtain ⟨t, ht⟩ : ∃ t, e.keys[k] = t := ⟨_, rfl⟩
              rw [List.getElem_map, ht] at hc2
              have hmt : e.keys[k]? = some t := by rw [← ht]; exact List.getElem?_eq_getElem hlm
              have x0 : wr.cell? ⟨b, o + k * 22, none⟩ = some (.string r.key) := (HB.out.cell (p := ⟨b, o + k * 22, none⟩) hb).trans (hat 0 _ rfl)
              have x1 : wr.cell? ⟨b2, o2 + k, none⟩ = some (.string t) := (HB.out.cell (p := ⟨b2, o2 + k, none⟩) hb2).trans hc2
              have d2 : decide ((k : Int) < (e.res.length : Int)) = true := by simp; omega
              rw [hA] at y10
              rw [hA2] at y3
              have HLS := Lib.hid hr
              have HMT := Lib.hid hmt
              have HLT := Lib.hid hlt
              by_cases hst : r.key = t
              · have hkd := Vec.str_eq hst
                have HST := Lib.hid hst
                clear hc2 hr hmt ht hst hat hA hA2
                go_wp2
                go_quiet (fail)
                go_wp2
                go_roundw
                case rel => exact ⟨⟨k + 1, HLT.out, by go_num, by show _ = _; rw [Mem.take_snoc HLS.out, Mem.take_snoc HMT.out, List.map_append, HT.out, ← HST.out]; rfl, HX.out.keeps ((Mem.Keeps.refl (fun _ => False) _).drewN _) id, Mem.below_drewN HB.out _⟩⟩
                case measure => have := HLT.out; simp [intOf]; omega
              · have hkd := Vec.str_ne hst
                obtain rfl : z = false := by
                  rw [← HZ2.out]
                  refine decide_eq_false (fun h => hst ?_)
                  have h1 : (e.res.map (·.key))[k]? = some r.key := by rw [List.getElem?_map, hr]; rfl
                  rw [h, hmt] at h1
                  exact (Option.some.inj h1).symm
                clear hc2 hr hmt ht hst hat hA hA2
                go_wp2
                go_quiet (fail)
                go_wp2
                go_ret
                exact ⟨rfl, Mem.below_drewN HB.out _⟩
            · obtain rfl : k = e.res.length := by omega
              have d2 : decide ((e.res.length : Int) < (e.res.length : Int)) = false := by simp
              obtain rfl : z = true := by
                rw [← HZ2.out]
                have h1 := HT.out
                rw [List.take_length, HLN.out, List.take_length] at h1
                exact decide_eq_true h1
              go_wp2
              go_ret
              exact ⟨rfl, HB.out⟩
namespace Au
structure AkRel (w : World) (h : List Ev) (r : Rs) (a : Nat) (vi : Value) (wr : World) : Prop where
  out : ∃ k : Nat, k ≤ a ∧ vi = .int .i64 k ∧ Hid ((h.take k).any (askM r.e) = false) ∧ Hid (Vec.EBx wr (w.heap.size + 1) r.e) ∧ Hid (Below w.heap.size w wr)
theorem any_snoc {h : List Ev} {k : Nat} {e : Ev} (he : h[k]? = some e) (p : Ev → Bool) : (h.take (k + 1)).any p = ((h.take k).any p || p e) := by
  rw [Mem.take_snoc he, List.any_append]
  simp
theorem any_yes {h : List Ev} {k a : Nat} {e : Ev} (he : h[k]? = some e) (hk : k < a) {p : Ev → Bool} (hp : p e = true) : (h.take a).any p = true := by
  rw [List.any_eq_true]
  exact ⟨e, List.mem_of_getElem? (by rw [List.getElem?_take, if_pos hk]; exact he), hp⟩
end Au
open Au in
open Vec (EBx entCells ent0 entCells_length ent_one) in
set_option maxHeartbeats 8000000 in
theorem asked23_any {w : World} {B : Nat} {A : Option Addr} {c : Nat} {h : List Au.Ev} {A2 : Option Addr} {ws : List Vec.Ent} (d : Au.Dx w B A h A2 ws) (a : Nat) (ha : a ≤ h.length) (r : Au.Rs) :
    Calls Try.prog 60 #[.slice A h.length c, .int .i64 a, .agg (Au.rsCells r).toArray] w fun x w' => x = .returned (.bool (decide (r.e.key = r.key) && (h.take a).any (Au.askM r.e))) ∧ Below w.heap.size w w' := by
  have hn6 : a ≤ 1000000 := Nat.le_trans ha d.n
  have HD := Lib.hid d
  clear d
  have HB1 : Hid (Below w.heap.size w (w.alloc (.cells (rsCells r).toArray 48))) := Reg.below_new _ _
  have HX1 : Hid (RBx (w.alloc (.cells (rsCells r).toArray 48)) w.heap.size r) := Mem.Bx.new w 48 (rsCells r).toArray rfl rfl
  have hz1 : (w.alloc (.cells (rsCells r).toArray 48)).heap.size = w.heap.size + 1 := Array.size_push _
  obtain ⟨w1, hw1⟩ : ∃ w1, w.alloc (.cells (rsCells r).toArray 48) = w1 := ⟨_, rfl⟩
  rw [hw1] at HB1 HX1 hz1
  have HZ1 := Lib.hid hz1
  clear hz1
  obtain ⟨z, hz⟩ : ∃ z, (h.take a).any (askM r.e) = z := ⟨_, rfl⟩
  rw [hz]
  have HZ := Lib.hid hz
  clear hz
  obtain ⟨z0, hz0⟩ : ∃ z0, decide (r.e.key = r.key) = z0 := ⟨_, rfl⟩
  rw [hz0]
  have HZ0 := Lib.hid hz0
  clear hz0
  go_enter Try.func60, Try.ntmps60
  go_upto_region 1 with fail
  try rw [hw1]
  clear hw1
  have HEE : Hid (∀ j u, (entCells r.e)[j]? = some u → w1.cell? ⟨w.heap.size, 2 + j, none⟩ = some u) := RBx.ent HX1.out
  have ho := ent_one r.e
  go_upto_region 2 with (first
    | ((with_reducible refine Mem.load_agg _ _ entry_agg w.heap.size 2 (entCells r.e) ?hx (entCells_length _) HEE.out ?_); case hx => exact rfl)
    | ((with_reducible refine Mem.store_agg _ _ entry_agg w1.heap.size (entCells ent0) (entCells r.e) ?hxj ?hyj ?hbj (entCells_length _) ho ?_); ((case hxj => exact rfl); (case hyj => exact rfl); (case hbj => exact Mem.Bx.new w1 _ (entCells ent0).toArray rfl rfl)); intro w2 hb2 hk2 hs2))
  have HE2 : Hid (EBx w2 (w.heap.size + 1) r.e) := by show EBx _ _ _; rw [← HZ1.out]; exact hb2
  have HB12 : Hid (Below w1.heap.size w1 w2) := (hk2.newBox rfl).belowAll
  have HX2 : Hid (RBx w2 w.heap.size r) := HX1.out.below HB12.out HX1.out.lt
  have HB2 : Hid (Below w.heap.size w w2) := HB1.out.trans (HB12.out.mono HB1.out.size)
  rw [HZ1.out]
  have x6 := HE2.out.cell (j := 6) rfl
  have y0 : w2.cell? ⟨w.heap.size, 0, none⟩ = some (.string r.key) := HX2.out.cell (j := 0) rfl
  clear hb2 hk2 hs2 HEE ho HX1 HB1 HB12 HZ1
  by_cases hkey : r.e.key = r.key
  case neg =>
    obtain rfl : z0 = false := by rw [← HZ0.out]; exact decide_eq_false hkey
    have hkd := Vec.str_ne hkey
    clear hkey
    go_wp2
    go_ret
    exact ⟨rfl, HB2.out⟩
  case pos =>
    obtain rfl : z0 = true := by rw [← HZ0.out]; exact decide_eq_true hkey
    have hkd := Vec.str_eq hkey
    clear hkey
    go_wp2
    go_loopw [8] (AkRel w h r a) (fun t _ => a - (intOf t).toNat)
    case atStart => exact ⟨⟨0, by omega, rfl, rfl, HE2, HB2⟩⟩
    case round =>
      clear HE2 HB2 HX2 x6 y0 hkd
      obtain ⟨k, hk, rfl, HT, HE, HB⟩ := hrel.out
      clear hrel
      by_cases hlt : k < a
      · have HDW := Lib.hid (HD.out.below (HB.out.mono HD.out.le))
        obtain ⟨b, o, e, rfl, hb, he, hat⟩ := ev_elem HDW.out.H (show k < h.length by omega)
        have d0 : decide ((k : Int) < (a : Int)) = true := by simp; omega
        have hkl : k < h.length := by omega
        have HOK := Lib.hid (HDW.out.E e (List.mem_of_getElem? he))
        have HHE := Lib.hid he
        have HLT := Lib.hid hlt
        have hbw0 := Nat.lt_of_lt_of_le hb HDW.out.le
        have HASK : Hid (∀ j u, (askCells e)[j]? = some u → wr.cell? ⟨b, o + k * 20 + 2 + j, none⟩ = some u) := fun j u hu => by have h1 := hat.c (2 + j) u (by rw [Nat.add_comm]; match j, hu with | 0, hu => exact hu | 1, hu => exact hu | 2, hu => exact hu | 3, hu => exact hu | j + 4, hu => cases hu); rw [← Nat.add_assoc] at h1; exact h1
        have HAT0 := Lib.hid hat.c
        clear he hat
        go_upto_region 8 with (first
          | ((with_reducible refine Mem.load_agg _ _ ask_agg b (o + k * 20 + 2) (askCells e) ?hx (askCells_length e) HASK.out ?_); case hx => exact rfl)
          | ((with_reducible refine Mem.store_agg _ _ ask_agg wr.heap.size (askCells ev0) (askCells e) ?hxj ?hyj ?hbj (askCells_length _) (ask_one _) ?_); ((case hxj => exact rfl); (case hyj => exact rfl); (case hbj => exact Mem.Bx.new wr 42 (askCells ev0).toArray rfl rfl)); intro w3 hb3 hk3 hs3))
        have hbb3 : Below wr.heap.size wr w3 := (hk3.newBox rfl).belowAll
        have HA3 : Hid (Mem.Bx w3 42 4 wr.heap.size (askCells e)) := hb3
        have HE3 : Hid (EBx w3 (w.heap.size + 1) r.e) := HE.out.below hbb3 HE.out.lt
        have HB3 : Hid (Below w.heap.size w w3) := HB.out.trans (hbb3.mono HB.out.size)
        have HAT : Hid (∀ j u, (evCells e)[j]? = some u → w3.cell? ⟨b, o + k * 20 + j, none⟩ = some u) := fun j u hu => (hbb3.cell (p := ⟨b, o + k * 20 + j, none⟩) hbw0).trans (HAT0.out j u hu)
        have hbw : b < w3.heap.size := Nat.lt_of_lt_of_le hbw0 hbb3.size
        have HKR : Hid (Mem.Rd w3 w3.heap.size e.kA (e.keys.map sv)) := ((HOK.out.k.more HDW.out.le).below hbb3).more hbb3.size
        have hkm : e.keys.length ≤ 9223372036854775807 := by have := HOK.out.kl; have := HOK.out.kn; omega
        clear hb3 hk3 hs3 hbb3 HASK HAT0 HOK HDW HE HB hbw0
        cases hbg : beg e
        · have hno : askM r.e e = false := by
            unfold beg at hbg
            unfold askM
            rw [← Bool.and_assoc, hbg, Bool.false_and]
          have HBG := Lib.hid hbg
          clear hbg
          have HN : Hid ((h.take (k + 1)).any (askM r.e) = false) := by show _ = _; rw [any_snoc HHE.out, HT.out, hno]; rfl
          clear hno
          refine Reg.wp_region_rel (by kernel_rfl) 97 41 rfl rfl (by kernel_rfl) (Reg.Adds) (Reg.Adds.refl) (Reg.Adds.trans)
            (fun i v u => match i with
              | 0 => v = .slice (some ⟨b, o, none⟩) h.length c
              | 1 => v = .int .i64 k
              | 2 => v = .pointer (some ⟨b, o + k * 20, none⟩)
              | 3 => v = .agg (evCells e).toArray
              | 4 => v = .bool false
              | 5 => v = .bool true
              | 6 => v = .bool true
              | 7 => v = undef
              | 8 => v = undef
              | 9 => v = undef
              | 10 => v = undef
              | 11 => v = undef
              | 12 => v = undef
              | 13 => v = undef
              | 14 => v = undef
              | 15 => v = .bool true
              | 16 => v = .bool true
              | 17 => v = undef
              | 18 => v = undef
              | 19 => v = undef
              | 20 => v = undef
              | 21 => v = undef
              | 22 => v = undef
              | 23 => v = undef
              | 24 => v = undef
              | 25 => v = .bool true
              | 26 => v = .bool true
              | 27 => v = undef
              | 28 => v = undef
              | 29 => v = undef
              | 30 => v = undef
              | 31 => v = .bool true
              | 32 => v = .bool true
              | 33 => v = undef
              | 34 => v = undef
              | 35 => v = undef
              | 36 => v = undef
              | 37 => v = undef
              | 38 => v = undef
              | 39 => v = undef
              | 40 => v = .bool true
              | _ => True) ?_ ?_
          · refine Reg.Steps.cons ?_ (Reg.Steps.cons ?_ (Reg.Steps.cons ?_ (Reg.Steps.cons ?_ (Reg.Steps.cons ?_ (Reg.Steps.cons ?_ (Reg.Steps.cons ?_ (Reg.Steps.cons ?_ (Reg.Steps.cons ?_ (Reg.Steps.cons ?_ (Reg.Steps.cons ?_ (Reg.Steps.cons ?_ (Reg.Steps.cons ?_ (Reg.Steps.cons ?_ (Reg.Steps.cons ?_ (Reg.Steps.cons ?_ (Reg.Steps.cons ?_ (Reg.Steps.cons ?_ (Reg.Steps.cons ?_ (Reg.Steps.cons ?_ (Reg.Steps.cons ?_ (Reg.Steps.cons ?_ (Reg.Steps.cons ?_ (Reg.Steps.cons ?_ (Reg.Steps.cons ?_ (Reg.Steps.cons ?_ (Reg.Steps.cons ?_ (Reg.Steps.cons ?_ (Reg.Steps.cons ?_ (Reg.Steps.cons ?_ (Reg.Steps.cons ?_ (Reg.Steps.cons ?_ (Reg.Steps.cons ?_ (Reg.Steps.cons ?_ (Reg.Steps.cons ?_ (Reg.Steps.cons ?_ (Reg.Steps.cons ?_ (Reg.Steps.cons ?_ (Reg.Steps.cons ?_ (Reg.Steps.cons ?_ (Reg.Steps.cons ?_ (Reg.Steps.nil _)))))))))))))))))))))))))))))))))))))))))
            · intro val ac u hR hp ha K hK
              have e0 : (ac.tmps[0]?).getD undef = .slice (some ⟨b, o, none⟩) h.length c := ha 0 (by decide); clear ha hp
              refine Reg.Op1.plain rfl ?_
              go_wp2
              exact ⟨rfl, hK _ _ rfl (fun j k _ _ => Reg.Adds.refl _ _ _)⟩
            · intro val ac u hR hp ha K hK
              have e8 : (ac.tmps[8]?).getD undef = .int .i64 k := ha 8 (by decide); clear ha hp
              refine Reg.Op1.plain rfl ?_
              go_wp2
              exact ⟨rfl, hK _ _ rfl (fun j k _ _ => Reg.Adds.refl _ _ _)⟩
            · intro val ac u hR hp ha K hK
              obtain ⟨w27, h27, r27⟩ := hp 0 (by decide); have e27 : (ac.tmps[27]?).getD undef = .slice (some ⟨b, o, none⟩) h.length c := (ha 27 (by decide)).trans h27; obtain ⟨w28, h28, r28⟩ := hp 1 (by decide); have e28 : (ac.tmps[28]?).getD undef = .int .i64 k := (ha 28 (by decide)).trans h28; clear h27 h28 ha hp
              refine Reg.Op1.plain rfl ?_
              go_wp2
              exact ⟨rfl, hK _ _ rfl (fun j k _ _ => Reg.Adds.refl _ _ _)⟩
            · intro val ac u hR hp ha K hK
              obtain ⟨w29, h29, r29⟩ := hp 2 (by decide); have e29 : (ac.tmps[29]?).getD undef = .pointer (some ⟨b, o + k * 20, none⟩) := (ha 29 (by decide)).trans h29; clear h29 ha hp
              refine Reg.Op1.plain rfl ?_
              refine Mem.load_agg _ _ event_agg b (o + k * 20) (evCells e) (Reg.eval_of e29) (evCells_length _) (fun q u' hu => (hR.cell (p := ⟨b, o + k * 20 + q, none⟩) hbw).trans (HAT.out q u' hu)) ?_
              exact ⟨rfl, hK _ _ rfl (fun j k _ _ => Reg.Adds.refl _ _ _)⟩
            · intro val ac u hR hp ha K hK
              obtain ⟨w30, h30, r30⟩ := hp 3 (by decide); have e30 : (ac.tmps[30]?).getD undef = .agg (evCells e).toArray := (ha 30 (by decide)).trans h30; clear h30 ha hp
              refine Reg.Op1.plain rfl ?_
              go_wp2_with fail
              refine (beginning_any e u).mono ?_
              rintro x w' ⟨rfl, hbw⟩
              rw [HBG.out]
              go_wp2_with fail
              exact ⟨rfl, hK _ _ rfl (fun j k _ _ => hbw)⟩
            · intro val ac u hR hp ha K hK
              obtain ⟨w31, h31, r31⟩ := hp 4 (by decide); have e31 : (ac.tmps[31]?).getD undef = .bool false := (ha 31 (by decide)).trans h31; clear h31 ha hp
              refine Reg.Op1.plain rfl ?_
              go_wp2
              exact ⟨rfl, hK _ _ rfl (fun j k _ _ => Reg.Adds.refl _ _ _)⟩
            · intro val ac u hR hp ha K hK
              obtain ⟨w32, h32, r32⟩ := hp 5 (by decide); have e32 : (ac.tmps[32]?).getD undef = .bool true := (ha 32 (by decide)).trans h32; clear h32 ha hp
              refine Reg.Op1.plain rfl ?_
              go_wp2
              exact ⟨rfl, hK _ _ rfl (fun j k _ _ => Reg.Adds.refl _ _ _)⟩
            · intro val ac u hR hp ha K hK; obtain ⟨_, h, _⟩ := hp 6 (by decide); exact Reg.Op1.guarded rfl rfl ((ha 33 (by decide)).trans h) (fun h => by cases h) (fun _ => hK _ _ rfl (fun j k _ _ => Reg.Adds.refl _ _ _))
            · intro val ac u hR hp ha K hK; obtain ⟨_, h, _⟩ := hp 6 (by decide); exact Reg.Op1.guarded rfl rfl ((ha 33 (by decide)).trans h) (fun h => by cases h) (fun _ => hK _ _ rfl (fun j k _ _ => Reg.Adds.refl _ _ _))
            · intro val ac u hR hp ha K hK; obtain ⟨_, h, _⟩ := hp 6 (by decide); exact Reg.Op1.guarded rfl rfl ((ha 33 (by decide)).trans h) (fun h => by cases h) (fun _ => hK _ _ rfl (fun j k _ _ => Reg.Adds.refl _ _ _))
            · intro val ac u hR hp ha K hK; obtain ⟨_, h, _⟩ := hp 6 (by decide); exact Reg.Op1.guarded rfl rfl ((ha 33 (by decide)).trans h) (fun h => by cases h) (fun _ => hK _ _ rfl (fun j k _ _ => Reg.Adds.refl _ _ _))
            · intro val ac u hR hp ha K hK; obtain ⟨_, h, _⟩ := hp 6 (by decide); exact Reg.Op1.guarded rfl rfl ((ha 33 (by decide)).trans h) (fun h => by cases h) (fun _ => hK _ _ rfl (fun j k _ _ => Reg.Adds.refl _ _ _))
            · intro val ac u hR hp ha K hK; obtain ⟨_, h, _⟩ := hp 6 (by decide); exact Reg.Op1.guarded rfl rfl ((ha 33 (by decide)).trans h) (fun h => by cases h) (fun _ => hK _ _ rfl (fun j k _ _ => Reg.Adds.refl _ _ _))
            · intro val ac u hR hp ha K hK; obtain ⟨_, h, _⟩ := hp 6 (by decide); exact Reg.Op1.guarded rfl rfl ((ha 33 (by decide)).trans h) (fun h => by cases h) (fun _ => hK _ _ rfl (fun j k _ _ => Reg.Adds.refl _ _ _))
            · intro val ac u hR hp ha K hK; obtain ⟨_, h, _⟩ := hp 6 (by decide); exact Reg.Op1.guarded rfl rfl ((ha 33 (by decide)).trans h) (fun h => by cases h) (fun _ => hK _ _ rfl (fun j k _ _ => Reg.Adds.refl _ _ _))
            · intro val ac u hR hp ha K hK
              obtain ⟨w33, h33, r33⟩ := hp 6 (by decide); have e33 : (ac.tmps[33]?).getD undef = .bool true := (ha 33 (by decide)).trans h33; obtain ⟨w41, h41, r41⟩ := hp 14 (by decide); have e41 : (ac.tmps[41]?).getD undef = undef := (ha 41 (by decide)).trans h41; clear h33 h41 ha hp
              refine Reg.Op1.plain rfl ?_
              go_wp2
              exact ⟨rfl, hK _ _ rfl (fun j k _ _ => Reg.Adds.refl _ _ _)⟩
            · intro val ac u hR hp ha K hK
              obtain ⟨w42, h42, r42⟩ := hp 15 (by decide); have e42 : (ac.tmps[42]?).getD undef = .bool true := (ha 42 (by decide)).trans h42; clear h42 ha hp
              refine Reg.Op1.plain rfl ?_
              go_wp2
              exact ⟨rfl, hK _ _ rfl (fun j k _ _ => Reg.Adds.refl _ _ _)⟩
            · intro val ac u hR hp ha K hK; obtain ⟨_, h, _⟩ := hp 16 (by decide); exact Reg.Op1.guarded rfl rfl ((ha 43 (by decide)).trans h) (fun h => by cases h) (fun _ => hK _ _ rfl (fun j k _ _ => Reg.Adds.refl _ _ _))
            · intro val ac u hR hp ha K hK; obtain ⟨_, h, _⟩ := hp 16 (by decide); exact Reg.Op1.guarded rfl rfl ((ha 43 (by decide)).trans h) (fun h => by cases h) (fun _ => hK _ _ rfl (fun j k _ _ => Reg.Adds.refl _ _ _))
            · intro val ac u hR hp ha K hK; obtain ⟨_, h, _⟩ := hp 16 (by decide); exact Reg.Op1.guarded rfl rfl ((ha 43 (by decide)).trans h) (fun h => by cases h) (fun _ => hK _ _ rfl (fun j k _ _ => Reg.Adds.refl _ _ _))
            · intro val ac u hR hp ha K hK; obtain ⟨_, h, _⟩ := hp 16 (by decide); exact Reg.Op1.guarded rfl rfl ((ha 43 (by decide)).trans h) (fun h => by cases h) (fun _ => hK _ _ rfl (fun j k _ _ => Reg.Adds.refl _ _ _))
            · intro val ac u hR hp ha K hK; obtain ⟨_, h, _⟩ := hp 16 (by decide); exact Reg.Op1.guarded rfl rfl ((ha 43 (by decide)).trans h) (fun h => by cases h) (fun _ => hK _ _ rfl (fun j k _ _ => Reg.Adds.refl _ _ _))
            · intro val ac u hR hp ha K hK; obtain ⟨_, h, _⟩ := hp 16 (by decide); exact Reg.Op1.guarded rfl rfl ((ha 43 (by decide)).trans h) (fun h => by cases h) (fun _ => hK _ _ rfl (fun j k _ _ => Reg.Adds.refl _ _ _))
            · intro val ac u hR hp ha K hK; obtain ⟨_, h, _⟩ := hp 16 (by decide); exact Reg.Op1.guarded rfl rfl ((ha 43 (by decide)).trans h) (fun h => by cases h) (fun _ => hK _ _ rfl (fun j k _ _ => Reg.Adds.refl _ _ _))
            · intro val ac u hR hp ha K hK; obtain ⟨_, h, _⟩ := hp 16 (by decide); exact Reg.Op1.guarded rfl rfl ((ha 43 (by decide)).trans h) (fun h => by cases h) (fun _ => hK _ _ rfl (fun j k _ _ => Reg.Adds.refl _ _ _))
            · intro val ac u hR hp ha K hK
              obtain ⟨w43, h43, r43⟩ := hp 16 (by decide); have e43 : (ac.tmps[43]?).getD undef = .bool true := (ha 43 (by decide)).trans h43; obtain ⟨w51, h51, r51⟩ := hp 24 (by decide); have e51 : (ac.tmps[51]?).getD undef = undef := (ha 51 (by decide)).trans h51; clear h43 h51 ha hp
              refine Reg.Op1.plain rfl ?_
              go_wp2
              exact ⟨rfl, hK _ _ rfl (fun j k _ _ => Reg.Adds.refl _ _ _)⟩
            · intro val ac u hR hp ha K hK
              obtain ⟨w52, h52, r52⟩ := hp 25 (by decide); have e52 : (ac.tmps[52]?).getD undef = .bool true := (ha 52 (by decide)).trans h52; clear h52 ha hp
              refine Reg.Op1.plain rfl ?_
              go_wp2
              exact ⟨rfl, hK _ _ rfl (fun j k _ _ => Reg.Adds.refl _ _ _)⟩
            · intro val ac u hR hp ha K hK; obtain ⟨_, h, _⟩ := hp 26 (by decide); exact Reg.Op1.guarded rfl rfl ((ha 53 (by decide)).trans h) (fun h => by cases h) (fun _ => hK _ _ rfl (fun j k _ _ => Reg.Adds.refl _ _ _))
            · intro val ac u hR hp ha K hK; obtain ⟨_, h, _⟩ := hp 26 (by decide); exact Reg.Op1.guarded rfl rfl ((ha 53 (by decide)).trans h) (fun h => by cases h) (fun _ => hK _ _ rfl (fun j k _ _ => Reg.Adds.refl _ _ _))
            · intro val ac u hR hp ha K hK; obtain ⟨_, h, _⟩ := hp 26 (by decide); exact Reg.Op1.guarded rfl rfl ((ha 53 (by decide)).trans h) (fun h => by cases h) (fun _ => hK _ _ rfl (fun j k _ _ => Reg.Adds.refl _ _ _))
            · intro val ac u hR hp ha K hK; obtain ⟨_, h, _⟩ := hp 26 (by decide); exact Reg.Op1.guarded rfl rfl ((ha 53 (by decide)).trans h) (fun h => by cases h) (fun _ => hK _ _ rfl (fun j k _ _ => Reg.Adds.refl _ _ _))
            · intro val ac u hR hp ha K hK
              obtain ⟨w53, h53, r53⟩ := hp 26 (by decide); have e53 : (ac.tmps[53]?).getD undef = .bool true := (ha 53 (by decide)).trans h53; obtain ⟨w57, h57, r57⟩ := hp 30 (by decide); have e57 : (ac.tmps[57]?).getD undef = undef := (ha 57 (by decide)).trans h57; clear h53 h57 ha hp
              refine Reg.Op1.plain rfl ?_
              go_wp2
              exact ⟨rfl, hK _ _ rfl (fun j k _ _ => Reg.Adds.refl _ _ _)⟩
            · intro val ac u hR hp ha K hK
              obtain ⟨w58, h58, r58⟩ := hp 31 (by decide); have e58 : (ac.tmps[58]?).getD undef = .bool true := (ha 58 (by decide)).trans h58; clear h58 ha hp
              refine Reg.Op1.plain rfl ?_
              go_wp2
              exact ⟨rfl, hK _ _ rfl (fun j k _ _ => Reg.Adds.refl _ _ _)⟩
            · intro val ac u hR hp ha K hK; obtain ⟨_, h, _⟩ := hp 32 (by decide); exact Reg.Op1.guarded rfl rfl ((ha 59 (by decide)).trans h) (fun h => by cases h) (fun _ => hK _ _ rfl (fun j k _ _ => Reg.Adds.refl _ _ _))
            · intro val ac u hR hp ha K hK; obtain ⟨_, h, _⟩ := hp 32 (by decide); exact Reg.Op1.guarded rfl rfl ((ha 59 (by decide)).trans h) (fun h => by cases h) (fun _ => hK _ _ rfl (fun j k _ _ => Reg.Adds.refl _ _ _))
            · intro val ac u hR hp ha K hK; obtain ⟨_, h, _⟩ := hp 32 (by decide); exact Reg.Op1.guarded rfl rfl ((ha 59 (by decide)).trans h) (fun h => by cases h) (fun _ => hK _ _ rfl (fun j k _ _ => Reg.Adds.refl _ _ _))
            · intro val ac u hR hp ha K hK; obtain ⟨_, h, _⟩ := hp 32 (by decide); exact Reg.Op1.guarded rfl rfl ((ha 59 (by decide)).trans h) (fun h => by cases h) (fun _ => hK _ _ rfl (fun j k _ _ => Reg.Adds.refl _ _ _))
            · intro val ac u hR hp ha K hK; obtain ⟨_, h, _⟩ := hp 32 (by decide); exact Reg.Op1.guarded rfl rfl ((ha 59 (by decide)).trans h) (fun h => by cases h) (fun _ => hK _ _ rfl (fun j k _ _ => Reg.Adds.refl _ _ _))
            · intro val ac u hR hp ha K hK; obtain ⟨_, h, _⟩ := hp 32 (by decide); exact Reg.Op1.guarded rfl rfl ((ha 59 (by decide)).trans h) (fun h => by cases h) (fun _ => hK _ _ rfl (fun j k _ _ => Reg.Adds.refl _ _ _))
            · intro val ac u hR hp ha K hK; obtain ⟨_, h, _⟩ := hp 32 (by decide); exact Reg.Op1.guarded rfl rfl ((ha 59 (by decide)).trans h) (fun h => by cases h) (fun _ => hK _ _ rfl (fun j k _ _ => Reg.Adds.refl _ _ _))
            · intro val ac u hR hp ha K hK
              obtain ⟨w59, h59, r59⟩ := hp 32 (by decide); have e59 : (ac.tmps[59]?).getD undef = .bool true := (ha 59 (by decide)).trans h59; obtain ⟨w66, h66, r66⟩ := hp 39 (by decide); have e66 : (ac.tmps[66]?).getD undef = undef := (ha 66 (by decide)).trans h66; clear h59 h66 ha hp
              refine Reg.Op1.plain rfl ?_
              go_wp2
              exact ⟨rfl, hK _ _ rfl (fun j k _ _ => Reg.Adds.refl _ _ _)⟩
          intro val u hR H
          obtain ⟨wB, hv, rB⟩ := H 40 (by decide)
          have hv : val 40 = .bool true := hv
          have HKu : Hid (Below w3.heap.size w3 u) := (Below.refl _ w3).drew.trans hR
          simp only [List.map_cons, List.map_nil, Reg.lay, Act.put, List.setIfInBounds_toArray, List.set_cons_succ, List.set_cons_zero, Nat.reduceAdd, hv]
          clear hR H hv rB
          obtain ⟨wy, hwy⟩ : ∃ z, z = u := ⟨_, rfl⟩
          subst hwy
          have HE4 : Hid (Vec.EBx wy (w.heap.size + 1) r.e) := HE3.out.below HKu.out HE3.out.lt
          have HB4 : Hid (Below w.heap.size w wy) := HB3.out.trans (HKu.out.mono HB3.out.size)
          have HA4 : Hid (Mem.Bx wy 42 4 wr.heap.size (askCells e)) := HA3.out.below HKu.out HA3.out.lt
          clear HE3 HB3 HA3 HKu HAT hbw
          go_wp2
          go_roundw
          case rel => exact ⟨⟨k + 1, HLT.out, by go_num, HN, HE4, HB4⟩⟩
          case measure => have := HLT.out; simp [intOf]; omega
        · have HBG := Lib.hid hbg
          have HAM : Hid (askM r.e e = (decide (e.cl = r.e.cl) && (decide (e.op = r.e.op) && (decide (e.keys = [r.e.key]) && ((decide (e.kind = 1) && (decide (e.val = r.e.val) && !r.e.dead)) || (decide (e.kind = 2) && (r.e.dead && emp r.e.val))))))) := by
            show _ = _
            unfold beg at hbg
            unfold askM
            rw [← Bool.and_assoc, hbg, Bool.true_and]
          clear hbg
          by_cases h1 : e.cl = r.e.cl
          case neg =>
            have hno : askM r.e e = false := by rw [HAM.out, decide_eq_false h1, Bool.false_and]
            have HQ2 : Hid ((e.cl != r.e.cl) = true) := by show _ = _; simpa using h1
            clear h1
            have HN : Hid ((h.take (k + 1)).any (askM r.e) = false) := by show _ = _; rw [any_snoc HHE.out, HT.out, hno]; rfl
            clear hno
            refine Reg.wp_region_rel (by kernel_rfl) 97 41 rfl rfl (by kernel_rfl) (Reg.Adds) (Reg.Adds.refl) (Reg.Adds.trans)
              (fun i v u => match i with
                | 0 => v = .slice (some ⟨b, o, none⟩) h.length c
                | 1 => v = .int .i64 k
                | 2 => v = .pointer (some ⟨b, o + k * 20, none⟩)
                | 3 => v = .agg (evCells e).toArray
                | 4 => v = .bool true
                | 5 => v = .bool false
                | 6 => v = .bool false
                | 7 => v = .slice (some ⟨b, o, none⟩) h.length c
                | 8 => v = .int .i64 k
                | 9 => v = .pointer (some ⟨b, o + k * 20, none⟩)
                | 10 => v = .pointer (some ⟨b, o + k * 20, none⟩)
                | 11 => v = .int .i64 e.cl
                | 12 => v = .pointer (some ⟨w.heap.size + 1, 18, none⟩)
                | 13 => v = .int .i64 r.e.cl
                | 14 => v = .bool true
                | 15 => v = .bool true
                | 16 => v = .bool true
                | 17 => v = undef
                | 18 => v = undef
                | 19 => v = undef
                | 20 => v = undef
                | 21 => v = undef
                | 22 => v = undef
                | 23 => v = undef
                | 24 => v = undef
                | 25 => v = .bool true
                | 26 => v = .bool true
                | 27 => v = undef
                | 28 => v = undef
                | 29 => v = undef
                | 30 => v = undef
                | 31 => v = .bool true
                | 32 => v = .bool true
                | 33 => v = undef
                | 34 => v = undef
                | 35 => v = undef
                | 36 => v = undef
                | 37 => v = undef
                | 38 => v = undef
                | 39 => v = undef
                | 40 => v = .bool true
                | _ => True) ?_ ?_
            · refine Reg.Steps.cons ?_ (Reg.Steps.cons ?_ (Reg.Steps.cons ?_ (Reg.Steps.cons ?_ (Reg.Steps.cons ?_ (Reg.Steps.cons ?_ (Reg.Steps.cons ?_ (Reg.Steps.cons ?_ (Reg.Steps.cons ?_ (Reg.Steps.cons ?_ (Reg.Steps.cons ?_ (Reg.Steps.cons ?_ (Reg.Steps.cons ?_ (Reg.Steps.cons ?_ (Reg.Steps.cons ?_ (Reg.Steps.cons ?_ (Reg.Steps.cons ?_ (Reg.Steps.cons ?_ (Reg.Steps.cons ?_ (Reg.Steps.cons ?_ (Reg.Steps.cons ?_ (Reg.Steps.cons ?_ (Reg.Steps.cons ?_ (Reg.Steps.cons ?_ (Reg.Steps.cons ?_ (Reg.Steps.cons ?_ (Reg.Steps.cons ?_ (Reg.Steps.cons ?_ (Reg.Steps.cons ?_ (Reg.Steps.cons ?_ (Reg.Steps.cons ?_ (Reg.Steps.cons ?_ (Reg.Steps.cons ?_ (Reg.Steps.cons ?_ (Reg.Steps.cons ?_ (Reg.Steps.cons ?_ (Reg.Steps.cons ?_ (Reg.Steps.cons ?_ (Reg.Steps.cons ?_ (Reg.Steps.cons ?_ (Reg.Steps.cons ?_ (Reg.Steps.nil _)))))))))))))))))))))))))))))))))))))))))
              · intro val ac u hR hp ha K hK
                have e0 : (ac.tmps[0]?).getD undef = .slice (some ⟨b, o, none⟩) h.length c := ha 0 (by decide); clear ha hp
                refine Reg.Op1.plain rfl ?_
                go_wp2
                exact ⟨rfl, hK _ _ rfl (fun j k _ _ => Reg.Adds.refl _ _ _)⟩
              · intro val ac u hR hp ha K hK
                have e8 : (ac.tmps[8]?).getD undef = .int .i64 k := ha 8 (by decide); clear ha hp
                refine Reg.Op1.plain rfl ?_
                go_wp2
                exact ⟨rfl, hK _ _ rfl (fun j k _ _ => Reg.Adds.refl _ _ _)⟩
              · intro val ac u hR hp ha K hK
                obtain ⟨w27, h27, r27⟩ := hp 0 (by decide); have e27 : (ac.tmps[27]?).getD undef = .slice (some ⟨b, o, none⟩) h.length c := (ha 27 (by decide)).trans h27; obtain ⟨w28, h28, r28⟩ := hp 1 (by decide); have e28 : (ac.tmps[28]?).getD undef = .int .i64 k := (ha 28 (by decide)).trans h28; clear h27 h28 ha hp
                refine Reg.Op1.plain rfl ?_
                go_wp2
                exact ⟨rfl, hK _ _ rfl (fun j k _ _ => Reg.Adds.refl _ _ _)⟩
              · intro val ac u hR hp ha K hK
                obtain ⟨w29, h29, r29⟩ := hp 2 (by decide); have e29 : (ac.tmps[29]?).getD undef = .pointer (some ⟨b, o + k * 20, none⟩) := (ha 29 (by decide)).trans h29; clear h29 ha hp
                refine Reg.Op1.plain rfl ?_
                refine Mem.load_agg _ _ event_agg b (o + k * 20) (evCells e) (Reg.eval_of e29) (evCells_length _) (fun q u' hu => (hR.cell (p := ⟨b, o + k * 20 + q, none⟩) hbw).trans (HAT.out q u' hu)) ?_
                exact ⟨rfl, hK _ _ rfl (fun j k _ _ => Reg.Adds.refl _ _ _)⟩
              · intro val ac u hR hp ha K hK
                obtain ⟨w30, h30, r30⟩ := hp 3 (by decide); have e30 : (ac.tmps[30]?).getD undef = .agg (evCells e).toArray := (ha 30 (by decide)).trans h30; clear h30 ha hp
                refine Reg.Op1.plain rfl ?_
                go_wp2_with fail
                refine (beginning_any e u).mono ?_
                rintro x w' ⟨rfl, hbw⟩
                rw [HBG.out]
                go_wp2_with fail
                exact ⟨rfl, hK _ _ rfl (fun j k _ _ => hbw)⟩
              · intro val ac u hR hp ha K hK
                obtain ⟨w31, h31, r31⟩ := hp 4 (by decide); have e31 : (ac.tmps[31]?).getD undef = .bool true := (ha 31 (by decide)).trans h31; clear h31 ha hp
                refine Reg.Op1.plain rfl ?_
                go_wp2
                exact ⟨rfl, hK _ _ rfl (fun j k _ _ => Reg.Adds.refl _ _ _)⟩
              · intro val ac u hR hp ha K hK
                obtain ⟨w32, h32, r32⟩ := hp 5 (by decide); have e32 : (ac.tmps[32]?).getD undef = .bool false := (ha 32 (by decide)).trans h32; clear h32 ha hp
                refine Reg.Op1.plain rfl ?_
                go_wp2
                exact ⟨rfl, hK _ _ rfl (fun j k _ _ => Reg.Adds.refl _ _ _)⟩
              · intro val ac u hR hp ha K hK
                have e0 : (ac.tmps[0]?).getD undef = .slice (some ⟨b, o, none⟩) h.length c := ha 0 (by decide); obtain ⟨w33, h33, r33⟩ := hp 6 (by decide); have e33 : (ac.tmps[33]?).getD undef = .bool false := (ha 33 (by decide)).trans h33; clear h33 ha hp
                refine Reg.Op1.guarded rfl rfl e33 (fun _ => Reg.Op1.plain rfl ?_) (fun h => absurd rfl h)
                go_wp2
                exact ⟨rfl, hK _ _ rfl (fun j k _ _ => Reg.Adds.refl _ _ _)⟩
              · intro val ac u hR hp ha K hK
                have e8 : (ac.tmps[8]?).getD undef = .int .i64 k := ha 8 (by decide); obtain ⟨w33, h33, r33⟩ := hp 6 (by decide); have e33 : (ac.tmps[33]?).getD undef = .bool false := (ha 33 (by decide)).trans h33; clear h33 ha hp
                refine Reg.Op1.guarded rfl rfl e33 (fun _ => Reg.Op1.plain rfl ?_) (fun h => absurd rfl h)
                go_wp2
                exact ⟨rfl, hK _ _ rfl (fun j k _ _ => Reg.Adds.refl _ _ _)⟩
              · intro val ac u hR hp ha K hK
                obtain ⟨w34, h34, r34⟩ := hp 7 (by decide); have e34 : (ac.tmps[34]?).getD undef = .slice (some ⟨b, o, none⟩) h.length c := (ha 34 (by decide)).trans h34; obtain ⟨w35, h35, r35⟩ := hp 8 (by decide); have e35 : (ac.tmps[35]?).getD undef = .int .i64 k := (ha 35 (by decide)).trans h35; obtain ⟨w33, h33, r33⟩ := hp 6 (by decide); have e33 : (ac.tmps[33]?).getD undef = .bool false := (ha 33 (by decide)).trans h33; clear h34 h35 h33 ha hp
                refine Reg.Op1.guarded rfl rfl e33 (fun _ => Reg.Op1.plain rfl ?_) (fun h => absurd rfl h)
                go_wp2
                exact ⟨rfl, hK _ _ rfl (fun j k _ _ => Reg.Adds.refl _ _ _)⟩
              · intro val ac u hR hp ha K hK
                obtain ⟨w36, h36, r36⟩ := hp 9 (by decide); have e36 : (ac.tmps[36]?).getD undef = .pointer (some ⟨b, o + k * 20, none⟩) := (ha 36 (by decide)).trans h36; obtain ⟨w33, h33, r33⟩ := hp 6 (by decide); have e33 : (ac.tmps[33]?).getD undef = .bool false := (ha 33 (by decide)).trans h33; clear h36 h33 ha hp
                refine Reg.Op1.guarded rfl rfl e33 (fun _ => Reg.Op1.plain rfl ?_) (fun h => absurd rfl h)
                go_wp2
                exact ⟨rfl, hK _ _ rfl (fun j k _ _ => Reg.Adds.refl _ _ _)⟩
              · intro val ac u hR hp ha K hK
                obtain ⟨w37, h37, r37⟩ := hp 10 (by decide); have e37 : (ac.tmps[37]?).getD undef = .pointer (some ⟨b, o + k * 20, none⟩) := (ha 37 (by decide)).trans h37; obtain ⟨w33, h33, r33⟩ := hp 6 (by decide); have e33 : (ac.tmps[33]?).getD undef = .bool false := (ha 33 (by decide)).trans h33; clear h37 h33 ha hp
                refine Reg.Op1.guarded rfl rfl e33 (fun _ => Reg.Op1.plain rfl ?_) (fun h => absurd rfl h)
                have x0 := (hR.cell (p := ⟨b, o + k * 20, none⟩) hbw).trans (HAT.out 0 _ rfl)
                go_wp2
                exact ⟨rfl, hK _ _ rfl (fun j k _ _ => Reg.Adds.refl _ _ _)⟩
              · intro val ac u hR hp ha K hK
                have e7 : (ac.tmps[7]?).getD undef = .pointer (some ⟨w.heap.size + 1, 0, none⟩) := ha 7 (by decide); obtain ⟨w33, h33, r33⟩ := hp 6 (by decide); have e33 : (ac.tmps[33]?).getD undef = .bool false := (ha 33 (by decide)).trans h33; clear h33 ha hp
                refine Reg.Op1.guarded rfl rfl e33 (fun _ => Reg.Op1.plain rfl ?_) (fun h => absurd rfl h)
                go_wp2
                exact ⟨rfl, hK _ _ rfl (fun j k _ _ => Reg.Adds.refl _ _ _)⟩
              · intro val ac u hR hp ha K hK
                obtain ⟨w39, h39, r39⟩ := hp 12 (by decide); have e39 : (ac.tmps[39]?).getD undef = .pointer (some ⟨w.heap.size + 1, 18, none⟩) := (ha 39 (by decide)).trans h39; obtain ⟨w33, h33, r33⟩ := hp 6 (by decide); have e33 : (ac.tmps[33]?).getD undef = .bool false := (ha 33 (by decide)).trans h33; clear h39 h33 ha hp
                refine Reg.Op1.guarded rfl rfl e33 (fun _ => Reg.Op1.plain rfl ?_) (fun h => absurd rfl h)
                have x0 := (Mem.Bx.below (w := w3.drew) HE3.out hR HE3.out.lt).cell (j := 18) rfl
                go_wp2
                exact ⟨rfl, hK _ _ rfl (fun j k _ _ => Reg.Adds.refl _ _ _)⟩
              · intro val ac u hR hp ha K hK
                obtain ⟨w38, h38, r38⟩ := hp 11 (by decide); have e38 : (ac.tmps[38]?).getD undef = .int .i64 e.cl := (ha 38 (by decide)).trans h38; obtain ⟨w40, h40, r40⟩ := hp 13 (by decide); have e40 : (ac.tmps[40]?).getD undef = .int .i64 r.e.cl := (ha 40 (by decide)).trans h40; obtain ⟨w33, h33, r33⟩ := hp 6 (by decide); have e33 : (ac.tmps[33]?).getD undef = .bool false := (ha 33 (by decide)).trans h33; clear h38 h40 h33 ha hp
                have hq := HQ2.out
                refine Reg.Op1.guarded rfl rfl e33 (fun _ => Reg.Op1.plain rfl ?_) (fun h => absurd rfl h)
                go_wp2
                exact ⟨rfl, hK _ _ rfl (fun j k _ _ => Reg.Adds.refl _ _ _)⟩
              · intro val ac u hR hp ha K hK
                obtain ⟨w33, h33, r33⟩ := hp 6 (by decide); have e33 : (ac.tmps[33]?).getD undef = .bool false := (ha 33 (by decide)).trans h33; obtain ⟨w41, h41, r41⟩ := hp 14 (by decide); have e41 : (ac.tmps[41]?).getD undef = .bool true := (ha 41 (by decide)).trans h41; clear h33 h41 ha hp
                refine Reg.Op1.plain rfl ?_
                go_wp2
                exact ⟨rfl, hK _ _ rfl (fun j k _ _ => Reg.Adds.refl _ _ _)⟩
              · intro val ac u hR hp ha K hK
                obtain ⟨w42, h42, r42⟩ := hp 15 (by decide); have e42 : (ac.tmps[42]?).getD undef = .bool true := (ha 42 (by decide)).trans h42; clear h42 ha hp
                refine Reg.Op1.plain rfl ?_
                go_wp2
                exact ⟨rfl, hK _ _ rfl (fun j k _ _ => Reg.Adds.refl _ _ _)⟩
              · intro val ac u hR hp ha K hK; obtain ⟨_, h, _⟩ := hp 16 (by decide); exact Reg.Op1.guarded rfl rfl ((ha 43 (by decide)).trans h) (fun h => by cases h) (fun _ => hK _ _ rfl (fun j k _ _ => Reg.Adds.refl _ _ _))
              · intro val ac u hR hp ha K hK; obtain ⟨_, h, _⟩ := hp 16 (by decide); exact Reg.Op1.guarded rfl rfl ((ha 43 (by decide)).trans h) (fun h => by cases h) (fun _ => hK _ _ rfl (fun j k _ _ => Reg.Adds.refl _ _ _))
              · intro val ac u hR hp ha K hK; obtain ⟨_, h, _⟩ := hp 16 (by decide); exact Reg.Op1.guarded rfl rfl ((ha 43 (by decide)).trans h) (fun h => by cases h) (fun _ => hK _ _ rfl (fun j k _ _ => Reg.Adds.refl _ _ _))
              · intro val ac u hR hp ha K hK; obtain ⟨_, h, _⟩ := hp 16 (by decide); exact Reg.Op1.guarded rfl rfl ((ha 43 (by decide)).trans h) (fun h => by cases h) (fun _ => hK _ _ rfl (fun j k _ _ => Reg.Adds.refl _ _ _))
              · intro val ac u hR hp ha K hK; obtain ⟨_, h, _⟩ := hp 16 (by decide); exact Reg.Op1.guarded rfl rfl ((ha 43 (by decide)).trans h) (fun h => by cases h) (fun _ => hK _ _ rfl (fun j k _ _ => Reg.Adds.refl _ _ _))
              · intro val ac u hR hp ha K hK; obtain ⟨_, h, _⟩ := hp 16 (by decide); exact Reg.Op1.guarded rfl rfl ((ha 43 (by decide)).trans h) (fun h => by cases h) (fun _ => hK _ _ rfl (fun j k _ _ => Reg.Adds.refl _ _ _))
              · intro val ac u hR hp ha K hK; obtain ⟨_, h, _⟩ := hp 16 (by decide); exact Reg.Op1.guarded rfl rfl ((ha 43 (by decide)).trans h) (fun h => by cases h) (fun _ => hK _ _ rfl (fun j k _ _ => Reg.Adds.refl _ _ _))
              · intro val ac u hR hp ha K hK; obtain ⟨_, h, _⟩ := hp 16 (by decide); exact Reg.Op1.guarded rfl rfl ((ha 43 (by decide)).trans h) (fun h => by cases h) (fun _ => hK _ _ rfl (fun j k _ _ => Reg.Adds.refl _ _ _))
              · intro val ac u hR hp ha K hK
                obtain ⟨w43, h43, r43⟩ := hp 16 (by decide); have e43 : (ac.tmps[43]?).getD undef = .bool true := (ha 43 (by decide)).trans h43; obtain ⟨w51, h51, r51⟩ := hp 24 (by decide); have e51 : (ac.tmps[51]?).getD undef = undef := (ha 51 (by decide)).trans h51; clear h43 h51 ha hp
                refine Reg.Op1.plain rfl ?_
                go_wp2
                exact ⟨rfl, hK _ _ rfl (fun j k _ _ => Reg.Adds.refl _ _ _)⟩
              · intro val ac u hR hp ha K hK
                obtain ⟨w52, h52, r52⟩ := hp 25 (by decide); have e52 : (ac.tmps[52]?).getD undef = .bool true := (ha 52 (by decide)).trans h52; clear h52 ha hp
                refine Reg.Op1.plain rfl ?_
                go_wp2
                exact ⟨rfl, hK _ _ rfl (fun j k _ _ => Reg.Adds.refl _ _ _)⟩
              · intro val ac u hR hp ha K hK; obtain ⟨_, h, _⟩ := hp 26 (by decide); exact Reg.Op1.guarded rfl rfl ((ha 53 (by decide)).trans h) (fun h => by cases h) (fun _ => hK _ _ rfl (fun j k _ _ => Reg.Adds.refl _ _ _))
              · intro val ac u hR hp ha K hK; obtain ⟨_, h, _⟩ := hp 26 (by decide); exact Reg.Op1.guarded rfl rfl ((ha 53 (by decide)).trans h) (fun h => by cases h) (fun _ => hK _ _ rfl (fun j k _ _ => Reg.Adds.refl _ _ _))
              · intro val ac u hR hp ha K hK; obtain ⟨_, h, _⟩ := hp 26 (by decide); exact Reg.Op1.guarded rfl rfl ((ha 53 (by decide)).trans h) (fun h => by cases h) (fun _ => hK _ _ rfl (fun j k _ _ => Reg.Adds.refl _ _ _))
              · intro val ac u hR hp ha K hK; obtain ⟨_, h, _⟩ := hp 26 (by decide); exact Reg.Op1.guarded rfl rfl ((ha 53 (by decide)).trans h) (fun h => by cases h) (fun _ => hK _ _ rfl (fun j k _ _ => Reg.Adds.refl _ _ _))
              · intro val ac u hR hp ha K hK
                obtain ⟨w53, h53, r53⟩ := hp 26 (by decide); have e53 : (ac.tmps[53]?).getD undef = .bool true := (ha 53 (by decide)).trans h53; obtain ⟨w57, h57, r57⟩ := hp 30 (by decide); have e57 : (ac.tmps[57]?).getD undef = undef := (ha 57 (by decide)).trans h57; clear h53 h57 ha hp
                refine Reg.Op1.plain rfl ?_
                go_wp2
                exact ⟨rfl, hK _ _ rfl (fun j k _ _ => Reg.Adds.refl _ _ _)⟩
              · intro val ac u hR hp ha K hK
                obtain ⟨w58, h58, r58⟩ := hp 31 (by decide); have e58 : (ac.tmps[58]?).getD undef = .bool true := (ha 58 (by decide)).trans h58; clear h58 ha hp
                refine Reg.Op1.plain rfl ?_
                go_wp2
                exact ⟨rfl, hK _ _ rfl (fun j k _ _ => Reg.Adds.refl _ _ _)⟩
              · intro val ac u hR hp ha K hK; obtain ⟨_, h, _⟩ := hp 32 (by decide); exact Reg.Op1.guarded rfl rfl ((ha 59 (by decide)).trans h) (fun h => by cases h) (fun _ => hK _ _ rfl (fun j k _ _ => Reg.Adds.refl _ _ _))
              · intro val ac u hR hp ha K hK; obtain ⟨_, h, _⟩ := hp 32 (by decide); exact Reg.Op1.guarded rfl rfl ((ha 59 (by decide)).trans h) (fun h => by cases h) (fun _ => hK _ _ rfl (fun j k _ _ => Reg.Adds.refl _ _ _))
              · intro val ac u hR hp ha K hK; obtain ⟨_, h, _⟩ := hp 32 (by decide); exact Reg.Op1.guarded rfl rfl ((ha 59 (by decide)).trans h) (fun h => by cases h) (fun _ => hK _ _ rfl (fun j k _ _ => Reg.Adds.refl _ _ _))
              · intro val ac u hR hp ha K hK; obtain ⟨_, h, _⟩ := hp 32 (by decide); exact Reg.Op1.guarded rfl rfl ((ha 59 (by decide)).trans h) (fun h => by cases h) (fun _ => hK _ _ rfl (fun j k _ _ => Reg.Adds.refl _ _ _))
              · intro val ac u hR hp ha K hK; obtain ⟨_, h, _⟩ := hp 32 (by decide); exact Reg.Op1.guarded rfl rfl ((ha 59 (by decide)).trans h) (fun h => by cases h) (fun _ => hK _ _ rfl (fun j k _ _ => Reg.Adds.refl _ _ _))
              · intro val ac u hR hp ha K hK; obtain ⟨_, h, _⟩ := hp 32 (by decide); exact Reg.Op1.guarded rfl rfl ((ha 59 (by decide)).trans h) (fun h => by cases h) (fun _ => hK _ _ rfl (fun j k _ _ => Reg.Adds.refl _ _ _))
              · intro val ac u hR hp ha K hK; obtain ⟨_, h, _⟩ := hp 32 (by decide); exact Reg.Op1.guarded rfl rfl ((ha 59 (by decide)).trans h) (fun h => by cases h) (fun _ => hK _ _ rfl (fun j k _ _ => Reg.Adds.refl _ _ _))
              · intro val ac u hR hp ha K hK
                obtain ⟨w59, h59, r59⟩ := hp 32 (by decide); have e59 : (ac.tmps[59]?).getD undef = .bool true := (ha 59 (by decide)).trans h59; obtain ⟨w66, h66, r66⟩ := hp 39 (by decide); have e66 : (ac.tmps[66]?).getD undef = undef := (ha 66 (by decide)).trans h66; clear h59 h66 ha hp
                refine Reg.Op1.plain rfl ?_
                go_wp2
                exact ⟨rfl, hK _ _ rfl (fun j k _ _ => Reg.Adds.refl _ _ _)⟩
            intro val u hR H
            obtain ⟨wB, hv, rB⟩ := H 40 (by decide)
            have hv : val 40 = .bool true := hv
            have HKu : Hid (Below w3.heap.size w3 u) := (Below.refl _ w3).drew.trans hR
            simp only [List.map_cons, List.map_nil, Reg.lay, Act.put, List.setIfInBounds_toArray, List.set_cons_succ, List.set_cons_zero, Nat.reduceAdd, hv]
            clear hR H hv rB
            obtain ⟨wy, hwy⟩ : ∃ z, z = u := ⟨_, rfl⟩
            subst hwy
            have HE4 : Hid (Vec.EBx wy (w.heap.size + 1) r.e) := HE3.out.below HKu.out HE3.out.lt
            have HB4 : Hid (Below w.heap.size w wy) := HB3.out.trans (HKu.out.mono HB3.out.size)
            have HA4 : Hid (Mem.Bx wy 42 4 wr.heap.size (askCells e)) := HA3.out.below HKu.out HA3.out.lt
            clear HE3 HB3 HA3 HKu HAT hbw
            go_wp2
            go_roundw
            case rel => exact ⟨⟨k + 1, HLT.out, by go_num, HN, HE4, HB4⟩⟩
            case measure => have := HLT.out; simp [intOf]; omega
          case pos =>
            have HQ2 : Hid ((e.cl != r.e.cl) = false) := by show _ = _; simpa using h1
            by_cases h2 : e.op = r.e.op
            case neg =>
              have hno : askM r.e e = false := by rw [HAM.out, decide_eq_false h2, Bool.false_and, Bool.and_false]
              have HQ3 : Hid ((e.op != r.e.op) = true) := by show _ = _; simpa using h2
              clear h1 h2
              have HN : Hid ((h.take (k + 1)).any (askM r.e) = false) := by show _ = _; rw [any_snoc HHE.out, HT.out, hno]; rfl
              clear hno
              refine Reg.wp_region_rel (by kernel_rfl) 97 41 rfl rfl (by kernel_rfl) (Reg.Adds) (Reg.Adds.refl) (Reg.Adds.trans)
                (fun i v u => match i with
                  | 0 => v = .slice (some ⟨b, o, none⟩) h.length c
                  | 1 => v = .int .i64 k
                  | 2 => v = .pointer (some ⟨b, o + k * 20, none⟩)
                  | 3 => v = .agg (evCells e).toArray
                  | 4 => v = .bool true
                  | 5 => v = .bool false
                  | 6 => v = .bool false
                  | 7 => v = .slice (some ⟨b, o, none⟩) h.length c
                  | 8 => v = .int .i64 k
                  | 9 => v = .pointer (some ⟨b, o + k * 20, none⟩)
                  | 10 => v = .pointer (some ⟨b, o + k * 20, none⟩)
                  | 11 => v = .int .i64 e.cl
                  | 12 => v = .pointer (some ⟨w.heap.size + 1, 18, none⟩)
                  | 13 => v = .int .i64 r.e.cl
                  | 14 => v = .bool false
                  | 15 => v = .bool false
                  | 16 => v = .bool false
                  | 17 => v = .slice (some ⟨b, o, none⟩) h.length c
                  | 18 => v = .int .i64 k
                  | 19 => v = .pointer (some ⟨b, o + k * 20, none⟩)
                  | 20 => v = .pointer (some ⟨b, o + k * 20 + 1, none⟩)
                  | 21 => v = .int .i64 e.op
                  | 22 => v = .pointer (some ⟨w.heap.size + 1, 19, none⟩)
                  | 23 => v = .int .i64 r.e.op
                  | 24 => v = .bool true
                  | 25 => v = .bool true
                  | 26 => v = .bool true
                  | 27 => v = undef
                  | 28 => v = undef
                  | 29 => v = undef
                  | 30 => v = undef
                  | 31 => v = .bool true
                  | 32 => v = .bool true
                  | 33 => v = undef
                  | 34 => v = undef
                  | 35 => v = undef
                  | 36 => v = undef
                  | 37 => v = undef
                  | 38 => v = undef
                  | 39 => v = undef
                  | 40 => v = .bool true
                  | _ => True) ?_ ?_
              · refine Reg.Steps.cons ?_ (Reg.Steps.cons ?_ (Reg.Steps.cons ?_ (Reg.Steps.cons ?_ (Reg.Steps.cons ?_ (Reg.Steps.cons ?_ (Reg.Steps.cons ?_ (Reg.Steps.cons ?_ (Reg.Steps.cons ?_ (Reg.Steps.cons ?_ (Reg.Steps.cons ?_ (Reg.Steps.cons ?_ (Reg.Steps.cons ?_ (Reg.Steps.cons ?_ (Reg.Steps.cons ?_ (Reg.Steps.cons ?_ (Reg.Steps.cons ?_ (Reg.Steps.cons ?_ (Reg.Steps.cons ?_ (Reg.Steps.cons ?_ (Reg.Steps.cons ?_ (Reg.Steps.cons ?_ (Reg.Steps.cons ?_ (Reg.Steps.cons ?_ (Reg.Steps.cons ?_ (Reg.Steps.cons ?_ (Reg.Steps.cons ?_ (Reg.Steps.cons ?_ (Reg.Steps.cons ?_ (Reg.Steps.cons ?_ (Reg.Steps.cons ?_ (Reg.Steps.cons ?_ (Reg.Steps.cons ?_ (Reg.Steps.cons ?_ (Reg.Steps.cons ?_ (Reg.Steps.cons ?_ (Reg.Steps.cons ?_ (Reg.Steps.cons ?_ (Reg.Steps.cons ?_ (Reg.Steps.cons ?_ (Reg.Steps.cons ?_ (Reg.Steps.nil _)))))))))))))))))))))))))))))))))))))))))
                · intro val ac u hR hp ha K hK
                  have e0 : (ac.tmps[0]?).getD undef = .slice (some ⟨b, o, none⟩) h.length c := ha 0 (by decide); clear ha hp
                  refine Reg.Op1.plain rfl ?_
                  go_wp2
                  exact ⟨rfl, hK _ _ rfl (fun j k _ _ => Reg.Adds.refl _ _ _)⟩
                · intro val ac u hR hp ha K hK
                  have e8 : (ac.tmps[8]?).getD undef = .int .i64 k := ha 8 (by decide); clear ha hp
                  refine Reg.Op1.plain rfl ?_
                  go_wp2
                  exact ⟨rfl, hK _ _ rfl (fun j k _ _ => Reg.Adds.refl _ _ _)⟩
                · intro val ac u hR hp ha K hK
                  obtain ⟨w27, h27, r27⟩ := hp 0 (by decide); have e27 : (ac.tmps[27]?).getD undef = .slice (some ⟨b, o, none⟩) h.length c := (ha 27 (by decide)).trans h27; obtain ⟨w28, h28, r28⟩ := hp 1 (by decide); have e28 : (ac.tmps[28]?).getD undef = .int .i64 k := (ha 28 (by decide)).trans h28; clear h27 h28 ha hp
                  refine Reg.Op1.plain rfl ?_
                  go_wp2
                  exact ⟨rfl, hK _ _ rfl (fun j k _ _ => Reg.Adds.refl _ _ _)⟩
                · intro val ac u hR hp ha K hK
                  obtain ⟨w29, h29, r29⟩ := hp 2 (by decide); have e29 : (ac.tmps[29]?).getD undef = .pointer (some ⟨b, o + k * 20, none⟩) := (ha 29 (by decide)).trans h29; clear h29 ha hp
                  refine Reg.Op1.plain rfl ?_
                  refine Mem.load_agg _ _ event_agg b (o + k * 20) (evCells e) (Reg.eval_of e29) (evCells_length _) (fun q u' hu => (hR.cell (p := ⟨b, o + k * 20 + q, none⟩) hbw).trans (HAT.out q u' hu)) ?_
                  exact ⟨rfl, hK _ _ rfl (fun j k _ _ => Reg.Adds.refl _ _ _)⟩
                · intro val ac u hR hp ha K hK
                  obtain ⟨w30, h30, r30⟩ := hp 3 (by decide); have e30 : (ac.tmps[30]?).getD undef = .agg (evCells e).toArray := (ha 30 (by decide)).trans h30; clear h30 ha hp
                  refine Reg.Op1.plain rfl ?_
                  go_wp2_with fail
                  refine (beginning_any e u).mono ?_
                  rintro x w' ⟨rfl, hbw⟩
                  rw [HBG.out]
                  go_wp2_with fail
                  exact ⟨rfl, hK _ _ rfl (fun j k _ _ => hbw)⟩
                · intro val ac u hR hp ha K hK
                  obtain ⟨w31, h31, r31⟩ := hp 4 (by decide); have e31 : (ac.tmps[31]?).getD undef = .bool true := (ha 31 (by decide)).trans h31; clear h31 ha hp
                  refine Reg.Op1.plain rfl ?_
                  go_wp2
                  exact ⟨rfl, hK _ _ rfl (fun j k _ _ => Reg.Adds.refl _ _ _)⟩
                · intro val ac u hR hp ha K hK
                  obtain ⟨w32, h32, r32⟩ := hp 5 (by decide); have e32 : (ac.tmps[32]?).getD undef = .bool false := (ha 32 (by decide)).trans h32; clear h32 ha hp
                  refine Reg.Op1.plain rfl ?_
                  go_wp2
                  exact ⟨rfl, hK _ _ rfl (fun j k _ _ => Reg.Adds.refl _ _ _)⟩
                · intro val ac u hR hp ha K hK
                  have e0 : (ac.tmps[0]?).getD undef = .slice (some ⟨b, o, none⟩) h.length c := ha 0 (by decide); obtain ⟨w33, h33, r33⟩ := hp 6 (by decide); have e33 : (ac.tmps[33]?).getD undef = .bool false := (ha 33 (by decide)).trans h33; clear h33 ha hp
                  refine Reg.Op1.guarded rfl rfl e33 (fun _ => Reg.Op1.plain rfl ?_) (fun h => absurd rfl h)
                  go_wp2
                  exact ⟨rfl, hK _ _ rfl (fun j k _ _ => Reg.Adds.refl _ _ _)⟩
                · intro val ac u hR hp ha K hK
                  have e8 : (ac.tmps[8]?).getD undef = .int .i64 k := ha 8 (by decide); obtain ⟨w33, h33, r33⟩ := hp 6 (by decide); have e33 : (ac.tmps[33]?).getD undef = .bool false := (ha 33 (by decide)).trans h33; clear h33 ha hp
                  refine Reg.Op1.guarded rfl rfl e33 (fun _ => Reg.Op1.plain rfl ?_) (fun h => absurd rfl h)
                  go_wp2
                  exact ⟨rfl, hK _ _ rfl (fun j k _ _ => Reg.Adds.refl _ _ _)⟩
                · intro val ac u hR hp ha K hK
                  obtain ⟨w34, h34, r34⟩ := hp 7 (by decide); have e34 : (ac.tmps[34]?).getD undef = .slice (some ⟨b, o, none⟩) h.length c := (ha 34 (by decide)).trans h34; obtain ⟨w35, h35, r35⟩ := hp 8 (by decide); have e35 : (ac.tmps[35]?).getD undef = .int .i64 k := (ha 35 (by decide)).trans h35; obtain ⟨w33, h33, r33⟩ := hp 6 (by decide); have e33 : (ac.tmps[33]?).getD undef = .bool false := (ha 33 (by decide)).trans h33; clear h34 h35 h33 ha hp
                  refine Reg.Op1.guarded rfl rfl e33 (fun _ => Reg.Op1.plain rfl ?_) (fun h => absurd rfl h)
                  go_wp2
                  exact ⟨rfl, hK _ _ rfl (fun j k _ _ => Reg.Adds.refl _ _ _)⟩
                · intro val ac u hR hp ha K hK
                  obtain ⟨w36, h36, r36⟩ := hp 9 (by decide); have e36 : (ac.tmps[36]?).getD undef = .pointer (some ⟨b, o + k * 20, none⟩) := (ha 36 (by decide)).trans h36; obtain ⟨w33, h33, r33⟩ := hp 6 (by decide); have e33 : (ac.tmps[33]?).getD undef = .bool false := (ha 33 (by decide)).trans h33; clear h36 h33 ha hp
                  refine Reg.Op1.guarded rfl rfl e33 (fun _ => Reg.Op1.plain rfl ?_) (fun h => absurd rfl h)
                  go_wp2
                  exact ⟨rfl, hK _ _ rfl (fun j k _ _ => Reg.Adds.refl _ _ _)⟩
                · intro val ac u hR hp ha K hK
                  obtain ⟨w37, h37, r37⟩ := hp 10 (by decide); have e37 : (ac.tmps[37]?).getD undef = .pointer (some ⟨b, o + k * 20, none⟩) := (ha 37 (by decide)).trans h37; obtain ⟨w33, h33, r33⟩ := hp 6 (by decide); have e33 : (ac.tmps[33]?).getD undef = .bool false := (ha 33 (by decide)).trans h33; clear h37 h33 ha hp
                  refine Reg.Op1.guarded rfl rfl e33 (fun _ => Reg.Op1.plain rfl ?_) (fun h => absurd rfl h)
                  have x0 := (hR.cell (p := ⟨b, o + k * 20, none⟩) hbw).trans (HAT.out 0 _ rfl)
                  go_wp2
                  exact ⟨rfl, hK _ _ rfl (fun j k _ _ => Reg.Adds.refl _ _ _)⟩
                · intro val ac u hR hp ha K hK
                  have e7 : (ac.tmps[7]?).getD undef = .pointer (some ⟨w.heap.size + 1, 0, none⟩) := ha 7 (by decide); obtain ⟨w33, h33, r33⟩ := hp 6 (by decide); have e33 : (ac.tmps[33]?).getD undef = .bool false := (ha 33 (by decide)).trans h33; clear h33 ha hp
                  refine Reg.Op1.guarded rfl rfl e33 (fun _ => Reg.Op1.plain rfl ?_) (fun h => absurd rfl h)
                  go_wp2
                  exact ⟨rfl, hK _ _ rfl (fun j k _ _ => Reg.Adds.refl _ _ _)⟩
                · intro val ac u hR hp ha K hK
                  obtain ⟨w39, h39, r39⟩ := hp 12 (by decide); have e39 : (ac.tmps[39]?).getD undef = .pointer (some ⟨w.heap.size + 1, 18, none⟩) := (ha 39 (by decide)).trans h39; obtain ⟨w33, h33, r33⟩ := hp 6 (by decide); have e33 : (ac.tmps[33]?).getD undef = .bool false := (ha 33 (by decide)).trans h33; clear h39 h33 ha hp
                  refine Reg.Op1.guarded rfl rfl e33 (fun _ => Reg.Op1.plain rfl ?_) (fun h => absurd rfl h)
                  have x0 := (Mem.Bx.below (w := w3.drew) HE3.out hR HE3.out.lt).cell (j := 18) rfl
                  go_wp2
                  exact ⟨rfl, hK _ _ rfl (fun j k _ _ => Reg.Adds.refl _ _ _)⟩
                · intro val ac u hR hp ha K hK
                  obtain ⟨w38, h38, r38⟩ := hp 11 (by decide); have e38 : (ac.tmps[38]?).getD undef = .int .i64 e.cl := (ha 38 (by decide)).trans h38; obtain ⟨w40, h40, r40⟩ := hp 13 (by decide); have e40 : (ac.tmps[40]?).getD undef = .int .i64 r.e.cl := (ha 40 (by decide)).trans h40; obtain ⟨w33, h33, r33⟩ := hp 6 (by decide); have e33 : (ac.tmps[33]?).getD undef = .bool false := (ha 33 (by decide)).trans h33; clear h38 h40 h33 ha hp
                  have hq := HQ2.out
                  refine Reg.Op1.guarded rfl rfl e33 (fun _ => Reg.Op1.plain rfl ?_) (fun h => absurd rfl h)
                  go_wp2
                  exact ⟨rfl, hK _ _ rfl (fun j k _ _ => Reg.Adds.refl _ _ _)⟩
                · intro val ac u hR hp ha K hK
                  obtain ⟨w33, h33, r33⟩ := hp 6 (by decide); have e33 : (ac.tmps[33]?).getD undef = .bool false := (ha 33 (by decide)).trans h33; obtain ⟨w41, h41, r41⟩ := hp 14 (by decide); have e41 : (ac.tmps[41]?).getD undef = .bool false := (ha 41 (by decide)).trans h41; clear h33 h41 ha hp
                  refine Reg.Op1.plain rfl ?_
                  go_wp2
                  exact ⟨rfl, hK _ _ rfl (fun j k _ _ => Reg.Adds.refl _ _ _)⟩
                · intro val ac u hR hp ha K hK
                  obtain ⟨w42, h42, r42⟩ := hp 15 (by decide); have e42 : (ac.tmps[42]?).getD undef = .bool false := (ha 42 (by decide)).trans h42; clear h42 ha hp
                  refine Reg.Op1.plain rfl ?_
                  go_wp2
                  exact ⟨rfl, hK _ _ rfl (fun j k _ _ => Reg.Adds.refl _ _ _)⟩
                · intro val ac u hR hp ha K hK
                  have e0 : (ac.tmps[0]?).getD undef = .slice (some ⟨b, o, none⟩) h.length c := ha 0 (by decide); obtain ⟨w43, h43, r43⟩ := hp 16 (by decide); have e43 : (ac.tmps[43]?).getD undef = .bool false := (ha 43 (by decide)).trans h43; clear h43 ha hp
                  refine Reg.Op1.guarded rfl rfl e43 (fun _ => Reg.Op1.plain rfl ?_) (fun h => absurd rfl h)
                  go_wp2
                  exact ⟨rfl, hK _ _ rfl (fun j k _ _ => Reg.Adds.refl _ _ _)⟩
                · intro val ac u hR hp ha K hK
                  have e8 : (ac.tmps[8]?).getD undef = .int .i64 k := ha 8 (by decide); obtain ⟨w43, h43, r43⟩ := hp 16 (by decide); have e43 : (ac.tmps[43]?).getD undef = .bool false := (ha 43 (by decide)).trans h43; clear h43 ha hp
                  refine Reg.Op1.guarded rfl rfl e43 (fun _ => Reg.Op1.plain rfl ?_) (fun h => absurd rfl h)
                  go_wp2
                  exact ⟨rfl, hK _ _ rfl (fun j k _ _ => Reg.Adds.refl _ _ _)⟩
                · intro val ac u hR hp ha K hK
                  obtain ⟨w44, h44, r44⟩ := hp 17 (by decide); have e44 : (ac.tmps[44]?).getD undef = .slice (some ⟨b, o, none⟩) h.length c := (ha 44 (by decide)).trans h44; obtain ⟨w45, h45, r45⟩ := hp 18 (by decide); have e45 : (ac.tmps[45]?).getD undef = .int .i64 k := (ha 45 (by decide)).trans h45; obtain ⟨w43, h43, r43⟩ := hp 16 (by decide); have e43 : (ac.tmps[43]?).getD undef = .bool false := (ha 43 (by decide)).trans h43; clear h44 h45 h43 ha hp
                  refine Reg.Op1.guarded rfl rfl e43 (fun _ => Reg.Op1.plain rfl ?_) (fun h => absurd rfl h)
                  go_wp2
                  exact ⟨rfl, hK _ _ rfl (fun j k _ _ => Reg.Adds.refl _ _ _)⟩
                · intro val ac u hR hp ha K hK
                  obtain ⟨w46, h46, r46⟩ := hp 19 (by decide); have e46 : (ac.tmps[46]?).getD undef = .pointer (some ⟨b, o + k * 20, none⟩) := (ha 46 (by decide)).trans h46; obtain ⟨w43, h43, r43⟩ := hp 16 (by decide); have e43 : (ac.tmps[43]?).getD undef = .bool false := (ha 43 (by decide)).trans h43; clear h46 h43 ha hp
                  refine Reg.Op1.guarded rfl rfl e43 (fun _ => Reg.Op1.plain rfl ?_) (fun h => absurd rfl h)
                  go_wp2
                  exact ⟨rfl, hK _ _ rfl (fun j k _ _ => Reg.Adds.refl _ _ _)⟩
                · intro val ac u hR hp ha K hK
                  obtain ⟨w47, h47, r47⟩ := hp 20 (by decide); have e47 : (ac.tmps[47]?).getD undef = .pointer (some ⟨b, o + k * 20 + 1, none⟩) := (ha 47 (by decide)).trans h47; obtain ⟨w43, h43, r43⟩ := hp 16 (by decide); have e43 : (ac.tmps[43]?).getD undef = .bool false := (ha 43 (by decide)).trans h43; clear h47 h43 ha hp
                  refine Reg.Op1.guarded rfl rfl e43 (fun _ => Reg.Op1.plain rfl ?_) (fun h => absurd rfl h)
                  have x0 := (hR.cell (p := ⟨b, o + k * 20 + 1, none⟩) hbw).trans (HAT.out 1 _ rfl)
                  go_wp2
                  exact ⟨rfl, hK _ _ rfl (fun j k _ _ => Reg.Adds.refl _ _ _)⟩
                · intro val ac u hR hp ha K hK
                  have e7 : (ac.tmps[7]?).getD undef = .pointer (some ⟨w.heap.size + 1, 0, none⟩) := ha 7 (by decide); obtain ⟨w43, h43, r43⟩ := hp 16 (by decide); have e43 : (ac.tmps[43]?).getD undef = .bool false := (ha 43 (by decide)).trans h43; clear h43 ha hp
                  refine Reg.Op1.guarded rfl rfl e43 (fun _ => Reg.Op1.plain rfl ?_) (fun h => absurd rfl h)
                  go_wp2
                  exact ⟨rfl, hK _ _ rfl (fun j k _ _ => Reg.Adds.refl _ _ _)⟩
                · intro val ac u hR hp ha K hK
                  obtain ⟨w49, h49, r49⟩ := hp 22 (by decide); have e49 : (ac.tmps[49]?).getD undef = .pointer (some ⟨w.heap.size + 1, 19, none⟩) := (ha 49 (by decide)).trans h49; obtain ⟨w43, h43, r43⟩ := hp 16 (by decide); have e43 : (ac.tmps[43]?).getD undef = .bool false := (ha 43 (by decide)).trans h43; clear h49 h43 ha hp
                  refine Reg.Op1.guarded rfl rfl e43 (fun _ => Reg.Op1.plain rfl ?_) (fun h => absurd rfl h)
                  have x0 := (Mem.Bx.below (w := w3.drew) HE3.out hR HE3.out.lt).cell (j := 19) rfl
                  go_wp2
                  exact ⟨rfl, hK _ _ rfl (fun j k _ _ => Reg.Adds.refl _ _ _)⟩
                · intro val ac u hR hp ha K hK
                  obtain ⟨w48, h48, r48⟩ := hp 21 (by decide); have e48 : (ac.tmps[48]?).getD undef = .int .i64 e.op := (ha 48 (by decide)).trans h48; obtain ⟨w50, h50, r50⟩ := hp 23 (by decide); have e50 : (ac.tmps[50]?).getD undef = .int .i64 r.e.op := (ha 50 (by decide)).trans h50; obtain ⟨w43, h43, r43⟩ := hp 16 (by decide); have e43 : (ac.tmps[43]?).getD undef = .bool false := (ha 43 (by decide)).trans h43; clear h48 h50 h43 ha hp
                  have hq := HQ3.out
                  refine Reg.Op1.guarded rfl rfl e43 (fun _ => Reg.Op1.plain rfl ?_) (fun h => absurd rfl h)
                  go_wp2
                  exact ⟨rfl, hK _ _ rfl (fun j k _ _ => Reg.Adds.refl _ _ _)⟩
                · intro val ac u hR hp ha K hK
                  obtain ⟨w43, h43, r43⟩ := hp 16 (by decide); have e43 : (ac.tmps[43]?).getD undef = .bool false := (ha 43 (by decide)).trans h43; obtain ⟨w51, h51, r51⟩ := hp 24 (by decide); have e51 : (ac.tmps[51]?).getD undef = .bool true := (ha 51 (by decide)).trans h51; clear h43 h51 ha hp
                  refine Reg.Op1.plain rfl ?_
                  go_wp2
                  exact ⟨rfl, hK _ _ rfl (fun j k _ _ => Reg.Adds.refl _ _ _)⟩
                · intro val ac u hR hp ha K hK
                  obtain ⟨w52, h52, r52⟩ := hp 25 (by decide); have e52 : (ac.tmps[52]?).getD undef = .bool true := (ha 52 (by decide)).trans h52; clear h52 ha hp
                  refine Reg.Op1.plain rfl ?_
                  go_wp2
                  exact ⟨rfl, hK _ _ rfl (fun j k _ _ => Reg.Adds.refl _ _ _)⟩
                · intro val ac u hR hp ha K hK; obtain ⟨_, h, _⟩ := hp 26 (by decide); exact Reg.Op1.guarded rfl rfl ((ha 53 (by decide)).trans h) (fun h => by cases h) (fun _ => hK _ _ rfl (fun j k _ _ => Reg.Adds.refl _ _ _))
                · intro val ac u hR hp ha K hK; obtain ⟨_, h, _⟩ := hp 26 (by decide); exact Reg.Op1.guarded rfl rfl ((ha 53 (by decide)).trans h) (fun h => by cases h) (fun _ => hK _ _ rfl (fun j k _ _ => Reg.Adds.refl _ _ _))
                · intro val ac u hR hp ha K hK; obtain ⟨_, h, _⟩ := hp 26 (by decide); exact Reg.Op1.guarded rfl rfl ((ha 53 (by decide)).trans h) (fun h => by cases h) (fun _ => hK _ _ rfl (fun j k _ _ => Reg.Adds.refl _ _ _))
                · intro val ac u hR hp ha K hK; obtain ⟨_, h, _⟩ := hp 26 (by decide); exact Reg.Op1.guarded rfl rfl ((ha 53 (by decide)).trans h) (fun h => by cases h) (fun _ => hK _ _ rfl (fun j k _ _ => Reg.Adds.refl _ _ _))
                · intro val ac u hR hp ha K hK
                  obtain ⟨w53, h53, r53⟩ := hp 26 (by decide); have e53 : (ac.tmps[53]?).getD undef = .bool true := (ha 53 (by decide)).trans h53; obtain ⟨w57, h57, r57⟩ := hp 30 (by decide); have e57 : (ac.tmps[57]?).getD undef = undef := (ha 57 (by decide)).trans h57; clear h53 h57 ha hp
                  refine Reg.Op1.plain rfl ?_
                  go_wp2
                  exact ⟨rfl, hK _ _ rfl (fun j k _ _ => Reg.Adds.refl _ _ _)⟩
                · intro val ac u hR hp ha K hK
                  obtain ⟨w58, h58, r58⟩ := hp 31 (by decide); have e58 : (ac.tmps[58]?).getD undef = .bool true := (ha 58 (by decide)).trans h58; clear h58 ha hp
                  refine Reg.Op1.plain rfl ?_
                  go_wp2
                  exact ⟨rfl, hK _ _ rfl (fun j k _ _ => Reg.Adds.refl _ _ _)⟩
                · intro val ac u hR hp ha K hK; obtain ⟨_, h, _⟩ := hp 32 (by decide); exact Reg.Op1.guarded rfl rfl ((ha 59 (by decide)).trans h) (fun h => by cases h) (fun _ => hK _ _ rfl (fun j k _ _ => Reg.Adds.refl _ _ _))
                · intro val ac u hR hp ha K hK; obtain ⟨_, h, _⟩ := hp 32 (by decide); exact Reg.Op1.guarded rfl rfl ((ha 59 (by decide)).trans h) (fun h => by cases h) (fun _ => hK _ _ rfl (fun j k _ _ => Reg.Adds.refl _ _ _))
                · intro val ac u hR hp ha K hK; obtain ⟨_, h, _⟩ := hp 32 (by decide); exact Reg.Op1.guarded rfl rfl ((ha 59 (by decide)).trans h) (fun h => by cases h) (fun _ => hK _ _ rfl (fun j k _ _ => Reg.Adds.refl _ _ _))
                · intro val ac u hR hp ha K hK; obtain ⟨_, h, _⟩ := hp 32 (by decide); exact Reg.Op1.guarded rfl rfl ((ha 59 (by decide)).trans h) (fun h => by cases h) (fun _ => hK _ _ rfl (fun j k _ _ => Reg.Adds.refl _ _ _))
                · intro val ac u hR hp ha K hK; obtain ⟨_, h, _⟩ := hp 32 (by decide); exact Reg.Op1.guarded rfl rfl ((ha 59 (by decide)).trans h) (fun h => by cases h) (fun _ => hK _ _ rfl (fun j k _ _ => Reg.Adds.refl _ _ _))
                · intro val ac u hR hp ha K hK; obtain ⟨_, h, _⟩ := hp 32 (by decide); exact Reg.Op1.guarded rfl rfl ((ha 59 (by decide)).trans h) (fun h => by cases h) (fun _ => hK _ _ rfl (fun j k _ _ => Reg.Adds.refl _ _ _))
                · intro val ac u hR hp ha K hK; obtain ⟨_, h, _⟩ := hp 32 (by decide); exact Reg.Op1.guarded rfl rfl ((ha 59 (by decide)).trans h) (fun h => by cases h) (fun _ => hK _ _ rfl (fun j k _ _ => Reg.Adds.refl _ _ _))
                · intro val ac u hR hp ha K hK
                  obtain ⟨w59, h59, r59⟩ := hp 32 (by decide); have e59 : (ac.tmps[59]?).getD undef = .bool true := (ha 59 (by decide)).trans h59; obtain ⟨w66, h66, r66⟩ := hp 39 (by decide); have e66 : (ac.tmps[66]?).getD undef = undef := (ha 66 (by decide)).trans h66; clear h59 h66 ha hp
                  refine Reg.Op1.plain rfl ?_
                  go_wp2
                  exact ⟨rfl, hK _ _ rfl (fun j k _ _ => Reg.Adds.refl _ _ _)⟩
              intro val u hR H
              obtain ⟨wB, hv, rB⟩ := H 40 (by decide)
              have hv : val 40 = .bool true := hv
              have HKu : Hid (Below w3.heap.size w3 u) := (Below.refl _ w3).drew.trans hR
              simp only [List.map_cons, List.map_nil, Reg.lay, Act.put, List.setIfInBounds_toArray, List.set_cons_succ, List.set_cons_zero, Nat.reduceAdd, hv]
              clear hR H hv rB
              obtain ⟨wy, hwy⟩ : ∃ z, z = u := ⟨_, rfl⟩
              subst hwy
              have HE4 : Hid (Vec.EBx wy (w.heap.size + 1) r.e) := HE3.out.below HKu.out HE3.out.lt
              have HB4 : Hid (Below w.heap.size w wy) := HB3.out.trans (HKu.out.mono HB3.out.size)
              have HA4 : Hid (Mem.Bx wy 42 4 wr.heap.size (askCells e)) := HA3.out.below HKu.out HA3.out.lt
              clear HE3 HB3 HA3 HKu HAT hbw
              go_wp2
              go_roundw
              case rel => exact ⟨⟨k + 1, HLT.out, by go_num, HN, HE4, HB4⟩⟩
              case measure => have := HLT.out; simp [intOf]; omega
            case pos =>
              have HQ3 : Hid ((e.op != r.e.op) = false) := by show _ = _; simpa using h2
              by_cases h3 : e.keys.length = 1
              case neg =>
                have hno : askM r.e e = false := by
                  have : ¬ e.keys = [r.e.key] := fun h => h3 (by rw [h]; rfl)
                  rw [HAM.out, decide_eq_false this, Bool.false_and, Bool.and_false, Bool.and_false]
                have HQ4 : Hid (((e.keys.length : Int) != 1) = true) := by show _ = _; simp; omega
                clear h1 h2 h3
                have HN : Hid ((h.take (k + 1)).any (askM r.e) = false) := by show _ = _; rw [any_snoc HHE.out, HT.out, hno]; rfl
                clear hno
                refine Reg.wp_region_rel (by kernel_rfl) 97 41 rfl rfl (by kernel_rfl) (Reg.Adds) (Reg.Adds.refl) (Reg.Adds.trans)
                  (fun i v u => match i with
                    | 0 => v = .slice (some ⟨b, o, none⟩) h.length c
                    | 1 => v = .int .i64 k
                    | 2 => v = .pointer (some ⟨b, o + k * 20, none⟩)
                    | 3 => v = .agg (evCells e).toArray
                    | 4 => v = .bool true
                    | 5 => v = .bool false
                    | 6 => v = .bool false
                    | 7 => v = .slice (some ⟨b, o, none⟩) h.length c
                    | 8 => v = .int .i64 k
                    | 9 => v = .pointer (some ⟨b, o + k * 20, none⟩)
                    | 10 => v = .pointer (some ⟨b, o + k * 20, none⟩)
                    | 11 => v = .int .i64 e.cl
                    | 12 => v = .pointer (some ⟨w.heap.size + 1, 18, none⟩)
                    | 13 => v = .int .i64 r.e.cl
                    | 14 => v = .bool false
                    | 15 => v = .bool false
                    | 16 => v = .bool false
                    | 17 => v = .slice (some ⟨b, o, none⟩) h.length c
                    | 18 => v = .int .i64 k
                    | 19 => v = .pointer (some ⟨b, o + k * 20, none⟩)
                    | 20 => v = .pointer (some ⟨b, o + k * 20 + 1, none⟩)
                    | 21 => v = .int .i64 e.op
                    | 22 => v = .pointer (some ⟨w.heap.size + 1, 19, none⟩)
                    | 23 => v = .int .i64 r.e.op
                    | 24 => v = .bool false
                    | 25 => v = .bool false
                    | 26 => v = .bool false
                    | 27 => v = .pointer (some ⟨wr.heap.size, 1, none⟩)
                    | 28 => v = .slice e.kA e.keys.length e.kc
                    | 29 => v = .int .i64 ((e.keys.length : Nat) : Int)
                    | 30 => v = .bool true
                    | 31 => v = .bool true
                    | 32 => v = .bool true
                    | 33 => v = undef
                    | 34 => v = undef
                    | 35 => v = undef
                    | 36 => v = undef
                    | 37 => v = undef
                    | 38 => v = undef
                    | 39 => v = undef
                    | 40 => v = .bool true
                    | _ => True) ?_ ?_
                · refine Reg.Steps.cons ?_ (Reg.Steps.cons ?_ (Reg.Steps.cons ?_ (Reg.Steps.cons ?_ (Reg.Steps.cons ?_ (Reg.Steps.cons ?_ (Reg.Steps.cons ?_ (Reg.Steps.cons ?_ (Reg.Steps.cons ?_ (Reg.Steps.cons ?_ (Reg.Steps.cons ?_ (Reg.Steps.cons ?_ (Reg.Steps.cons ?_ (Reg.Steps.cons ?_ (Reg.Steps.cons ?_ (Reg.Steps.cons ?_ (Reg.Steps.cons ?_ (Reg.Steps.cons ?_ (Reg.Steps.cons ?_ (Reg.Steps.cons ?_ (Reg.Steps.cons ?_ (Reg.Steps.cons ?_ (Reg.Steps.cons ?_ (Reg.Steps.cons ?_ (Reg.Steps.cons ?_ (Reg.Steps.cons ?_ (Reg.Steps.cons ?_ (Reg.Steps.cons ?_ (Reg.Steps.cons ?_ (Reg.Steps.cons ?_ (Reg.Steps.cons ?_ (Reg.Steps.cons ?_ (Reg.Steps.cons ?_ (Reg.Steps.cons ?_ (Reg.Steps.cons ?_ (Reg.Steps.cons ?_ (Reg.Steps.cons ?_ (Reg.Steps.cons ?_ (Reg.Steps.cons ?_ (Reg.Steps.cons ?_ (Reg.Steps.cons ?_ (Reg.Steps.nil _)))))))))))))))))))))))))))))))))))))))))
                  · intro val ac u hR hp ha K hK
                    have e0 : (ac.tmps[0]?).getD undef = .slice (some ⟨b, o, none⟩) h.length c := ha 0 (by decide); clear ha hp
                    refine Reg.Op1.plain rfl ?_
                    go_wp2
                    exact ⟨rfl, hK _ _ rfl (fun j k _ _ => Reg.Adds.refl _ _ _)⟩
                  · intro val ac u hR hp ha K hK
                    have e8 : (ac.tmps[8]?).getD undef = .int .i64 k := ha 8 (by decide); clear ha hp
                    refine Reg.Op1.plain rfl ?_
                    go_wp2
                    exact ⟨rfl, hK _ _ rfl (fun j k _ _ => Reg.Adds.refl _ _ _)⟩
                  · intro val ac u hR hp ha K hK
                    obtain ⟨w27, h27, r27⟩ := hp 0 (by decide); have e27 : (ac.tmps[27]?).getD undef = .slice (some ⟨b, o, none⟩) h.length c := (ha 27 (by decide)).trans h27; obtain ⟨w28, h28, r28⟩ := hp 1 (by decide); have e28 : (ac.tmps[28]?).getD undef = .int .i64 k := (ha 28 (by decide)).trans h28; clear h27 h28 ha hp
                    refine Reg.Op1.plain rfl ?_
                    go_wp2
                    exact ⟨rfl, hK _ _ rfl (fun j k _ _ => Reg.Adds.refl _ _ _)⟩
                  · intro val ac u hR hp ha K hK
                    obtain ⟨w29, h29, r29⟩ := hp 2 (by decide); have e29 : (ac.tmps[29]?).getD undef = .pointer (some ⟨b, o + k * 20, none⟩) := (ha 29 (by decide)).trans h29; clear h29 ha hp
                    refine Reg.Op1.plain rfl ?_
                    refine Mem.load_agg _ _ event_agg b (o + k * 20) (evCells e) (Reg.eval_of e29) (evCells_length _) (fun q u' hu => (hR.cell (p := ⟨b, o + k * 20 + q, none⟩) hbw).trans (HAT.out q u' hu)) ?_
                    exact ⟨rfl, hK _ _ rfl (fun j k _ _ => Reg.Adds.refl _ _ _)⟩
                  · intro val ac u hR hp ha K hK
                    obtain ⟨w30, h30, r30⟩ := hp 3 (by decide); have e30 : (ac.tmps[30]?).getD undef = .agg (evCells e).toArray := (ha 30 (by decide)).trans h30; clear h30 ha hp
                    refine Reg.Op1.plain rfl ?_
                    go_wp2_with fail
                    refine (beginning_any e u).mono ?_
                    rintro x w' ⟨rfl, hbw⟩
                    rw [HBG.out]
                    go_wp2_with fail
                    exact ⟨rfl, hK _ _ rfl (fun j k _ _ => hbw)⟩
                  · intro val ac u hR hp ha K hK
                    obtain ⟨w31, h31, r31⟩ := hp 4 (by decide); have e31 : (ac.tmps[31]?).getD undef = .bool true := (ha 31 (by decide)).trans h31; clear h31 ha hp
                    refine Reg.Op1.plain rfl ?_
                    go_wp2
                    exact ⟨rfl, hK _ _ rfl (fun j k _ _ => Reg.Adds.refl _ _ _)⟩
                  · intro val ac u hR hp ha K hK
                    obtain ⟨w32, h32, r32⟩ := hp 5 (by decide); have e32 : (ac.tmps[32]?).getD undef = .bool false := (ha 32 (by decide)).trans h32; clear h32 ha hp
                    refine Reg.Op1.plain rfl ?_
                    go_wp2
                    exact ⟨rfl, hK _ _ rfl (fun j k _ _ => Reg.Adds.refl _ _ _)⟩
                  · intro val ac u hR hp ha K hK
                    have e0 : (ac.tmps[0]?).getD undef = .slice (some ⟨b, o, none⟩) h.length c := ha 0 (by decide); obtain ⟨w33, h33, r33⟩ := hp 6 (by decide); have e33 : (ac.tmps[33]?).getD undef = .bool false := (ha 33 (by decide)).trans h33; clear h33 ha hp
                    refine Reg.Op1.guarded rfl rfl e33 (fun _ => Reg.Op1.plain rfl ?_) (fun h => absurd rfl h)
                    go_wp2
                    exact ⟨rfl, hK _ _ rfl (fun j k _ _ => Reg.Adds.refl _ _ _)⟩
                  · intro val ac u hR hp ha K hK
                    have e8 : (ac.tmps[8]?).getD undef = .int .i64 k := ha 8 (by decide); obtain ⟨w33, h33, r33⟩ := hp 6 (by decide); have e33 : (ac.tmps[33]?).getD undef = .bool false := (ha 33 (by decide)).trans h33; clear h33 ha hp
                    refine Reg.Op1.guarded rfl rfl e33 (fun _ => Reg.Op1.plain rfl ?_) (fun h => absurd rfl h)
                    go_wp2
                    exact ⟨rfl, hK _ _ rfl (fun j k _ _ => Reg.Adds.refl _ _ _)⟩
                  · intro val ac u hR hp ha K hK
                    obtain ⟨w34, h34, r34⟩ := hp 7 (by decide); have e34 : (ac.tmps[34]?).getD undef = .slice (some ⟨b, o, none⟩) h.length c := (ha 34 (by decide)).trans h34; obtain ⟨w35, h35, r35⟩ := hp 8 (by decide); have e35 : (ac.tmps[35]?).getD undef = .int .i64 k := (ha 35 (by decide)).trans h35; obtain ⟨w33, h33, r33⟩ := hp 6 (by decide); have e33 : (ac.tmps[33]?).getD undef = .bool false := (ha 33 (by decide)).trans h33; clear h34 h35 h33 ha hp
                    refine Reg.Op1.guarded rfl rfl e33 (fun _ => Reg.Op1.plain rfl ?_) (fun h => absurd rfl h)
                    go_wp2
                    exact ⟨rfl, hK _ _ rfl (fun j k _ _ => Reg.Adds.refl _ _ _)⟩
                  · intro val ac u hR hp ha K hK
                    obtain ⟨w36, h36, r36⟩ := hp 9 (by decide); have e36 : (ac.tmps[36]?).getD undef = .pointer (some ⟨b, o + k * 20, none⟩) := (ha 36 (by decide)).trans h36; obtain ⟨w33, h33, r33⟩ := hp 6 (by decide); have e33 : (ac.tmps[33]?).getD undef = .bool false := (ha 33 (by decide)).trans h33; clear h36 h33 ha hp
                    refine Reg.Op1.guarded rfl rfl e33 (fun _ => Reg.Op1.plain rfl ?_) (fun h => absurd rfl h)
                    go_wp2
                    exact ⟨rfl, hK _ _ rfl (fun j k _ _ => Reg.Adds.refl _ _ _)⟩
                  · intro val ac u hR hp ha K hK
                    obtain ⟨w37, h37, r37⟩ := hp 10 (by decide); have e37 : (ac.tmps[37]?).getD undef = .pointer (some ⟨b, o + k * 20, none⟩) := (ha 37 (by decide)).trans h37; obtain ⟨w33, h33, r33⟩ := hp 6 (by decide); have e33 : (ac.tmps[33]?).getD undef = .bool false := (ha 33 (by decide)).trans h33; clear h37 h33 ha hp
                    refine Reg.Op1.guarded rfl rfl e33 (fun _ => Reg.Op1.plain rfl ?_) (fun h => absurd rfl h)
                    have x0 := (hR.cell (p := ⟨b, o + k * 20, none⟩) hbw).trans (HAT.out 0 _ rfl)
                    go_wp2
                    exact ⟨rfl, hK _ _ rfl (fun j k _ _ => Reg.Adds.refl _ _ _)⟩
                  · intro val ac u hR hp ha K hK
                    have e7 : (ac.tmps[7]?).getD undef = .pointer (some ⟨w.heap.size + 1, 0, none⟩) := ha 7 (by decide); obtain ⟨w33, h33, r33⟩ := hp 6 (by decide); have e33 : (ac.tmps[33]?).getD undef = .bool false := (ha 33 (by decide)).trans h33; clear h33 ha hp
                    refine Reg.Op1.guarded rfl rfl e33 (fun _ => Reg.Op1.plain rfl ?_) (fun h => absurd rfl h)
                    go_wp2
                    exact ⟨rfl, hK _ _ rfl (fun j k _ _ => Reg.Adds.refl _ _ _)⟩
                  · intro val ac u hR hp ha K hK
                    obtain ⟨w39, h39, r39⟩ := hp 12 (by decide); have e39 : (ac.tmps[39]?).getD undef = .pointer (some ⟨w.heap.size + 1, 18, none⟩) := (ha 39 (by decide)).trans h39; obtain ⟨w33, h33, r33⟩ := hp 6 (by decide); have e33 : (ac.tmps[33]?).getD undef = .bool false := (ha 33 (by decide)).trans h33; clear h39 h33 ha hp
                    refine Reg.Op1.guarded rfl rfl e33 (fun _ => Reg.Op1.plain rfl ?_) (fun h => absurd rfl h)
                    have x0 := (Mem.Bx.below (w := w3.drew) HE3.out hR HE3.out.lt).cell (j := 18) rfl
                    go_wp2
                    exact ⟨rfl, hK _ _ rfl (fun j k _ _ => Reg.Adds.refl _ _ _)⟩
                  · intro val ac u hR hp ha K hK
                    obtain ⟨w38, h38, r38⟩ := hp 11 (by decide); have e38 : (ac.tmps[38]?).getD undef = .int .i64 e.cl := (ha 38 (by decide)).trans h38; obtain ⟨w40, h40, r40⟩ := hp 13 (by decide); have e40 : (ac.tmps[40]?).getD undef = .int .i64 r.e.cl := (ha 40 (by decide)).trans h40; obtain ⟨w33, h33, r33⟩ := hp 6 (by decide); have e33 : (ac.tmps[33]?).getD undef = .bool false := (ha 33 (by decide)).trans h33; clear h38 h40 h33 ha hp
                    have hq := HQ2.out
                    refine Reg.Op1.guarded rfl rfl e33 (fun _ => Reg.Op1.plain rfl ?_) (fun h => absurd rfl h)
                    go_wp2
                    exact ⟨rfl, hK _ _ rfl (fun j k _ _ => Reg.Adds.refl _ _ _)⟩
                  · intro val ac u hR hp ha K hK
                    obtain ⟨w33, h33, r33⟩ := hp 6 (by decide); have e33 : (ac.tmps[33]?).getD undef = .bool false := (ha 33 (by decide)).trans h33; obtain ⟨w41, h41, r41⟩ := hp 14 (by decide); have e41 : (ac.tmps[41]?).getD undef = .bool false := (ha 41 (by decide)).trans h41; clear h33 h41 ha hp
                    refine Reg.Op1.plain rfl ?_
                    go_wp2
                    exact ⟨rfl, hK _ _ rfl (fun j k _ _ => Reg.Adds.refl _ _ _)⟩
                  · intro val ac u hR hp ha K hK
                    obtain ⟨w42, h42, r42⟩ := hp 15 (by decide); have e42 : (ac.tmps[42]?).getD undef = .bool false := (ha 42 (by decide)).trans h42; clear h42 ha hp
                    refine Reg.Op1.plain rfl ?_
                    go_wp2
                    exact ⟨rfl, hK _ _ rfl (fun j k _ _ => Reg.Adds.refl _ _ _)⟩
                  · intro val ac u hR hp ha K hK
                    have e0 : (ac.tmps[0]?).getD undef = .slice (some ⟨b, o, none⟩) h.length c := ha 0 (by decide); obtain ⟨w43, h43, r43⟩ := hp 16 (by decide); have e43 : (ac.tmps[43]?).getD undef = .bool false := (ha 43 (by decide)).trans h43; clear h43 ha hp
                    refine Reg.Op1.guarded rfl rfl e43 (fun _ => Reg.Op1.plain rfl ?_) (fun h => absurd rfl h)
                    go_wp2
                    exact ⟨rfl, hK _ _ rfl (fun j k _ _ => Reg.Adds.refl _ _ _)⟩
                  · intro val ac u hR hp ha K hK
                    have e8 : (ac.tmps[8]?).getD undef = .int .i64 k := ha 8 (by decide); obtain ⟨w43, h43, r43⟩ := hp 16 (by decide); have e43 : (ac.tmps[43]?).getD undef = .bool false := (ha 43 (by decide)).trans h43; clear h43 ha hp
                    refine Reg.Op1.guarded rfl rfl e43 (fun _ => Reg.Op1.plain rfl ?_) (fun h => absurd rfl h)
                    go_wp2
                    exact ⟨rfl, hK _ _ rfl (fun j k _ _ => Reg.Adds.refl _ _ _)⟩
                  · intro val ac u hR hp ha K hK
                    obtain ⟨w44, h44, r44⟩ := hp 17 (by decide); have e44 : (ac.tmps[44]?).getD undef = .slice (some ⟨b, o, none⟩) h.length c := (ha 44 (by decide)).trans h44; obtain ⟨w45, h45, r45⟩ := hp 18 (by decide); have e45 : (ac.tmps[45]?).getD undef = .int .i64 k := (ha 45 (by decide)).trans h45; obtain ⟨w43, h43, r43⟩ := hp 16 (by decide); have e43 : (ac.tmps[43]?).getD undef = .bool false := (ha 43 (by decide)).trans h43; clear h44 h45 h43 ha hp
                    refine Reg.Op1.guarded rfl rfl e43 (fun _ => Reg.Op1.plain rfl ?_) (fun h => absurd rfl h)
                    go_wp2
                    exact ⟨rfl, hK _ _ rfl (fun j k _ _ => Reg.Adds.refl _ _ _)⟩
                  · intro val ac u hR hp ha K hK
                    obtain ⟨w46, h46, r46⟩ := hp 19 (by decide); have e46 : (ac.tmps[46]?).getD undef = .pointer (some ⟨b, o + k * 20, none⟩) := (ha 46 (by decide)).trans h46; obtain ⟨w43, h43, r43⟩ := hp 16 (by decide); have e43 : (ac.tmps[43]?).getD undef = .bool false := (ha 43 (by decide)).trans h43; clear h46 h43 ha hp
                    refine Reg.Op1.guarded rfl rfl e43 (fun _ => Reg.Op1.plain rfl ?_) (fun h => absurd rfl h)
                    go_wp2
                    exact ⟨rfl, hK _ _ rfl (fun j k _ _ => Reg.Adds.refl _ _ _)⟩
                  · intro val ac u hR hp ha K hK
                    obtain ⟨w47, h47, r47⟩ := hp 20 (by decide); have e47 : (ac.tmps[47]?).getD undef = .pointer (some ⟨b, o + k * 20 + 1, none⟩) := (ha 47 (by decide)).trans h47; obtain ⟨w43, h43, r43⟩ := hp 16 (by decide); have e43 : (ac.tmps[43]?).getD undef = .bool false := (ha 43 (by decide)).trans h43; clear h47 h43 ha hp
                    refine Reg.Op1.guarded rfl rfl e43 (fun _ => Reg.Op1.plain rfl ?_) (fun h => absurd rfl h)
                    have x0 := (hR.cell (p := ⟨b, o + k * 20 + 1, none⟩) hbw).trans (HAT.out 1 _ rfl)
                    go_wp2
                    exact ⟨rfl, hK _ _ rfl (fun j k _ _ => Reg.Adds.refl _ _ _)⟩
                  · intro val ac u hR hp ha K hK
                    have e7 : (ac.tmps[7]?).getD undef = .pointer (some ⟨w.heap.size + 1, 0, none⟩) := ha 7 (by decide); obtain ⟨w43, h43, r43⟩ := hp 16 (by decide); have e43 : (ac.tmps[43]?).getD undef = .bool false := (ha 43 (by decide)).trans h43; clear h43 ha hp
                    refine Reg.Op1.guarded rfl rfl e43 (fun _ => Reg.Op1.plain rfl ?_) (fun h => absurd rfl h)
                    go_wp2
                    exact ⟨rfl, hK _ _ rfl (fun j k _ _ => Reg.Adds.refl _ _ _)⟩
                  · intro val ac u hR hp ha K hK
                    obtain ⟨w49, h49, r49⟩ := hp 22 (by decide); have e49 : (ac.tmps[49]?).getD undef = .pointer (some ⟨w.heap.size + 1, 19, none⟩) := (ha 49 (by decide)).trans h49; obtain ⟨w43, h43, r43⟩ := hp 16 (by decide); have e43 : (ac.tmps[43]?).getD undef = .bool false := (ha 43 (by decide)).trans h43; clear h49 h43 ha hp
                    refine Reg.Op1.guarded rfl rfl e43 (fun _ => Reg.Op1.plain rfl ?_) (fun h => absurd rfl h)
                    have x0 := (Mem.Bx.below (w := w3.drew) HE3.out hR HE3.out.lt).cell (j := 19) rfl
                    go_wp2
                    exact ⟨rfl, hK _ _ rfl (fun j k _ _ => Reg.Adds.refl _ _ _)⟩
                  · intro val ac u hR hp ha K hK
                    obtain ⟨w48, h48, r48⟩ := hp 21 (by decide); have e48 : (ac.tmps[48]?).getD undef = .int .i64 e.op := (ha 48 (by decide)).trans h48; obtain ⟨w50, h50, r50⟩ := hp 23 (by decide); have e50 : (ac.tmps[50]?).getD undef = .int .i64 r.e.op := (ha 50 (by decide)).trans h50; obtain ⟨w43, h43, r43⟩ := hp 16 (by decide); have e43 : (ac.tmps[43]?).getD undef = .bool false := (ha 43 (by decide)).trans h43; clear h48 h50 h43 ha hp
                    have hq := HQ3.out
                    refine Reg.Op1.guarded rfl rfl e43 (fun _ => Reg.Op1.plain rfl ?_) (fun h => absurd rfl h)
                    go_wp2
                    exact ⟨rfl, hK _ _ rfl (fun j k _ _ => Reg.Adds.refl _ _ _)⟩
                  · intro val ac u hR hp ha K hK
                    obtain ⟨w43, h43, r43⟩ := hp 16 (by decide); have e43 : (ac.tmps[43]?).getD undef = .bool false := (ha 43 (by decide)).trans h43; obtain ⟨w51, h51, r51⟩ := hp 24 (by decide); have e51 : (ac.tmps[51]?).getD undef = .bool false := (ha 51 (by decide)).trans h51; clear h43 h51 ha hp
                    refine Reg.Op1.plain rfl ?_
                    go_wp2
                    exact ⟨rfl, hK _ _ rfl (fun j k _ _ => Reg.Adds.refl _ _ _)⟩
                  · intro val ac u hR hp ha K hK
                    obtain ⟨w52, h52, r52⟩ := hp 25 (by decide); have e52 : (ac.tmps[52]?).getD undef = .bool false := (ha 52 (by decide)).trans h52; clear h52 ha hp
                    refine Reg.Op1.plain rfl ?_
                    go_wp2
                    exact ⟨rfl, hK _ _ rfl (fun j k _ _ => Reg.Adds.refl _ _ _)⟩
                  · intro val ac u hR hp ha K hK
                    have e9 : (ac.tmps[9]?).getD undef = .pointer (some ⟨wr.heap.size, 0, none⟩) := ha 9 (by decide); obtain ⟨w53, h53, r53⟩ := hp 26 (by decide); have e53 : (ac.tmps[53]?).getD undef = .bool false := (ha 53 (by decide)).trans h53; clear h53 ha hp
                    refine Reg.Op1.guarded rfl rfl e53 (fun _ => Reg.Op1.plain rfl ?_) (fun h => absurd rfl h)
                    go_wp2
                    exact ⟨rfl, hK _ _ rfl (fun j k _ _ => Reg.Adds.refl _ _ _)⟩
                  · intro val ac u hR hp ha K hK
                    obtain ⟨w54, h54, r54⟩ := hp 27 (by decide); have e54 : (ac.tmps[54]?).getD undef = .pointer (some ⟨wr.heap.size, 1, none⟩) := (ha 54 (by decide)).trans h54; obtain ⟨w53, h53, r53⟩ := hp 26 (by decide); have e53 : (ac.tmps[53]?).getD undef = .bool false := (ha 53 (by decide)).trans h53; clear h54 h53 ha hp
                    refine Reg.Op1.guarded rfl rfl e53 (fun _ => Reg.Op1.plain rfl ?_) (fun h => absurd rfl h)
                    have x0 := (Mem.Bx.below (w := w3.drew) HA3.out hR HA3.out.lt).cell (j := 1) rfl
                    go_wp2
                    exact ⟨rfl, hK _ _ rfl (fun j k _ _ => Reg.Adds.refl _ _ _)⟩
                  · intro val ac u hR hp ha K hK
                    obtain ⟨w55, h55, r55⟩ := hp 28 (by decide); have e55 : (ac.tmps[55]?).getD undef = .slice e.kA e.keys.length e.kc := (ha 55 (by decide)).trans h55; obtain ⟨w53, h53, r53⟩ := hp 26 (by decide); have e53 : (ac.tmps[53]?).getD undef = .bool false := (ha 53 (by decide)).trans h53; clear h55 h53 ha hp
                    refine Reg.Op1.guarded rfl rfl e53 (fun _ => Reg.Op1.plain rfl ?_) (fun h => absurd rfl h)
                    go_wp2
                    exact ⟨rfl, hK _ _ rfl (fun j k _ _ => Reg.Adds.refl _ _ _)⟩
                  · intro val ac u hR hp ha K hK
                    obtain ⟨w56, h56, r56⟩ := hp 29 (by decide); have e56 : (ac.tmps[56]?).getD undef = .int .i64 ((e.keys.length : Nat) : Int) := (ha 56 (by decide)).trans h56; obtain ⟨w53, h53, r53⟩ := hp 26 (by decide); have e53 : (ac.tmps[53]?).getD undef = .bool false := (ha 53 (by decide)).trans h53; clear h56 h53 ha hp
                    have hq := HQ4.out
                    refine Reg.Op1.guarded rfl rfl e53 (fun _ => Reg.Op1.plain rfl ?_) (fun h => absurd rfl h)
                    go_wp2
                    exact ⟨rfl, hK _ _ rfl (fun j k _ _ => Reg.Adds.refl _ _ _)⟩
                  · intro val ac u hR hp ha K hK
                    obtain ⟨w53, h53, r53⟩ := hp 26 (by decide); have e53 : (ac.tmps[53]?).getD undef = .bool false := (ha 53 (by decide)).trans h53; obtain ⟨w57, h57, r57⟩ := hp 30 (by decide); have e57 : (ac.tmps[57]?).getD undef = .bool true := (ha 57 (by decide)).trans h57; clear h53 h57 ha hp
                    refine Reg.Op1.plain rfl ?_
                    go_wp2
                    exact ⟨rfl, hK _ _ rfl (fun j k _ _ => Reg.Adds.refl _ _ _)⟩
                  · intro val ac u hR hp ha K hK
                    obtain ⟨w58, h58, r58⟩ := hp 31 (by decide); have e58 : (ac.tmps[58]?).getD undef = .bool true := (ha 58 (by decide)).trans h58; clear h58 ha hp
                    refine Reg.Op1.plain rfl ?_
                    go_wp2
                    exact ⟨rfl, hK _ _ rfl (fun j k _ _ => Reg.Adds.refl _ _ _)⟩
                  · intro val ac u hR hp ha K hK; obtain ⟨_, h, _⟩ := hp 32 (by decide); exact Reg.Op1.guarded rfl rfl ((ha 59 (by decide)).trans h) (fun h => by cases h) (fun _ => hK _ _ rfl (fun j k _ _ => Reg.Adds.refl _ _ _))
                  · intro val ac u hR hp ha K hK; obtain ⟨_, h, _⟩ := hp 32 (by decide); exact Reg.Op1.guarded rfl rfl ((ha 59 (by decide)).trans h) (fun h => by cases h) (fun _ => hK _ _ rfl (fun j k _ _ => Reg.Adds.refl _ _ _))
                  · intro val ac u hR hp ha K hK; obtain ⟨_, h, _⟩ := hp 32 (by decide); exact Reg.Op1.guarded rfl rfl ((ha 59 (by decide)).trans h) (fun h => by cases h) (fun _ => hK _ _ rfl (fun j k _ _ => Reg.Adds.refl _ _ _))
                  · intro val ac u hR hp ha K hK; obtain ⟨_, h, _⟩ := hp 32 (by decide); exact Reg.Op1.guarded rfl rfl ((ha 59 (by decide)).trans h) (fun h => by cases h) (fun _ => hK _ _ rfl (fun j k _ _ => Reg.Adds.refl _ _ _))
                  · intro val ac u hR hp ha K hK; obtain ⟨_, h, _⟩ := hp 32 (by decide); exact Reg.Op1.guarded rfl rfl ((ha 59 (by decide)).trans h) (fun h => by cases h) (fun _ => hK _ _ rfl (fun j k _ _ => Reg.Adds.refl _ _ _))
                  · intro val ac u hR hp ha K hK; obtain ⟨_, h, _⟩ := hp 32 (by decide); exact Reg.Op1.guarded rfl rfl ((ha 59 (by decide)).trans h) (fun h => by cases h) (fun _ => hK _ _ rfl (fun j k _ _ => Reg.Adds.refl _ _ _))
                  · intro val ac u hR hp ha K hK; obtain ⟨_, h, _⟩ := hp 32 (by decide); exact Reg.Op1.guarded rfl rfl ((ha 59 (by decide)).trans h) (fun h => by cases h) (fun _ => hK _ _ rfl (fun j k _ _ => Reg.Adds.refl _ _ _))
                  · intro val ac u hR hp ha K hK
                    obtain ⟨w59, h59, r59⟩ := hp 32 (by decide); have e59 : (ac.tmps[59]?).getD undef = .bool true := (ha 59 (by decide)).trans h59; obtain ⟨w66, h66, r66⟩ := hp 39 (by decide); have e66 : (ac.tmps[66]?).getD undef = undef := (ha 66 (by decide)).trans h66; clear h59 h66 ha hp
                    refine Reg.Op1.plain rfl ?_
                    go_wp2
                    exact ⟨rfl, hK _ _ rfl (fun j k _ _ => Reg.Adds.refl _ _ _)⟩
                intro val u hR H
                obtain ⟨wB, hv, rB⟩ := H 40 (by decide)
                have hv : val 40 = .bool true := hv
                have HKu : Hid (Below w3.heap.size w3 u) := (Below.refl _ w3).drew.trans hR
                simp only [List.map_cons, List.map_nil, Reg.lay, Act.put, List.setIfInBounds_toArray, List.set_cons_succ, List.set_cons_zero, Nat.reduceAdd, hv]
                clear hR H hv rB
                obtain ⟨wy, hwy⟩ : ∃ z, z = u := ⟨_, rfl⟩
                subst hwy
                have HE4 : Hid (Vec.EBx wy (w.heap.size + 1) r.e) := HE3.out.below HKu.out HE3.out.lt
                have HB4 : Hid (Below w.heap.size w wy) := HB3.out.trans (HKu.out.mono HB3.out.size)
                have HA4 : Hid (Mem.Bx wy 42 4 wr.heap.size (askCells e)) := HA3.out.below HKu.out HA3.out.lt
                clear HE3 HB3 HA3 HKu HAT hbw
                go_wp2
                go_roundw
                case rel => exact ⟨⟨k + 1, HLT.out, by go_num, HN, HE4, HB4⟩⟩
                case measure => have := HLT.out; simp [intOf]; omega
              case pos =>
                have HQ4 : Hid (((e.keys.length : Int) != 1) = false) := by show _ = _; simp; omega
                obtain ⟨bk, ok, hka, hbk, hck⟩ := HKR.out.at (k := 0) (by rw [List.length_map]; omega)
                obtain ⟨s0, hs0⟩ : ∃ s, e.keys[0] = s := ⟨_, rfl⟩
                rw [List.getElem_map, hs0, Nat.add_zero] at hck
                have hks : e.keys = [s0] := by
                  obtain ⟨x, hx⟩ := List.length_eq_one_iff.1 h3
                  have h4 : e.keys[0]? = some s0 := by rw [← hs0]; exact List.getElem?_eq_getElem _
                  rw [hx] at h4 ⊢
                  exact congrArg (fun y => [y]) (Option.some.inj h4)
                have HS0 : Hid (w3.cell? ⟨bk, ok, none⟩ = some (.string s0)) := hck
                have HKA := Lib.hid hka
                have HKL := Lib.hid h3
                by_cases h4 : s0 = r.e.key
                case neg =>
                  have hno : askM r.e e = false := by
                    have : ¬ e.keys = [r.e.key] := fun h => h4 (by rw [hks] at h; exact List.head_eq_of_cons_eq h)
                    rw [HAM.out, decide_eq_false this, Bool.false_and, Bool.and_false, Bool.and_false]
                  have HQ5 : Hid ((s0.toList == r.e.key.toList) = false) := Vec.str_ne h4
                  clear h1 h2 h3 h4 hka hck hs0 hks
                  have HN : Hid ((h.take (k + 1)).any (askM r.e) = false) := by show _ = _; rw [any_snoc HHE.out, HT.out, hno]; rfl
                  clear hno
                  refine Reg.wp_region_rel (by kernel_rfl) 97 41 rfl rfl (by kernel_rfl) (Reg.Adds) (Reg.Adds.refl) (Reg.Adds.trans)
                    (fun i v u => match i with
                      | 0 => v = .slice (some ⟨b, o, none⟩) h.length c
                      | 1 => v = .int .i64 k
                      | 2 => v = .pointer (some ⟨b, o + k * 20, none⟩)
                      | 3 => v = .agg (evCells e).toArray
                      | 4 => v = .bool true
                      | 5 => v = .bool false
                      | 6 => v = .bool false
                      | 7 => v = .slice (some ⟨b, o, none⟩) h.length c
                      | 8 => v = .int .i64 k
                      | 9 => v = .pointer (some ⟨b, o + k * 20, none⟩)
                      | 10 => v = .pointer (some ⟨b, o + k * 20, none⟩)
                      | 11 => v = .int .i64 e.cl
                      | 12 => v = .pointer (some ⟨w.heap.size + 1, 18, none⟩)
                      | 13 => v = .int .i64 r.e.cl
                      | 14 => v = .bool false
                      | 15 => v = .bool false
                      | 16 => v = .bool false
                      | 17 => v = .slice (some ⟨b, o, none⟩) h.length c
                      | 18 => v = .int .i64 k
                      | 19 => v = .pointer (some ⟨b, o + k * 20, none⟩)
                      | 20 => v = .pointer (some ⟨b, o + k * 20 + 1, none⟩)
                      | 21 => v = .int .i64 e.op
                      | 22 => v = .pointer (some ⟨w.heap.size + 1, 19, none⟩)
                      | 23 => v = .int .i64 r.e.op
                      | 24 => v = .bool false
                      | 25 => v = .bool false
                      | 26 => v = .bool false
                      | 27 => v = .pointer (some ⟨wr.heap.size, 1, none⟩)
                      | 28 => v = .slice e.kA e.keys.length e.kc
                      | 29 => v = .int .i64 ((e.keys.length : Nat) : Int)
                      | 30 => v = .bool false
                      | 31 => v = .bool false
                      | 32 => v = .bool false
                      | 33 => v = .pointer (some ⟨wr.heap.size, 1, none⟩)
                      | 34 => v = .slice e.kA e.keys.length e.kc
                      | 35 => v = .pointer (some ⟨bk, ok, none⟩)
                      | 36 => v = .string s0
                      | 37 => v = .pointer (some ⟨w.heap.size + 1, 6, none⟩)
                      | 38 => v = .string r.e.key
                      | 39 => v = .bool true
                      | 40 => v = .bool true
                      | _ => True) ?_ ?_
                  · refine Reg.Steps.cons ?_ (Reg.Steps.cons ?_ (Reg.Steps.cons ?_ (Reg.Steps.cons ?_ (Reg.Steps.cons ?_ (Reg.Steps.cons ?_ (Reg.Steps.cons ?_ (Reg.Steps.cons ?_ (Reg.Steps.cons ?_ (Reg.Steps.cons ?_ (Reg.Steps.cons ?_ (Reg.Steps.cons ?_ (Reg.Steps.cons ?_ (Reg.Steps.cons ?_ (Reg.Steps.cons ?_ (Reg.Steps.cons ?_ (Reg.Steps.cons ?_ (Reg.Steps.cons ?_ (Reg.Steps.cons ?_ (Reg.Steps.cons ?_ (Reg.Steps.cons ?_ (Reg.Steps.cons ?_ (Reg.Steps.cons ?_ (Reg.Steps.cons ?_ (Reg.Steps.cons ?_ (Reg.Steps.cons ?_ (Reg.Steps.cons ?_ (Reg.Steps.cons ?_ (Reg.Steps.cons ?_ (Reg.Steps.cons ?_ (Reg.Steps.cons ?_ (Reg.Steps.cons ?_ (Reg.Steps.cons ?_ (Reg.Steps.cons ?_ (Reg.Steps.cons ?_ (Reg.Steps.cons ?_ (Reg.Steps.cons ?_ (Reg.Steps.cons ?_ (Reg.Steps.cons ?_ (Reg.Steps.cons ?_ (Reg.Steps.cons ?_ (Reg.Steps.nil _)))))))))))))))))))))))))))))))))))))))))
                    · intro val ac u hR hp ha K hK
                      have e0 : (ac.tmps[0]?).getD undef = .slice (some ⟨b, o, none⟩) h.length c := ha 0 (by decide); clear ha hp
                      refine Reg.Op1.plain rfl ?_
                      go_wp2
                      exact ⟨rfl, hK _ _ rfl (fun j k _ _ => Reg.Adds.refl _ _ _)⟩
                    · intro val ac u hR hp ha K hK
                      have e8 : (ac.tmps[8]?).getD undef = .int .i64 k := ha 8 (by decide); clear ha hp
                      refine Reg.Op1.plain rfl ?_
                      go_wp2
                      exact ⟨rfl, hK _ _ rfl (fun j k _ _ => Reg.Adds.refl _ _ _)⟩
                    · intro val ac u hR hp ha K hK
                      obtain ⟨w27, h27, r27⟩ := hp 0 (by decide); have e27 : (ac.tmps[27]?).getD undef = .slice (some ⟨b, o, none⟩) h.length c := (ha 27 (by decide)).trans h27; obtain ⟨w28, h28, r28⟩ := hp 1 (by decide); have e28 : (ac.tmps[28]?).getD undef = .int .i64 k := (ha 28 (by decide)).trans h28; clear h27 h28 ha hp
                      refine Reg.Op1.plain rfl ?_
                      go_wp2
                      exact ⟨rfl, hK _ _ rfl (fun j k _ _ => Reg.Adds.refl _ _ _)⟩
                    · intro val ac u hR hp ha K hK
                      obtain ⟨w29, h29, r29⟩ := hp 2 (by decide); have e29 : (ac.tmps[29]?).getD undef = .pointer (some ⟨b, o + k * 20, none⟩) := (ha 29 (by decide)).trans h29; clear h29 ha hp
                      refine Reg.Op1.plain rfl ?_
                      refine Mem.load_agg _ _ event_agg b (o + k * 20) (evCells e) (Reg.eval_of e29) (evCells_length _) (fun q u' hu => (hR.cell (p := ⟨b, o + k * 20 + q, none⟩) hbw).trans (HAT.out q u' hu)) ?_
                      exact ⟨rfl, hK _ _ rfl (fun j k _ _ => Reg.Adds.refl _ _ _)⟩
                    · intro val ac u hR hp ha K hK
                      obtain ⟨w30, h30, r30⟩ := hp 3 (by decide); have e30 : (ac.tmps[30]?).getD undef = .agg (evCells e).toArray := (ha 30 (by decide)).trans h30; clear h30 ha hp
                      refine Reg.Op1.plain rfl ?_
                      go_wp2_with fail
                      refine (beginning_any e u).mono ?_
                      rintro x w' ⟨rfl, hbw⟩
                      rw [HBG.out]
                      go_wp2_with fail
                      exact ⟨rfl, hK _ _ rfl (fun j k _ _ => hbw)⟩
                    · intro val ac u hR hp ha K hK
                      obtain ⟨w31, h31, r31⟩ := hp 4 (by decide); have e31 : (ac.tmps[31]?).getD undef = .bool true := (ha 31 (by decide)).trans h31; clear h31 ha hp
                      refine Reg.Op1.plain rfl ?_
                      go_wp2
                      exact ⟨rfl, hK _ _ rfl (fun j k _ _ => Reg.Adds.refl _ _ _)⟩
                    · intro val ac u hR hp ha K hK
                      obtain ⟨w32, h32, r32⟩ := hp 5 (by decide); have e32 : (ac.tmps[32]?).getD undef = .bool false := (ha 32 (by decide)).trans h32; clear h32 ha hp
                      refine Reg.Op1.plain rfl ?_
                      go_wp2
                      exact ⟨rfl, hK _ _ rfl (fun j k _ _ => Reg.Adds.refl _ _ _)⟩
                    · intro val ac u hR hp ha K hK
                      have e0 : (ac.tmps[0]?).getD undef = .slice (some ⟨b, o, none⟩) h.length c := ha 0 (by decide); obtain ⟨w33, h33, r33⟩ := hp 6 (by decide); have e33 : (ac.tmps[33]?).getD undef = .bool false := (ha 33 (by decide)).trans h33; clear h33 ha hp
                      refine Reg.Op1.guarded rfl rfl e33 (fun _ => Reg.Op1.plain rfl ?_) (fun h => absurd rfl h)
                      go_wp2
                      exact ⟨rfl, hK _ _ rfl (fun j k _ _ => Reg.Adds.refl _ _ _)⟩
                    · intro val ac u hR hp ha K hK
                      have e8 : (ac.tmps[8]?).getD undef = .int .i64 k := ha 8 (by decide); obtain ⟨w33, h33, r33⟩ := hp 6 (by decide); have e33 : (ac.tmps[33]?).getD undef = .bool false := (ha 33 (by decide)).trans h33; clear h33 ha hp
                      refine Reg.Op1.guarded rfl rfl e33 (fun _ => Reg.Op1.plain rfl ?_) (fun h => absurd rfl h)
                      go_wp2
                      exact ⟨rfl, hK _ _ rfl (fun j k _ _ => Reg.Adds.refl _ _ _)⟩
                    · intro val ac u hR hp ha K hK
                      obtain ⟨w34, h34, r34⟩ := hp 7 (by decide); have e34 : (ac.tmps[34]?).getD undef = .slice (some ⟨b, o, none⟩) h.length c := (ha 34 (by decide)).trans h34; obtain ⟨w35, h35, r35⟩ := hp 8 (by decide); have e35 : (ac.tmps[35]?).getD undef = .int .i64 k := (ha 35 (by decide)).trans h35; obtain ⟨w33, h33, r33⟩ := hp 6 (by decide); have e33 : (ac.tmps[33]?).getD undef = .bool false := (ha 33 (by decide)).trans h33; clear h34 h35 h33 ha hp
                      refine Reg.Op1.guarded rfl rfl e33 (fun _ => Reg.Op1.plain rfl ?_) (fun h => absurd rfl h)
                      go_wp2
                      exact ⟨rfl, hK _ _ rfl (fun j k _ _ => Reg.Adds.refl _ _ _)⟩
                    · intro val ac u hR hp ha K hK
                      obtain ⟨w36, h36, r36⟩ := hp 9 (by decide); have e36 : (ac.tmps[36]?).getD undef = .pointer (some ⟨b, o + k * 20, none⟩) := (ha 36 (by decide)).trans h36; obtain ⟨w33, h33, r33⟩ := hp 6 (by decide); have e33 : (ac.tmps[33]?).getD undef = .bool false := (ha 33 (by decide)).trans h33; clear h36 h33 ha hp
                      refine Reg.Op1.guarded rfl rfl e33 (fun _ => Reg.Op1.plain rfl ?_) (fun h => absurd rfl h)
                      go_wp2
                      exact ⟨rfl, hK _ _ rfl (fun j k _ _ => Reg.Adds.refl _ _ _)⟩
                    · intro val ac u hR hp ha K hK
                      obtain ⟨w37, h37, r37⟩ := hp 10 (by decide); have e37 : (ac.tmps[37]?).getD undef = .pointer (some ⟨b, o + k * 20, none⟩) := (ha 37 (by decide)).trans h37; obtain ⟨w33, h33, r33⟩ := hp 6 (by decide); have e33 : (ac.tmps[33]?).getD undef = .bool false := (ha 33 (by decide)).trans h33; clear h37 h33 ha hp
                      refine Reg.Op1.guarded rfl rfl e33 (fun _ => Reg.Op1.plain rfl ?_) (fun h => absurd rfl h)
                      have x0 := (hR.cell (p := ⟨b, o + k * 20, none⟩) hbw).trans (HAT.out 0 _ rfl)
                      go_wp2
                      exact ⟨rfl, hK _ _ rfl (fun j k _ _ => Reg.Adds.refl _ _ _)⟩
                    · intro val ac u hR hp ha K hK
                      have e7 : (ac.tmps[7]?).getD undef = .pointer (some ⟨w.heap.size + 1, 0, none⟩) := ha 7 (by decide); obtain ⟨w33, h33, r33⟩ := hp 6 (by decide); have e33 : (ac.tmps[33]?).getD undef = .bool false := (ha 33 (by decide)).trans h33; clear h33 ha hp
                      refine Reg.Op1.guarded rfl rfl e33 (fun _ => Reg.Op1.plain rfl ?_) (fun h => absurd rfl h)
                      go_wp2
                      exact ⟨rfl, hK _ _ rfl (fun j k _ _ => Reg.Adds.refl _ _ _)⟩
                    · intro val ac u hR hp ha K hK
                      obtain ⟨w39, h39, r39⟩ := hp 12 (by decide); have e39 : (ac.tmps[39]?).getD undef = .pointer (some ⟨w.heap.size + 1, 18, none⟩) := (ha 39 (by decide)).trans h39; obtain ⟨w33, h33, r33⟩ := hp 6 (by decide); have e33 : (ac.tmps[33]?).getD undef = .bool false := (ha 33 (by decide)).trans h33; clear h39 h33 ha hp
                      refine Reg.Op1.guarded rfl rfl e33 (fun _ => Reg.Op1.plain rfl ?_) (fun h => absurd rfl h)
                      have x0 := (Mem.Bx.below (w := w3.drew) HE3.out hR HE3.out.lt).cell (j := 18) rfl
                      go_wp2
                      exact ⟨rfl, hK _ _ rfl (fun j k _ _ => Reg.Adds.refl _ _ _)⟩
                    · intro val ac u hR hp ha K hK
                      obtain ⟨w38, h38, r38⟩ := hp 11 (by decide); have e38 : (ac.tmps[38]?).getD undef = .int .i64 e.cl := (ha 38 (by decide)).trans h38; obtain ⟨w40, h40, r40⟩ := hp 13 (by decide); have e40 : (ac.tmps[40]?).getD undef = .int .i64 r.e.cl := (ha 40 (by decide)).trans h40; obtain ⟨w33, h33, r33⟩ := hp 6 (by decide); have e33 : (ac.tmps[33]?).getD undef = .bool false := (ha 33 (by decide)).trans h33; clear h38 h40 h33 ha hp
                      have hq := HQ2.out
                      refine Reg.Op1.guarded rfl rfl e33 (fun _ => Reg.Op1.plain rfl ?_) (fun h => absurd rfl h)
                      go_wp2
                      exact ⟨rfl, hK _ _ rfl (fun j k _ _ => Reg.Adds.refl _ _ _)⟩
                    · intro val ac u hR hp ha K hK
                      obtain ⟨w33, h33, r33⟩ := hp 6 (by decide); have e33 : (ac.tmps[33]?).getD undef = .bool false := (ha 33 (by decide)).trans h33; obtain ⟨w41, h41, r41⟩ := hp 14 (by decide); have e41 : (ac.tmps[41]?).getD undef = .bool false := (ha 41 (by decide)).trans h41; clear h33 h41 ha hp
                      refine Reg.Op1.plain rfl ?_
                      go_wp2
                      exact ⟨rfl, hK _ _ rfl (fun j k _ _ => Reg.Adds.refl _ _ _)⟩
                    · intro val ac u hR hp ha K hK
                      obtain ⟨w42, h42, r42⟩ := hp 15 (by decide); have e42 : (ac.tmps[42]?).getD undef = .bool false := (ha 42 (by decide)).trans h42; clear h42 ha hp
                      refine Reg.Op1.plain rfl ?_
                      go_wp2
                      exact ⟨rfl, hK _ _ rfl (fun j k _ _ => Reg.Adds.refl _ _ _)⟩
                    · intro val ac u hR hp ha K hK
                      have e0 : (ac.tmps[0]?).getD undef = .slice (some ⟨b, o, none⟩) h.length c := ha 0 (by decide); obtain ⟨w43, h43, r43⟩ := hp 16 (by decide); have e43 : (ac.tmps[43]?).getD undef = .bool false := (ha 43 (by decide)).trans h43; clear h43 ha hp
                      refine Reg.Op1.guarded rfl rfl e43 (fun _ => Reg.Op1.plain rfl ?_) (fun h => absurd rfl h)
                      go_wp2
                      exact ⟨rfl, hK _ _ rfl (fun j k _ _ => Reg.Adds.refl _ _ _)⟩
                    · intro val ac u hR hp ha K hK
                      have e8 : (ac.tmps[8]?).getD undef = .int .i64 k := ha 8 (by decide); obtain ⟨w43, h43, r43⟩ := hp 16 (by decide); have e43 : (ac.tmps[43]?).getD undef = .bool false := (ha 43 (by decide)).trans h43; clear h43 ha hp
                      refine Reg.Op1.guarded rfl rfl e43 (fun _ => Reg.Op1.plain rfl ?_) (fun h => absurd rfl h)
                      go_wp2
                      exact ⟨rfl, hK _ _ rfl (fun j k _ _ => Reg.Adds.refl _ _ _)⟩
                    · intro val ac u hR hp ha K hK
                      obtain ⟨w44, h44, r44⟩ := hp 17 (by decide); have e44 : (ac.tmps[44]?).getD undef = .slice (some ⟨b, o, none⟩) h.length c := (ha 44 (by decide)).trans h44; obtain ⟨w45, h45, r45⟩ := hp 18 (by decide); have e45 : (ac.tmps[45]?).getD undef = .int .i64 k := (ha 45 (by decide)).trans h45; obtain ⟨w43, h43, r43⟩ := hp 16 (by decide); have e43 : (ac.tmps[43]?).getD undef = .bool false := (ha 43 (by decide)).trans h43; clear h44 h45 h43 ha hp
                      refine Reg.Op1.guarded rfl rfl e43 (fun _ => Reg.Op1.plain rfl ?_) (fun h => absurd rfl h)
                      go_wp2
                      exact ⟨rfl, hK _ _ rfl (fun j k _ _ => Reg.Adds.refl _ _ _)⟩
                    · intro val ac u hR hp ha K hK
                      obtain ⟨w46, h46, r46⟩ := hp 19 (by decide); have e46 : (ac.tmps[46]?).getD undef = .pointer (some ⟨b, o + k * 20, none⟩) := (ha 46 (by decide)).trans h46; obtain ⟨w43, h43, r43⟩ := hp 16 (by decide); have e43 : (ac.tmps[43]?).getD undef = .bool false := (ha 43 (by decide)).trans h43; clear h46 h43 ha hp
                      refine Reg.Op1.guarded rfl rfl e43 (fun _ => Reg.Op1.plain rfl ?_) (fun h => absurd rfl h)
                      go_wp2
                      exact ⟨rfl, hK _ _ rfl (fun j k _ _ => Reg.Adds.refl _ _ _)⟩
                    · intro val ac u hR hp ha K hK
                      obtain ⟨w47, h47, r47⟩ := hp 20 (by decide); have e47 : (ac.tmps[47]?).getD undef = .pointer (some ⟨b, o + k * 20 + 1, none⟩) := (ha 47 (by decide)).trans h47; obtain ⟨w43, h43, r43⟩ := hp 16 (by decide); have e43 : (ac.tmps[43]?).getD undef = .bool false := (ha 43 (by decide)).trans h43; clear h47 h43 ha hp
                      refine Reg.Op1.guarded rfl rfl e43 (fun _ => Reg.Op1.plain rfl ?_) (fun h => absurd rfl h)
                      have x0 := (hR.cell (p := ⟨b, o + k * 20 + 1, none⟩) hbw).trans (HAT.out 1 _ rfl)
                      go_wp2
                      exact ⟨rfl, hK _ _ rfl (fun j k _ _ => Reg.Adds.refl _ _ _)⟩
                    · intro val ac u hR hp ha K hK
                      have e7 : (ac.tmps[7]?).getD undef = .pointer (some ⟨w.heap.size + 1, 0, none⟩) := ha 7 (by decide); obtain ⟨w43, h43, r43⟩ := hp 16 (by decide); have e43 : (ac.tmps[43]?).getD undef = .bool false := (ha 43 (by decide)).trans h43; clear h43 ha hp
                      refine Reg.Op1.guarded rfl rfl e43 (fun _ => Reg.Op1.plain rfl ?_) (fun h => absurd rfl h)
                      go_wp2
                      exact ⟨rfl, hK _ _ rfl (fun j k _ _ => Reg.Adds.refl _ _ _)⟩
                    · intro val ac u hR hp ha K hK
                      obtain ⟨w49, h49, r49⟩ := hp 22 (by decide); have e49 : (ac.tmps[49]?).getD undef = .pointer (some ⟨w.heap.size + 1, 19, none⟩) := (ha 49 (by decide)).trans h49; obtain ⟨w43, h43, r43⟩ := hp 16 (by decide); have e43 : (ac.tmps[43]?).getD undef = .bool false := (ha 43 (by decide)).trans h43; clear h49 h43 ha hp
                      refine Reg.Op1.guarded rfl rfl e43 (fun _ => Reg.Op1.plain rfl ?_) (fun h => absurd rfl h)
                      have x0 := (Mem.Bx.below (w := w3.drew) HE3.out hR HE3.out.lt).cell (j := 19) rfl
                      go_wp2
                      exact ⟨rfl, hK _ _ rfl (fun j k _ _ => Reg.Adds.refl _ _ _)⟩
                    · intro val ac u hR hp ha K hK
                      obtain ⟨w48, h48, r48⟩ := hp 21 (by decide); have e48 : (ac.tmps[48]?).getD undef = .int .i64 e.op := (ha 48 (by decide)).trans h48; obtain ⟨w50, h50, r50⟩ := hp 23 (by decide); have e50 : (ac.tmps[50]?).getD undef = .int .i64 r.e.op := (ha 50 (by decide)).trans h50; obtain ⟨w43, h43, r43⟩ := hp 16 (by decide); have e43 : (ac.tmps[43]?).getD undef = .bool false := (ha 43 (by decide)).trans h43; clear h48 h50 h43 ha hp
                      have hq := HQ3.out
                      refine Reg.Op1.guarded rfl rfl e43 (fun _ => Reg.Op1.plain rfl ?_) (fun h => absurd rfl h)
                      go_wp2
                      exact ⟨rfl, hK _ _ rfl (fun j k _ _ => Reg.Adds.refl _ _ _)⟩
                    · intro val ac u hR hp ha K hK
                      obtain ⟨w43, h43, r43⟩ := hp 16 (by decide); have e43 : (ac.tmps[43]?).getD undef = .bool false := (ha 43 (by decide)).trans h43; obtain ⟨w51, h51, r51⟩ := hp 24 (by decide); have e51 : (ac.tmps[51]?).getD undef = .bool false := (ha 51 (by decide)).trans h51; clear h43 h51 ha hp
                      refine Reg.Op1.plain rfl ?_
                      go_wp2
                      exact ⟨rfl, hK _ _ rfl (fun j k _ _ => Reg.Adds.refl _ _ _)⟩
                    · intro val ac u hR hp ha K hK
                      obtain ⟨w52, h52, r52⟩ := hp 25 (by decide); have e52 : (ac.tmps[52]?).getD undef = .bool false := (ha 52 (by decide)).trans h52; clear h52 ha hp
                      refine Reg.Op1.plain rfl ?_
                      go_wp2
                      exact ⟨rfl, hK _ _ rfl (fun j k _ _ => Reg.Adds.refl _ _ _)⟩
                    · intro val ac u hR hp ha K hK
                      have e9 : (ac.tmps[9]?).getD undef = .pointer (some ⟨wr.heap.size, 0, none⟩) := ha 9 (by decide); obtain ⟨w53, h53, r53⟩ := hp 26 (by decide); have e53 : (ac.tmps[53]?).getD undef = .bool false := (ha 53 (by decide)).trans h53; clear h53 ha hp
                      refine Reg.Op1.guarded rfl rfl e53 (fun _ => Reg.Op1.plain rfl ?_) (fun h => absurd rfl h)
                      go_wp2
                      exact ⟨rfl, hK _ _ rfl (fun j k _ _ => Reg.Adds.refl _ _ _)⟩
                    · intro val ac u hR hp ha K hK
                      obtain ⟨w54, h54, r54⟩ := hp 27 (by decide); have e54 : (ac.tmps[54]?).getD undef = .pointer (some ⟨wr.heap.size, 1, none⟩) := (ha 54 (by decide)).trans h54; obtain ⟨w53, h53, r53⟩ := hp 26 (by decide); have e53 : (ac.tmps[53]?).getD undef = .bool false := (ha 53 (by decide)).trans h53; clear h54 h53 ha hp
                      refine Reg.Op1.guarded rfl rfl e53 (fun _ => Reg.Op1.plain rfl ?_) (fun h => absurd rfl h)
                      have x0 := (Mem.Bx.below (w := w3.drew) HA3.out hR HA3.out.lt).cell (j := 1) rfl
                      go_wp2
                      exact ⟨rfl, hK _ _ rfl (fun j k _ _ => Reg.Adds.refl _ _ _)⟩
                    · intro val ac u hR hp ha K hK
                      obtain ⟨w55, h55, r55⟩ := hp 28 (by decide); have e55 : (ac.tmps[55]?).getD undef = .slice e.kA e.keys.length e.kc := (ha 55 (by decide)).trans h55; obtain ⟨w53, h53, r53⟩ := hp 26 (by decide); have e53 : (ac.tmps[53]?).getD undef = .bool false := (ha 53 (by decide)).trans h53; clear h55 h53 ha hp
                      refine Reg.Op1.guarded rfl rfl e53 (fun _ => Reg.Op1.plain rfl ?_) (fun h => absurd rfl h)
                      go_wp2
                      exact ⟨rfl, hK _ _ rfl (fun j k _ _ => Reg.Adds.refl _ _ _)⟩
                    · intro val ac u hR hp ha K hK
                      obtain ⟨w56, h56, r56⟩ := hp 29 (by decide); have e56 : (ac.tmps[56]?).getD undef = .int .i64 ((e.keys.length : Nat) : Int) := (ha 56 (by decide)).trans h56; obtain ⟨w53, h53, r53⟩ := hp 26 (by decide); have e53 : (ac.tmps[53]?).getD undef = .bool false := (ha 53 (by decide)).trans h53; clear h56 h53 ha hp
                      have hq := HQ4.out
                      refine Reg.Op1.guarded rfl rfl e53 (fun _ => Reg.Op1.plain rfl ?_) (fun h => absurd rfl h)
                      go_wp2
                      exact ⟨rfl, hK _ _ rfl (fun j k _ _ => Reg.Adds.refl _ _ _)⟩
                    · intro val ac u hR hp ha K hK
                      obtain ⟨w53, h53, r53⟩ := hp 26 (by decide); have e53 : (ac.tmps[53]?).getD undef = .bool false := (ha 53 (by decide)).trans h53; obtain ⟨w57, h57, r57⟩ := hp 30 (by decide); have e57 : (ac.tmps[57]?).getD undef = .bool false := (ha 57 (by decide)).trans h57; clear h53 h57 ha hp
                      refine Reg.Op1.plain rfl ?_
                      go_wp2
                      exact ⟨rfl, hK _ _ rfl (fun j k _ _ => Reg.Adds.refl _ _ _)⟩
                    · intro val ac u hR hp ha K hK
                      obtain ⟨w58, h58, r58⟩ := hp 31 (by decide); have e58 : (ac.tmps[58]?).getD undef = .bool false := (ha 58 (by decide)).trans h58; clear h58 ha hp
                      refine Reg.Op1.plain rfl ?_
                      go_wp2
                      exact ⟨rfl, hK _ _ rfl (fun j k _ _ => Reg.Adds.refl _ _ _)⟩
                    · intro val ac u hR hp ha K hK
                      have e9 : (ac.tmps[9]?).getD undef = .pointer (some ⟨wr.heap.size, 0, none⟩) := ha 9 (by decide); obtain ⟨w59, h59, r59⟩ := hp 32 (by decide); have e59 : (ac.tmps[59]?).getD undef = .bool false := (ha 59 (by decide)).trans h59; clear h59 ha hp
                      refine Reg.Op1.guarded rfl rfl e59 (fun _ => Reg.Op1.plain rfl ?_) (fun h => absurd rfl h)
                      go_wp2
                      exact ⟨rfl, hK _ _ rfl (fun j k _ _ => Reg.Adds.refl _ _ _)⟩
                    · intro val ac u hR hp ha K hK
                      obtain ⟨w60, h60, r60⟩ := hp 33 (by decide); have e60 : (ac.tmps[60]?).getD undef = .pointer (some ⟨wr.heap.size, 1, none⟩) := (ha 60 (by decide)).trans h60; obtain ⟨w59, h59, r59⟩ := hp 32 (by decide); have e59 : (ac.tmps[59]?).getD undef = .bool false := (ha 59 (by decide)).trans h59; clear h60 h59 ha hp
                      refine Reg.Op1.guarded rfl rfl e59 (fun _ => Reg.Op1.plain rfl ?_) (fun h => absurd rfl h)
                      have x0 := (Mem.Bx.below (w := w3.drew) HA3.out hR HA3.out.lt).cell (j := 1) rfl
                      go_wp2
                      exact ⟨rfl, hK _ _ rfl (fun j k _ _ => Reg.Adds.refl _ _ _)⟩
                    · intro val ac u hR hp ha K hK
                      obtain ⟨w61, h61, r61⟩ := hp 34 (by decide); have e61 : (ac.tmps[61]?).getD undef = .slice e.kA e.keys.length e.kc := (ha 61 (by decide)).trans h61; obtain ⟨w59, h59, r59⟩ := hp 32 (by decide); have e59 : (ac.tmps[59]?).getD undef = .bool false := (ha 59 (by decide)).trans h59; clear h61 h59 ha hp
                      have hka := HKA.out
                      have hkl := HKL.out
                      rw [hka, hkl] at e61
                      refine Reg.Op1.guarded rfl rfl e59 (fun _ => Reg.Op1.plain rfl ?_) (fun h => absurd rfl h)
                      go_wp2
                      exact ⟨rfl, hK _ _ rfl (fun j k _ _ => Reg.Adds.refl _ _ _)⟩
                    · intro val ac u hR hp ha K hK
                      obtain ⟨w62, h62, r62⟩ := hp 35 (by decide); have e62 : (ac.tmps[62]?).getD undef = .pointer (some ⟨bk, ok, none⟩) := (ha 62 (by decide)).trans h62; obtain ⟨w59, h59, r59⟩ := hp 32 (by decide); have e59 : (ac.tmps[59]?).getD undef = .bool false := (ha 59 (by decide)).trans h59; clear h62 h59 ha hp
                      refine Reg.Op1.guarded rfl rfl e59 (fun _ => Reg.Op1.plain rfl ?_) (fun h => absurd rfl h)
                      have x0 := (hR.cell (p := ⟨bk, ok, none⟩) hbk).trans HS0.out
                      go_wp2
                      exact ⟨rfl, hK _ _ rfl (fun j k _ _ => Reg.Adds.refl _ _ _)⟩
                    · intro val ac u hR hp ha K hK
                      have e7 : (ac.tmps[7]?).getD undef = .pointer (some ⟨w.heap.size + 1, 0, none⟩) := ha 7 (by decide); obtain ⟨w59, h59, r59⟩ := hp 32 (by decide); have e59 : (ac.tmps[59]?).getD undef = .bool false := (ha 59 (by decide)).trans h59; clear h59 ha hp
                      refine Reg.Op1.guarded rfl rfl e59 (fun _ => Reg.Op1.plain rfl ?_) (fun h => absurd rfl h)
                      go_wp2
                      exact ⟨rfl, hK _ _ rfl (fun j k _ _ => Reg.Adds.refl _ _ _)⟩
                    · intro val ac u hR hp ha K hK
                      obtain ⟨w64, h64, r64⟩ := hp 37 (by decide); have e64 : (ac.tmps[64]?).getD undef = .pointer (some ⟨w.heap.size + 1, 6, none⟩) := (ha 64 (by decide)).trans h64; obtain ⟨w59, h59, r59⟩ := hp 32 (by decide); have e59 : (ac.tmps[59]?).getD undef = .bool false := (ha 59 (by decide)).trans h59; clear h64 h59 ha hp
                      refine Reg.Op1.guarded rfl rfl e59 (fun _ => Reg.Op1.plain rfl ?_) (fun h => absurd rfl h)
                      have x0 := (Mem.Bx.below (w := w3.drew) HE3.out hR HE3.out.lt).cell (j := 6) rfl
                      go_wp2
                      exact ⟨rfl, hK _ _ rfl (fun j k _ _ => Reg.Adds.refl _ _ _)⟩
                    · intro val ac u hR hp ha K hK
                      obtain ⟨w63, h63, r63⟩ := hp 36 (by decide); have e63 : (ac.tmps[63]?).getD undef = .string s0 := (ha 63 (by decide)).trans h63; obtain ⟨w65, h65, r65⟩ := hp 38 (by decide); have e65 : (ac.tmps[65]?).getD undef = .string r.e.key := (ha 65 (by decide)).trans h65; obtain ⟨w59, h59, r59⟩ := hp 32 (by decide); have e59 : (ac.tmps[59]?).getD undef = .bool false := (ha 59 (by decide)).trans h59; clear h63 h65 h59 ha hp
                      have hq := HQ5.out
                      refine Reg.Op1.guarded rfl rfl e59 (fun _ => Reg.Op1.plain rfl ?_) (fun h => absurd rfl h)
                      go_wp2
                      exact ⟨rfl, hK _ _ rfl (fun j k _ _ => Reg.Adds.refl _ _ _)⟩
                    · intro val ac u hR hp ha K hK
                      obtain ⟨w59, h59, r59⟩ := hp 32 (by decide); have e59 : (ac.tmps[59]?).getD undef = .bool false := (ha 59 (by decide)).trans h59; obtain ⟨w66, h66, r66⟩ := hp 39 (by decide); have e66 : (ac.tmps[66]?).getD undef = .bool true := (ha 66 (by decide)).trans h66; clear h59 h66 ha hp
                      refine Reg.Op1.plain rfl ?_
                      go_wp2
                      exact ⟨rfl, hK _ _ rfl (fun j k _ _ => Reg.Adds.refl _ _ _)⟩
                  intro val u hR H
                  obtain ⟨wB, hv, rB⟩ := H 40 (by decide)
                  have hv : val 40 = .bool true := hv
                  have HKu : Hid (Below w3.heap.size w3 u) := (Below.refl _ w3).drew.trans hR
                  simp only [List.map_cons, List.map_nil, Reg.lay, Act.put, List.setIfInBounds_toArray, List.set_cons_succ, List.set_cons_zero, Nat.reduceAdd, hv]
                  clear hR H hv rB
                  obtain ⟨wy, hwy⟩ : ∃ z, z = u := ⟨_, rfl⟩
                  subst hwy
                  have HE4 : Hid (Vec.EBx wy (w.heap.size + 1) r.e) := HE3.out.below HKu.out HE3.out.lt
                  have HB4 : Hid (Below w.heap.size w wy) := HB3.out.trans (HKu.out.mono HB3.out.size)
                  have HA4 : Hid (Mem.Bx wy 42 4 wr.heap.size (askCells e)) := HA3.out.below HKu.out HA3.out.lt
                  clear HE3 HB3 HA3 HKu HAT hbw
                  go_wp2
                  go_roundw
                  case rel => exact ⟨⟨k + 1, HLT.out, by go_num, HN, HE4, HB4⟩⟩
                  case measure => have := HLT.out; simp [intOf]; omega
                case pos =>
                  have HQ5 : Hid ((s0.toList == r.e.key.toList) = true) := Vec.str_eq h4
                  have HM : Hid (askM r.e e = ((decide (e.kind = 1) && (decide (e.val = r.e.val) && !r.e.dead)) || (decide (e.kind = 2) && (r.e.dead && emp r.e.val)))) := by
                    show _ = _
                    rw [HAM.out, decide_eq_true h1, decide_eq_true h2, decide_eq_true (show e.keys = [r.e.key] by rw [hks, h4]), Bool.true_and, Bool.true_and, Bool.true_and]
                  clear h1 h2 h3 h4 hka hck hs0 hks HAM
                  refine Reg.wp_region_rel (by kernel_rfl) 97 41 rfl rfl (by kernel_rfl) (Reg.Adds) (Reg.Adds.refl) (Reg.Adds.trans)
                    (fun i v u => match i with
                      | 0 => v = .slice (some ⟨b, o, none⟩) h.length c
                      | 1 => v = .int .i64 k
                      | 2 => v = .pointer (some ⟨b, o + k * 20, none⟩)
                      | 3 => v = .agg (evCells e).toArray
                      | 4 => v = .bool true
                      | 5 => v = .bool false
                      | 6 => v = .bool false
                      | 7 => v = .slice (some ⟨b, o, none⟩) h.length c
                      | 8 => v = .int .i64 k
                      | 9 => v = .pointer (some ⟨b, o + k * 20, none⟩)
                      | 10 => v = .pointer (some ⟨b, o + k * 20, none⟩)
                      | 11 => v = .int .i64 e.cl
                      | 12 => v = .pointer (some ⟨w.heap.size + 1, 18, none⟩)
                      | 13 => v = .int .i64 r.e.cl
                      | 14 => v = .bool false
                      | 15 => v = .bool false
                      | 16 => v = .bool false
                      | 17 => v = .slice (some ⟨b, o, none⟩) h.length c
                      | 18 => v = .int .i64 k
                      | 19 => v = .pointer (some ⟨b, o + k * 20, none⟩)
                      | 20 => v = .pointer (some ⟨b, o + k * 20 + 1, none⟩)
                      | 21 => v = .int .i64 e.op
                      | 22 => v = .pointer (some ⟨w.heap.size + 1, 19, none⟩)
                      | 23 => v = .int .i64 r.e.op
                      | 24 => v = .bool false
                      | 25 => v = .bool false
                      | 26 => v = .bool false
                      | 27 => v = .pointer (some ⟨wr.heap.size, 1, none⟩)
                      | 28 => v = .slice e.kA e.keys.length e.kc
                      | 29 => v = .int .i64 ((e.keys.length : Nat) : Int)
                      | 30 => v = .bool false
                      | 31 => v = .bool false
                      | 32 => v = .bool false
                      | 33 => v = .pointer (some ⟨wr.heap.size, 1, none⟩)
                      | 34 => v = .slice e.kA e.keys.length e.kc
                      | 35 => v = .pointer (some ⟨bk, ok, none⟩)
                      | 36 => v = .string s0
                      | 37 => v = .pointer (some ⟨w.heap.size + 1, 6, none⟩)
                      | 38 => v = .string r.e.key
                      | 39 => v = .bool false
                      | 40 => v = .bool false
                      | _ => True) ?_ ?_
                  · refine Reg.Steps.cons ?_ (Reg.Steps.cons ?_ (Reg.Steps.cons ?_ (Reg.Steps.cons ?_ (Reg.Steps.cons ?_ (Reg.Steps.cons ?_ (Reg.Steps.cons ?_ (Reg.Steps.cons ?_ (Reg.Steps.cons ?_ (Reg.Steps.cons ?_ (Reg.Steps.cons ?_ (Reg.Steps.cons ?_ (Reg.Steps.cons ?_ (Reg.Steps.cons ?_ (Reg.Steps.cons ?_ (Reg.Steps.cons ?_ (Reg.Steps.cons ?_ (Reg.Steps.cons ?_ (Reg.Steps.cons ?_ (Reg.Steps.cons ?_ (Reg.Steps.cons ?_ (Reg.Steps.cons ?_ (Reg.Steps.cons ?_ (Reg.Steps.cons ?_ (Reg.Steps.cons ?_ (Reg.Steps.cons ?_ (Reg.Steps.cons ?_ (Reg.Steps.cons ?_ (Reg.Steps.cons ?_ (Reg.Steps.cons ?_ (Reg.Steps.cons ?_ (Reg.Steps.cons ?_ (Reg.Steps.cons ?_ (Reg.Steps.cons ?_ (Reg.Steps.cons ?_ (Reg.Steps.cons ?_ (Reg.Steps.cons ?_ (Reg.Steps.cons ?_ (Reg.Steps.cons ?_ (Reg.Steps.cons ?_ (Reg.Steps.cons ?_ (Reg.Steps.nil _)))))))))))))))))))))))))))))))))))))))))
                    · intro val ac u hR hp ha K hK
                      have e0 : (ac.tmps[0]?).getD undef = .slice (some ⟨b, o, none⟩) h.length c := ha 0 (by decide); clear ha hp
                      refine Reg.Op1.plain rfl ?_
                      go_wp2
                      exact ⟨rfl, hK _ _ rfl (fun j k _ _ => Reg.Adds.refl _ _ _)⟩
                    · intro val ac u hR hp ha K hK
                      have e8 : (ac.tmps[8]?).getD undef = .int .i64 k := ha 8 (by decide); clear ha hp
                      refine Reg.Op1.plain rfl ?_
                      go_wp2
                      exact ⟨rfl, hK _ _ rfl (fun j k _ _ => Reg.Adds.refl _ _ _)⟩
                    · intro val ac u hR hp ha K hK
                      obtain ⟨w27, h27, r27⟩ := hp 0 (by decide); have e27 : (ac.tmps[27]?).getD undef = .slice (some ⟨b, o, none⟩) h.length c := (ha 27 (by decide)).trans h27; obtain ⟨w28, h28, r28⟩ := hp 1 (by decide); have e28 : (ac.tmps[28]?).getD undef = .int .i64 k := (ha 28 (by decide)).trans h28; clear h27 h28 ha hp
                      refine Reg.Op1.plain rfl ?_
                      go_wp2
                      exact ⟨rfl, hK _ _ rfl (fun j k _ _ => Reg.Adds.refl _ _ _)⟩
                    · intro val ac u hR hp ha K hK
                      obtain ⟨w29, h29, r29⟩ := hp 2 (by decide); have e29 : (ac.tmps[29]?).getD undef = .pointer (some ⟨b, o + k * 20, none⟩) := (ha 29 (by decide)).trans h29; clear h29 ha hp
                      refine Reg.Op1.plain rfl ?_
                      refine Mem.load_agg _ _ event_agg b (o + k * 20) (evCells e) (Reg.eval_of e29) (evCells_length _) (fun q u' hu => (hR.cell (p := ⟨b, o + k * 20 + q, none⟩) hbw).trans (HAT.out q u' hu)) ?_
                      exact ⟨rfl, hK _ _ rfl (fun j k _ _ => Reg.Adds.refl _ _ _)⟩
                    · intro val ac u hR hp ha K hK
                      obtain ⟨w30, h30, r30⟩ := hp 3 (by decide); have e30 : (ac.tmps[30]?).getD undef = .agg (evCells e).toArray := (ha 30 (by decide)).trans h30; clear h30 ha hp
                      refine Reg.Op1.plain rfl ?_
                      go_wp2_with fail
                      refine (beginning_any e u).mono ?_
                      rintro x w' ⟨rfl, hbw⟩
                      rw [HBG.out]
                      go_wp2_with fail
                      exact ⟨rfl, hK _ _ rfl (fun j k _ _ => hbw)⟩
                    · intro val ac u hR hp ha K hK
                      obtain ⟨w31, h31, r31⟩ := hp 4 (by decide); have e31 : (ac.tmps[31]?).getD undef = .bool true := (ha 31 (by decide)).trans h31; clear h31 ha hp
                      refine Reg.Op1.plain rfl ?_
                      go_wp2
                      exact ⟨rfl, hK _ _ rfl (fun j k _ _ => Reg.Adds.refl _ _ _)⟩
                    · intro val ac u hR hp ha K hK
                      obtain ⟨w32, h32, r32⟩ := hp 5 (by decide); have e32 : (ac.tmps[32]?).getD undef = .bool false := (ha 32 (by decide)).trans h32; clear h32 ha hp
                      refine Reg.Op1.plain rfl ?_
                      go_wp2
                      exact ⟨rfl, hK _ _ rfl (fun j k _ _ => Reg.Adds.refl _ _ _)⟩
                    · intro val ac u hR hp ha K hK
                      have e0 : (ac.tmps[0]?).getD undef = .slice (some ⟨b, o, none⟩) h.length c := ha 0 (by decide); obtain ⟨w33, h33, r33⟩ := hp 6 (by decide); have e33 : (ac.tmps[33]?).getD undef = .bool false := (ha 33 (by decide)).trans h33; clear h33 ha hp
                      refine Reg.Op1.guarded rfl rfl e33 (fun _ => Reg.Op1.plain rfl ?_) (fun h => absurd rfl h)
                      go_wp2
                      exact ⟨rfl, hK _ _ rfl (fun j k _ _ => Reg.Adds.refl _ _ _)⟩
                    · intro val ac u hR hp ha K hK
                      have e8 : (ac.tmps[8]?).getD undef = .int .i64 k := ha 8 (by decide); obtain ⟨w33, h33, r33⟩ := hp 6 (by decide); have e33 : (ac.tmps[33]?).getD undef = .bool false := (ha 33 (by decide)).trans h33; clear h33 ha hp
                      refine Reg.Op1.guarded rfl rfl e33 (fun _ => Reg.Op1.plain rfl ?_) (fun h => absurd rfl h)
                      go_wp2
                      exact ⟨rfl, hK _ _ rfl (fun j k _ _ => Reg.Adds.refl _ _ _)⟩
                    · intro val ac u hR hp ha K hK
                      obtain ⟨w34, h34, r34⟩ := hp 7 (by decide); have e34 : (ac.tmps[34]?).getD undef = .slice (some ⟨b, o, none⟩) h.length c := (ha 34 (by decide)).trans h34; obtain ⟨w35, h35, r35⟩ := hp 8 (by decide); have e35 : (ac.tmps[35]?).getD undef = .int .i64 k := (ha 35 (by decide)).trans h35; obtain ⟨w33, h33, r33⟩ := hp 6 (by decide); have e33 : (ac.tmps[33]?).getD undef = .bool false := (ha 33 (by decide)).trans h33; clear h34 h35 h33 ha hp
                      refine Reg.Op1.guarded rfl rfl e33 (fun _ => Reg.Op1.plain rfl ?_) (fun h => absurd rfl h)
                      go_wp2
                      exact ⟨rfl, hK _ _ rfl (fun j k _ _ => Reg.Adds.refl _ _ _)⟩
                    · intro val ac u hR hp ha K hK
                      obtain ⟨w36, h36, r36⟩ := hp 9 (by decide); have e36 : (ac.tmps[36]?).getD undef = .pointer (some ⟨b, o + k * 20, none⟩) := (ha 36 (by decide)).trans h36; obtain ⟨w33, h33, r33⟩ := hp 6 (by decide); have e33 : (ac.tmps[33]?).getD undef = .bool false := (ha 33 (by decide)).trans h33; clear h36 h33 ha hp
                      refine Reg.Op1.guarded rfl rfl e33 (fun _ => Reg.Op1.plain rfl ?_) (fun h => absurd rfl h)
                      go_wp2
                      exact ⟨rfl, hK _ _ rfl (fun j k _ _ => Reg.Adds.refl _ _ _)⟩
                    · intro val ac u hR hp ha K hK
                      obtain ⟨w37, h37, r37⟩ := hp 10 (by decide); have e37 : (ac.tmps[37]?).getD undef = .pointer (some ⟨b, o + k * 20, none⟩) := (ha 37 (by decide)).trans h37; obtain ⟨w33, h33, r33⟩ := hp 6 (by decide); have e33 : (ac.tmps[33]?).getD undef = .bool false := (ha 33 (by decide)).trans h33; clear h37 h33 ha hp
                      refine Reg.Op1.guarded rfl rfl e33 (fun _ => Reg.Op1.plain rfl ?_) (fun h => absurd rfl h)
                      have x0 := (hR.cell (p := ⟨b, o + k * 20, none⟩) hbw).trans (HAT.out 0 _ rfl)
                      go_wp2
                      exact ⟨rfl, hK _ _ rfl (fun j k _ _ => Reg.Adds.refl _ _ _)⟩
                    · intro val ac u hR hp ha K hK
                      have e7 : (ac.tmps[7]?).getD undef = .pointer (some ⟨w.heap.size + 1, 0, none⟩) := ha 7 (by decide); obtain ⟨w33, h33, r33⟩ := hp 6 (by decide); have e33 : (ac.tmps[33]?).getD undef = .bool false := (ha 33 (by decide)).trans h33; clear h33 ha hp
                      refine Reg.Op1.guarded rfl rfl e33 (fun _ => Reg.Op1.plain rfl ?_) (fun h => absurd rfl h)
                      go_wp2
                      exact ⟨rfl, hK _ _ rfl (fun j k _ _ => Reg.Adds.refl _ _ _)⟩
                    · intro val ac u hR hp ha K hK
                      obtain ⟨w39, h39, r39⟩ := hp 12 (by decide); have e39 : (ac.tmps[39]?).getD undef = .pointer (some ⟨w.heap.size + 1, 18, none⟩) := (ha 39 (by decide)).trans h39; obtain ⟨w33, h33, r33⟩ := hp 6 (by decide); have e33 : (ac.tmps[33]?).getD undef = .bool false := (ha 33 (by decide)).trans h33; clear h39 h33 ha hp
                      refine Reg.Op1.guarded rfl rfl e33 (fun _ => Reg.Op1.plain rfl ?_) (fun h => absurd rfl h)
                      have x0 := (Mem.Bx.below (w := w3.drew) HE3.out hR HE3.out.lt).cell (j := 18) rfl
                      go_wp2
                      exact ⟨rfl, hK _ _ rfl (fun j k _ _ => Reg.Adds.refl _ _ _)⟩
                    · intro val ac u hR hp ha K hK
                      obtain ⟨w38, h38, r38⟩ := hp 11 (by decide); have e38 : (ac.tmps[38]?).getD undef = .int .i64 e.cl := (ha 38 (by decide)).trans h38; obtain ⟨w40, h40, r40⟩ := hp 13 (by decide); have e40 : (ac.tmps[40]?).getD undef = .int .i64 r.e.cl := (ha 40 (by decide)).trans h40; obtain ⟨w33, h33, r33⟩ := hp 6 (by decide); have e33 : (ac.tmps[33]?).getD undef = .bool false := (ha 33 (by decide)).trans h33; clear h38 h40 h33 ha hp
                      have hq := HQ2.out
                      refine Reg.Op1.guarded rfl rfl e33 (fun _ => Reg.Op1.plain rfl ?_) (fun h => absurd rfl h)
                      go_wp2
                      exact ⟨rfl, hK _ _ rfl (fun j k _ _ => Reg.Adds.refl _ _ _)⟩
                    · intro val ac u hR hp ha K hK
                      obtain ⟨w33, h33, r33⟩ := hp 6 (by decide); have e33 : (ac.tmps[33]?).getD undef = .bool false := (ha 33 (by decide)).trans h33; obtain ⟨w41, h41, r41⟩ := hp 14 (by decide); have e41 : (ac.tmps[41]?).getD undef = .bool false := (ha 41 (by decide)).trans h41; clear h33 h41 ha hp
                      refine Reg.Op1.plain rfl ?_
                      go_wp2
                      exact ⟨rfl, hK _ _ rfl (fun j k _ _ => Reg.Adds.refl _ _ _)⟩
                    · intro val ac u hR hp ha K hK
                      obtain ⟨w42, h42, r42⟩ := hp 15 (by decide); have e42 : (ac.tmps[42]?).getD undef = .bool false := (ha 42 (by decide)).trans h42; clear h42 ha hp
                      refine Reg.Op1.plain rfl ?_
                      go_wp2
                      exact ⟨rfl, hK _ _ rfl (fun j k _ _ => Reg.Adds.refl _ _ _)⟩
                    · intro val ac u hR hp ha K hK
                      have e0 : (ac.tmps[0]?).getD undef = .slice (some ⟨b, o, none⟩) h.length c := ha 0 (by decide); obtain ⟨w43, h43, r43⟩ := hp 16 (by decide); have e43 : (ac.tmps[43]?).getD undef = .bool false := (ha 43 (by decide)).trans h43; clear h43 ha hp
                      refine Reg.Op1.guarded rfl rfl e43 (fun _ => Reg.Op1.plain rfl ?_) (fun h => absurd rfl h)
                      go_wp2
                      exact ⟨rfl, hK _ _ rfl (fun j k _ _ => Reg.Adds.refl _ _ _)⟩
                    · intro val ac u hR hp ha K hK
                      have e8 : (ac.tmps[8]?).getD undef = .int .i64 k := ha 8 (by decide); obtain ⟨w43, h43, r43⟩ := hp 16 (by decide); have e43 : (ac.tmps[43]?).getD undef = .bool false := (ha 43 (by decide)).trans h43; clear h43 ha hp
                      refine Reg.Op1.guarded rfl rfl e43 (fun _ => Reg.Op1.plain rfl ?_) (fun h => absurd rfl h)
                      go_wp2
                      exact ⟨rfl, hK _ _ rfl (fun j k _ _ => Reg.Adds.refl _ _ _)⟩
                    · intro val ac u hR hp ha K hK
                      obtain ⟨w44, h44, r44⟩ := hp 17 (by decide); have e44 : (ac.tmps[44]?).getD undef = .slice (some ⟨b, o, none⟩) h.length c := (ha 44 (by decide)).trans h44; obtain ⟨w45, h45, r45⟩ := hp 18 (by decide); have e45 : (ac.tmps[45]?).getD undef = .int .i64 k := (ha 45 (by decide)).trans h45; obtain ⟨w43, h43, r43⟩ := hp 16 (by decide); have e43 : (ac.tmps[43]?).getD undef = .bool false := (ha 43 (by decide)).trans h43; clear h44 h45 h43 ha hp
                      refine Reg.Op1.guarded rfl rfl e43 (fun _ => Reg.Op1.plain rfl ?_) (fun h => absurd rfl h)
                      go_wp2
                      exact ⟨rfl, hK _ _ rfl (fun j k _ _ => Reg.Adds.refl _ _ _)⟩
                    · intro val ac u hR hp ha K hK
                      obtain ⟨w46, h46, r46⟩ := hp 19 (by decide); have e46 : (ac.tmps[46]?).getD undef = .pointer (some ⟨b, o + k * 20, none⟩) := (ha 46 (by decide)).trans h46; obtain ⟨w43, h43, r43⟩ := hp 16 (by decide); have e43 : (ac.tmps[43]?).getD undef = .bool false := (ha 43 (by decide)).trans h43; clear h46 h43 ha hp
                      refine Reg.Op1.guarded rfl rfl e43 (fun _ => Reg.Op1.plain rfl ?_) (fun h => absurd rfl h)
                      go_wp2
                      exact ⟨rfl, hK _ _ rfl (fun j k _ _ => Reg.Adds.refl _ _ _)⟩
                    · intro val ac u hR hp ha K hK
                      obtain ⟨w47, h47, r47⟩ := hp 20 (by decide); have e47 : (ac.tmps[47]?).getD undef = .pointer (some ⟨b, o + k * 20 + 1, none⟩) := (ha 47 (by decide)).trans h47; obtain ⟨w43, h43, r43⟩ := hp 16 (by decide); have e43 : (ac.tmps[43]?).getD undef = .bool false := (ha 43 (by decide)).trans h43; clear h47 h43 ha hp
                      refine Reg.Op1.guarded rfl rfl e43 (fun _ => Reg.Op1.plain rfl ?_) (fun h => absurd rfl h)
                      have x0 := (hR.cell (p := ⟨b, o + k * 20 + 1, none⟩) hbw).trans (HAT.out 1 _ rfl)
                      go_wp2
                      exact ⟨rfl, hK _ _ rfl (fun j k _ _ => Reg.Adds.refl _ _ _)⟩
                    · intro val ac u hR hp ha K hK
                      have e7 : (ac.tmps[7]?).getD undef = .pointer (some ⟨w.heap.size + 1, 0, none⟩) := ha 7 (by decide); obtain ⟨w43, h43, r43⟩ := hp 16 (by decide); have e43 : (ac.tmps[43]?).getD undef = .bool false := (ha 43 (by decide)).trans h43; clear h43 ha hp
                      refine Reg.Op1.guarded rfl rfl e43 (fun _ => Reg.Op1.plain rfl ?_) (fun h => absurd rfl h)
                      go_wp2
                      exact ⟨rfl, hK _ _ rfl (fun j k _ _ => Reg.Adds.refl _ _ _)⟩
                    · intro val ac u hR hp ha K hK
                      obtain ⟨w49, h49, r49⟩ := hp 22 (by decide); have e49 : (ac.tmps[49]?).getD undef = .pointer (some ⟨w.heap.size + 1, 19, none⟩) := (ha 49 (by decide)).trans h49; obtain ⟨w43, h43, r43⟩ := hp 16 (by decide); have e43 : (ac.tmps[43]?).getD undef = .bool false := (ha 43 (by decide)).trans h43; clear h49 h43 ha hp
                      refine Reg.Op1.guarded rfl rfl e43 (fun _ => Reg.Op1.plain rfl ?_) (fun h => absurd rfl h)
                      have x0 := (Mem.Bx.below (w := w3.drew) HE3.out hR HE3.out.lt).cell (j := 19) rfl
                      go_wp2
                      exact ⟨rfl, hK _ _ rfl (fun j k _ _ => Reg.Adds.refl _ _ _)⟩
                    · intro val ac u hR hp ha K hK
                      obtain ⟨w48, h48, r48⟩ := hp 21 (by decide); have e48 : (ac.tmps[48]?).getD undef = .int .i64 e.op := (ha 48 (by decide)).trans h48; obtain ⟨w50, h50, r50⟩ := hp 23 (by decide); have e50 : (ac.tmps[50]?).getD undef = .int .i64 r.e.op := (ha 50 (by decide)).trans h50; obtain ⟨w43, h43, r43⟩ := hp 16 (by decide); have e43 : (ac.tmps[43]?).getD undef = .bool false := (ha 43 (by decide)).trans h43; clear h48 h50 h43 ha hp
                      have hq := HQ3.out
                      refine Reg.Op1.guarded rfl rfl e43 (fun _ => Reg.Op1.plain rfl ?_) (fun h => absurd rfl h)
                      go_wp2
                      exact ⟨rfl, hK _ _ rfl (fun j k _ _ => Reg.Adds.refl _ _ _)⟩
                    · intro val ac u hR hp ha K hK
                      obtain ⟨w43, h43, r43⟩ := hp 16 (by decide); have e43 : (ac.tmps[43]?).getD undef = .bool false := (ha 43 (by decide)).trans h43; obtain ⟨w51, h51, r51⟩ := hp 24 (by decide); have e51 : (ac.tmps[51]?).getD undef = .bool false := (ha 51 (by decide)).trans h51; clear h43 h51 ha hp
                      refine Reg.Op1.plain rfl ?_
                      go_wp2
                      exact ⟨rfl, hK _ _ rfl (fun j k _ _ => Reg.Adds.refl _ _ _)⟩
                    · intro val ac u hR hp ha K hK
                      obtain ⟨w52, h52, r52⟩ := hp 25 (by decide); have e52 : (ac.tmps[52]?).getD undef = .bool false := (ha 52 (by decide)).trans h52; clear h52 ha hp
                      refine Reg.Op1.plain rfl ?_
                      go_wp2
                      exact ⟨rfl, hK _ _ rfl (fun j k _ _ => Reg.Adds.refl _ _ _)⟩
                    · intro val ac u hR hp ha K hK
                      have e9 : (ac.tmps[9]?).getD undef = .pointer (some ⟨wr.heap.size, 0, none⟩) := ha 9 (by decide); obtain ⟨w53, h53, r53⟩ := hp 26 (by decide); have e53 : (ac.tmps[53]?).getD undef = .bool false := (ha 53 (by decide)).trans h53; clear h53 ha hp
                      refine Reg.Op1.guarded rfl rfl e53 (fun _ => Reg.Op1.plain rfl ?_) (fun h => absurd rfl h)
                      go_wp2
                      exact ⟨rfl, hK _ _ rfl (fun j k _ _ => Reg.Adds.refl _ _ _)⟩
                    · intro val ac u hR hp ha K hK
                      obtain ⟨w54, h54, r54⟩ := hp 27 (by decide); have e54 : (ac.tmps[54]?).getD undef = .pointer (some ⟨wr.heap.size, 1, none⟩) := (ha 54 (by decide)).trans h54; obtain ⟨w53, h53, r53⟩ := hp 26 (by decide); have e53 : (ac.tmps[53]?).getD undef = .bool false := (ha 53 (by decide)).trans h53; clear h54 h53 ha hp
                      refine Reg.Op1.guarded rfl rfl e53 (fun _ => Reg.Op1.plain rfl ?_) (fun h => absurd rfl h)
                      have x0 := (Mem.Bx.below (w := w3.drew) HA3.out hR HA3.out.lt).cell (j := 1) rfl
                      go_wp2
                      exact ⟨rfl, hK _ _ rfl (fun j k _ _ => Reg.Adds.refl _ _ _)⟩
                    · intro val ac u hR hp ha K hK
                      obtain ⟨w55, h55, r55⟩ := hp 28 (by decide); have e55 : (ac.tmps[55]?).getD undef = .slice e.kA e.keys.length e.kc := (ha 55 (by decide)).trans h55; obtain ⟨w53, h53, r53⟩ := hp 26 (by decide); have e53 : (ac.tmps[53]?).getD undef = .bool false := (ha 53 (by decide)).trans h53; clear h55 h53 ha hp
                      refine Reg.Op1.guarded rfl rfl e53 (fun _ => Reg.Op1.plain rfl ?_) (fun h => absurd rfl h)
                      go_wp2
                      exact ⟨rfl, hK _ _ rfl (fun j k _ _ => Reg.Adds.refl _ _ _)⟩
                    · intro val ac u hR hp ha K hK
                      obtain ⟨w56, h56, r56⟩ := hp 29 (by decide); have e56 : (ac.tmps[56]?).getD undef = .int .i64 ((e.keys.length : Nat) : Int) := (ha 56 (by decide)).trans h56; obtain ⟨w53, h53, r53⟩ := hp 26 (by decide); have e53 : (ac.tmps[53]?).getD undef = .bool false := (ha 53 (by decide)).trans h53; clear h56 h53 ha hp
                      have hq := HQ4.out
                      refine Reg.Op1.guarded rfl rfl e53 (fun _ => Reg.Op1.plain rfl ?_) (fun h => absurd rfl h)
                      go_wp2
                      exact ⟨rfl, hK _ _ rfl (fun j k _ _ => Reg.Adds.refl _ _ _)⟩
                    · intro val ac u hR hp ha K hK
                      obtain ⟨w53, h53, r53⟩ := hp 26 (by decide); have e53 : (ac.tmps[53]?).getD undef = .bool false := (ha 53 (by decide)).trans h53; obtain ⟨w57, h57, r57⟩ := hp 30 (by decide); have e57 : (ac.tmps[57]?).getD undef = .bool false := (ha 57 (by decide)).trans h57; clear h53 h57 ha hp
                      refine Reg.Op1.plain rfl ?_
                      go_wp2
                      exact ⟨rfl, hK _ _ rfl (fun j k _ _ => Reg.Adds.refl _ _ _)⟩
                    · intro val ac u hR hp ha K hK
                      obtain ⟨w58, h58, r58⟩ := hp 31 (by decide); have e58 : (ac.tmps[58]?).getD undef = .bool false := (ha 58 (by decide)).trans h58; clear h58 ha hp
                      refine Reg.Op1.plain rfl ?_
                      go_wp2
                      exact ⟨rfl, hK _ _ rfl (fun j k _ _ => Reg.Adds.refl _ _ _)⟩
                    · intro val ac u hR hp ha K hK
                      have e9 : (ac.tmps[9]?).getD undef = .pointer (some ⟨wr.heap.size, 0, none⟩) := ha 9 (by decide); obtain ⟨w59, h59, r59⟩ := hp 32 (by decide); have e59 : (ac.tmps[59]?).getD undef = .bool false := (ha 59 (by decide)).trans h59; clear h59 ha hp
                      refine Reg.Op1.guarded rfl rfl e59 (fun _ => Reg.Op1.plain rfl ?_) (fun h => absurd rfl h)
                      go_wp2
                      exact ⟨rfl, hK _ _ rfl (fun j k _ _ => Reg.Adds.refl _ _ _)⟩
                    · intro val ac u hR hp ha K hK
                      obtain ⟨w60, h60, r60⟩ := hp 33 (by decide); have e60 : (ac.tmps[60]?).getD undef = .pointer (some ⟨wr.heap.size, 1, none⟩) := (ha 60 (by decide)).trans h60; obtain ⟨w59, h59, r59⟩ := hp 32 (by decide); have e59 : (ac.tmps[59]?).getD undef = .bool false := (ha 59 (by decide)).trans h59; clear h60 h59 ha hp
                      refine Reg.Op1.guarded rfl rfl e59 (fun _ => Reg.Op1.plain rfl ?_) (fun h => absurd rfl h)
                      have x0 := (Mem.Bx.below (w := w3.drew) HA3.out hR HA3.out.lt).cell (j := 1) rfl
                      go_wp2
                      exact ⟨rfl, hK _ _ rfl (fun j k _ _ => Reg.Adds.refl _ _ _)⟩
                    · intro val ac u hR hp ha K hK
                      obtain ⟨w61, h61, r61⟩ := hp 34 (by decide); have e61 : (ac.tmps[61]?).getD undef = .slice e.kA e.keys.length e.kc := (ha 61 (by decide)).trans h61; obtain ⟨w59, h59, r59⟩ := hp 32 (by decide); have e59 : (ac.tmps[59]?).getD undef = .bool false := (ha 59 (by decide)).trans h59; clear h61 h59 ha hp
                      have hka := HKA.out
                      have hkl := HKL.out
                      rw [hka, hkl] at e61
                      refine Reg.Op1.guarded rfl rfl e59 (fun _ => Reg.Op1.plain rfl ?_) (fun h => absurd rfl h)
                      go_wp2
                      exact ⟨rfl, hK _ _ rfl (fun j k _ _ => Reg.Adds.refl _ _ _)⟩
                    · intro val ac u hR hp ha K hK
                      obtain ⟨w62, h62, r62⟩ := hp 35 (by decide); have e62 : (ac.tmps[62]?).getD undef = .pointer (some ⟨bk, ok, none⟩) := (ha 62 (by decide)).trans h62; obtain ⟨w59, h59, r59⟩ := hp 32 (by decide); have e59 : (ac.tmps[59]?).getD undef = .bool false := (ha 59 (by decide)).trans h59; clear h62 h59 ha hp
                      refine Reg.Op1.guarded rfl rfl e59 (fun _ => Reg.Op1.plain rfl ?_) (fun h => absurd rfl h)
                      have x0 := (hR.cell (p := ⟨bk, ok, none⟩) hbk).trans HS0.out
                      go_wp2
                      exact ⟨rfl, hK _ _ rfl (fun j k _ _ => Reg.Adds.refl _ _ _)⟩
                    · intro val ac u hR hp ha K hK
                      have e7 : (ac.tmps[7]?).getD undef = .pointer (some ⟨w.heap.size + 1, 0, none⟩) := ha 7 (by decide); obtain ⟨w59, h59, r59⟩ := hp 32 (by decide); have e59 : (ac.tmps[59]?).getD undef = .bool false := (ha 59 (by decide)).trans h59; clear h59 ha hp
                      refine Reg.Op1.guarded rfl rfl e59 (fun _ => Reg.Op1.plain rfl ?_) (fun h => absurd rfl h)
                      go_wp2
                      exact ⟨rfl, hK _ _ rfl (fun j k _ _ => Reg.Adds.refl _ _ _)⟩
                    · intro val ac u hR hp ha K hK
                      obtain ⟨w64, h64, r64⟩ := hp 37 (by decide); have e64 : (ac.tmps[64]?).getD undef = .pointer (some ⟨w.heap.size + 1, 6, none⟩) := (ha 64 (by decide)).trans h64; obtain ⟨w59, h59, r59⟩ := hp 32 (by decide); have e59 : (ac.tmps[59]?).getD undef = .bool false := (ha 59 (by decide)).trans h59; clear h64 h59 ha hp
                      refine Reg.Op1.guarded rfl rfl e59 (fun _ => Reg.Op1.plain rfl ?_) (fun h => absurd rfl h)
                      have x0 := (Mem.Bx.below (w := w3.drew) HE3.out hR HE3.out.lt).cell (j := 6) rfl
                      go_wp2
                      exact ⟨rfl, hK _ _ rfl (fun j k _ _ => Reg.Adds.refl _ _ _)⟩
                    · intro val ac u hR hp ha K hK
                      obtain ⟨w63, h63, r63⟩ := hp 36 (by decide); have e63 : (ac.tmps[63]?).getD undef = .string s0 := (ha 63 (by decide)).trans h63; obtain ⟨w65, h65, r65⟩ := hp 38 (by decide); have e65 : (ac.tmps[65]?).getD undef = .string r.e.key := (ha 65 (by decide)).trans h65; obtain ⟨w59, h59, r59⟩ := hp 32 (by decide); have e59 : (ac.tmps[59]?).getD undef = .bool false := (ha 59 (by decide)).trans h59; clear h63 h65 h59 ha hp
                      have hq := HQ5.out
                      refine Reg.Op1.guarded rfl rfl e59 (fun _ => Reg.Op1.plain rfl ?_) (fun h => absurd rfl h)
                      go_wp2
                      exact ⟨rfl, hK _ _ rfl (fun j k _ _ => Reg.Adds.refl _ _ _)⟩
                    · intro val ac u hR hp ha K hK
                      obtain ⟨w59, h59, r59⟩ := hp 32 (by decide); have e59 : (ac.tmps[59]?).getD undef = .bool false := (ha 59 (by decide)).trans h59; obtain ⟨w66, h66, r66⟩ := hp 39 (by decide); have e66 : (ac.tmps[66]?).getD undef = .bool false := (ha 66 (by decide)).trans h66; clear h59 h66 ha hp
                      refine Reg.Op1.plain rfl ?_
                      go_wp2
                      exact ⟨rfl, hK _ _ rfl (fun j k _ _ => Reg.Adds.refl _ _ _)⟩
                  intro val u hR H
                  obtain ⟨wB, hv, rB⟩ := H 40 (by decide)
                  have hv : val 40 = .bool false := hv
                  have HKu : Hid (Below w3.heap.size w3 u) := (Below.refl _ w3).drew.trans hR
                  simp only [List.map_cons, List.map_nil, Reg.lay, Act.put, List.setIfInBounds_toArray, List.set_cons_succ, List.set_cons_zero, Nat.reduceAdd, hv]
                  clear hR H hv rB
                  obtain ⟨wy, hwy⟩ : ∃ z, z = u := ⟨_, rfl⟩
                  subst hwy
                  have HE4 : Hid (Vec.EBx wy (w.heap.size + 1) r.e) := HE3.out.below HKu.out HE3.out.lt
                  have HB4 : Hid (Below w.heap.size w wy) := HB3.out.trans (HKu.out.mono HB3.out.size)
                  have HA4 : Hid (Mem.Bx wy 42 4 wr.heap.size (askCells e)) := HA3.out.below HKu.out HA3.out.lt
                  clear HE3 HB3 HA3 HKu HAT hbw
                  have a0 : wy.cell? ⟨wr.heap.size, 0, none⟩ = some (.int .i64 e.kind) := HA4.out.cell (j := 0) rfl
                  have a2 : wy.cell? ⟨wr.heap.size, 2, none⟩ = some (.string e.val) := HA4.out.cell (j := 2) rfl
                  have x7 : wy.cell? ⟨w.heap.size + 1, 7, none⟩ = some (.string r.e.val) := HE4.out.cell (j := 7) rfl
                  have x8 : wy.cell? ⟨w.heap.size + 1, 8, none⟩ = some (.bool r.e.dead) := HE4.out.cell (j := 8) rfl
                  clear HA4 HQ2 HQ3 HQ4 HQ5 HS0 HKA HKL
                  by_cases k1 : e.kind = 1
                  · rw [k1] at a0
                    by_cases k2 : e.val = r.e.val
                    · have s1 := Vec.str_eq k2
                      cases k3 : r.e.dead with
                      | true =>
                        rw [k3] at x8
                        have HN : Hid ((h.take (k + 1)).any (askM r.e) = false) := by show _ = _; rw [any_snoc HHE.out, HT.out, HM.out]; simp [k1,k3]
                        clear HM k3
                        go_wp2
                        go_roundw
                        case rel => exact ⟨⟨k + 1, HLT.out, by go_num, HN, HE4, HB4⟩⟩
                        case measure => have := HLT.out; simp [intOf]; omega
                      | false =>
                        rw [k3] at x8
                        have hyes : askM r.e e = true := by rw [HM.out]; simp [k1,k2,k3]
                        obtain rfl : z = true := by rw [← HZ.out]; exact any_yes HHE.out HLT.out hyes
                        clear HM hyes k3
                        go_wp2
                        go_ret
                        exact ⟨rfl, HB4.out⟩
                    · have s1 := Vec.str_ne k2
                      cases k3 : r.e.dead with
                      | true =>
                        rw [k3] at x8
                        have HN : Hid ((h.take (k + 1)).any (askM r.e) = false) := by show _ = _; rw [any_snoc HHE.out, HT.out, HM.out]; simp [k1,k2,k3]
                        clear HM k3
                        go_wp2
                        go_roundw
                        case rel => exact ⟨⟨k + 1, HLT.out, by go_num, HN, HE4, HB4⟩⟩
                        case measure => have := HLT.out; simp [intOf]; omega
                      | false =>
                        rw [k3] at x8
                        have HN : Hid ((h.take (k + 1)).any (askM r.e) = false) := by show _ = _; rw [any_snoc HHE.out, HT.out, HM.out]; simp [k1,k2,k3]
                        clear HM k3
                        go_wp2
                        go_roundw
                        case rel => exact ⟨⟨k + 1, HLT.out, by go_num, HN, HE4, HB4⟩⟩
                        case measure => have := HLT.out; simp [intOf]; omega
                  · have b1 : (e.kind == 1) = false := by simpa using k1
                    by_cases k2 : e.kind = 2
                    · rw [k2] at a0
                      cases k3 : r.e.dead with
                      | false =>
                        rw [k3] at x8
                        have HN : Hid ((h.take (k + 1)).any (askM r.e) = false) := by show _ = _; rw [any_snoc HHE.out, HT.out, HM.out]; simp [k1,k2,k3]
                        clear HM k3
                        go_wp2
                        go_roundw
                        case rel => exact ⟨⟨k + 1, HLT.out, by go_num, HN, HE4, HB4⟩⟩
                        case measure => have := HLT.out; simp [intOf]; omega
                      | true =>
                        rw [k3] at x8
                        by_cases k4 : r.e.val = ByteArray.empty
                        · rw [k4] at x7
                          have x7 : wy.cell? ⟨w.heap.size + 1, 7, none⟩ = some (.string ⟨#[]⟩) := x7
                          have hyes : askM r.e e = true := by rw [HM.out]; simp [k1,k2,k3,k4,emp]
                          obtain rfl : z = true := by rw [← HZ.out]; exact any_yes HHE.out HLT.out hyes
                          clear HM hyes k3
                          go_wp2
                          go_ret
                          exact ⟨rfl, HB4.out⟩
                        · have s2 := isEmpty_no k4
                          have s3 : (r.e.val.toList == (⟨#[]⟩ : ByteArray).toList) = false := Vec.str_ne k4
                          have HN : Hid ((h.take (k + 1)).any (askM r.e) = false) := by show _ = _; rw [any_snoc HHE.out, HT.out, HM.out]; simp [k1,k2,k3,k4,emp]
                          clear HM k3
                          go_wp2
                          go_roundw
                          case rel => exact ⟨⟨k + 1, HLT.out, by go_num, HN, HE4, HB4⟩⟩
                          case measure => have := HLT.out; simp [intOf]; omega
                    · have b2 : (e.kind == 2) = false := by simpa using k2
                      have k3 := trivial
                      have HN : Hid ((h.take (k + 1)).any (askM r.e) = false) := by show _ = _; rw [any_snoc HHE.out, HT.out, HM.out]; simp [k1,k2]
                      clear HM k3
                      go_wp2
                      go_roundw
                      case rel => exact ⟨⟨k + 1, HLT.out, by go_num, HN, HE4, HB4⟩⟩
                      case measure => have := HLT.out; simp [intOf]; omega
      · obtain rfl : k = a := by omega
        have d0 : decide ((k : Int) < (k : Int)) = false := by simp
        obtain rfl : z = false := by rw [← HZ.out]; exact HT.out
        go_wp2
        go_ret
        exact ⟨rfl, HB.out⟩
end Go.Proofs.Ytelephoalpphkaa
end
section
/- The document's Past and wrong. No conditions but that lists are few. -/
set_option maxRecDepth 8000
namespace Go.Proofs.Ytelephoalpphkaa
open Go.ChangeShapes Go.WideShapes Go.ChangeAt Go.RowKit
set_option linter.unusedVariables false
set_option linter.unusedSimpArgs false
namespace Vec
def refPastL (es : List Ent) : Vc := es.foldl (fun v e => withD (mergeL [v, e.deps]) (dotE e)) vc0
theorem refPast_snoc (es : List Ent) (e : Ent) : refPastL (es ++ [e]) = withD (mergeL [refPastL es, e.deps]) (dotE e) := by unfold refPastL; rw [List.foldl_append]; rfl
theorem refPast_one (e : Ent) : refPastL [e] = pastL [e] := rfl
structure PsRel (w : World) (es : List Ent) (vi : Value) (wr : World) : Prop where
  out : ∃ k : Nat, k ≤ es.length ∧ vi = .int .i64 k ∧ Hid (Vec.VBx wr w.heap.size vc0) ∧ Hid (Vec.VBx wr (w.heap.size + 1) (refPastL (es.take k))) ∧ Hid (Below w.heap.size w wr)
end Vec
open Vec in
set_option maxHeartbeats 8000000 in
theorem refPast_any (A : Option Addr) (c : Nat) (es : List Vec.Ent) (w : World) (hr : Mem.Rd w w.heap.size A (es.flatMap Vec.entCells)) (hn : es.length ≤ 1000000) :
    Calls Try.prog 61 #[.slice A es.length c] w fun e w' => e = .returned (.agg (Vec.vcCells (Vec.refPastL es)).toArray) ∧ Below w.heap.size w w' := by
  have hm := Lib.hid hr
  clear hr
  go_enter Try.func61, Try.ntmps61
  go_wp2
  go_loopw [4] (PsRel w es) (fun t _ => es.length - (intOf t).toNat)
  case atStart =>
    refine ⟨⟨0, by omega, rfl, ?_, ?_, ?_⟩⟩
    · exact (Mem.Bx.new w 33 (vcCells vc0).toArray rfl rfl : Vec.VBx _ _ vc0).below (Reg.below_new _ _) (by simp)
    · exact Mem.Bx.new (w.alloc _) 33 (vcCells vc0).toArray rfl (by simp)
    · exact (Reg.below_new _ _).alloc (by simp) _
  case round =>
    obtain ⟨k, hk, rfl, HZ, HO, HB⟩ := hrel.out
    clear hrel
    by_cases hlt : k < es.length
    · obtain ⟨b, o, e, rfl, hb, he, hat⟩ := ent_elem hm.out hlt
      have HAT := Lib.hid (hat.below HB.out hb)
      have hts := Lib.hid (show refPastL (es.take (k + 1)) = withD (mergeL [refPastL (es.take k), e.deps]) (dotE e) by rw [Mem.take_snoc he, refPast_snoc])
      obtain ⟨vv, hvv⟩ : ∃ z, refPastL (es.take k) = z := ⟨_, rfl⟩
      rw [hvv] at HO hts
      obtain ⟨nv, hnv⟩ : ∃ z, withD (mergeL [vv, e.deps]) (dotE e) = z := ⟨_, rfl⟩
      have HNV := Lib.hid hnv
      rw [hnv] at hts
      have hbw := Nat.lt_of_lt_of_le hb HB.out.size
      have hbn : b ≠ w.heap.size + 1 := by omega
      have d0 : decide ((k : Int) < (es.length : Int)) = true := by simp; omega
      have HLT := Lib.hid hlt
      clear hat he hvv hnv
      go_upto_region 5 with fail
      refine Reg.wp_region_w (by kernel_rfl) 25 14 rfl rfl (by kernel_rfl) (13) (fun y => y = w.heap.size + 1) (0) (fun _ => False) (0) (fun _ => False)
        (fun i v u => match i with
          | 0 => v = .agg (vcCells vv).toArray
          | 1 => v = .slice (some ⟨b, o, none⟩) es.length c
          | 2 => v = .int .i64 k
          | 3 => v = .pointer (some ⟨b, o + k * 20, none⟩)
          | 4 => v = .pointer (some ⟨b, o + k * 20 + 9, none⟩)
          | 5 => v = .agg (vcCells e.deps).toArray
          | 6 => v = .agg (vcCells (mergeL [vv, e.deps])).toArray
          | 7 => v = .slice (some ⟨b, o, none⟩) es.length c
          | 8 => v = .int .i64 k
          | 9 => v = .pointer (some ⟨b, o + k * 20, none⟩)
          | 10 => v = .pointer (some ⟨b, o + k * 20, none⟩)
          | 11 => v = .agg (dtCells (dotE e)).toArray
          | 12 => v = .agg (vcCells nv).toArray
          | 13 => VBx u (w.heap.size + 1) nv
          | _ => True) ?_ ?_
      · refine Reg.Steps.cons ?_ (Reg.Steps.cons ?_ (Reg.Steps.cons ?_ (Reg.Steps.cons ?_ (Reg.Steps.cons ?_ (Reg.Steps.cons ?_ (Reg.Steps.cons ?_ (Reg.Steps.cons ?_ (Reg.Steps.cons ?_ (Reg.Steps.cons ?_ (Reg.Steps.cons ?_ (Reg.Steps.cons ?_ (Reg.Steps.cons ?_ (Reg.Steps.cons ?_ (Reg.Steps.nil _))))))))))))))
        · intro val ac u hR hp ha K hK
          have e3 : (ac.tmps[3]?).getD undef = .pointer (some ⟨w.heap.size + 1, 0, none⟩) := ha 3 (by decide); clear ha hp
          refine Reg.Op1.plain rfl ?_
          have hk0 := (Mem.Keeps.refl (fun _ => False ∨ False) wr).drew.trans (Reg.Wr.not1 hR (by decide +kernel)) (fun _ h _ => h)
          have hVu : VBx u (w.heap.size + 1) vv := HO.out.keeps hk0 (fun h => h.elim id id)
          refine Mem.load_agg _ _ vec_agg (w.heap.size + 1) 0 (vcCells vv) (Reg.eval_of e3) (vcCells_length _) (fun j u' hu => by rw [Nat.zero_add]; exact hVu.cell hu) ?_
          exact ⟨rfl, hK _ _ rfl (Reg.Wr.same _)⟩
        · intro val ac u hR hp ha K hK
          have e0 : (ac.tmps[0]?).getD undef = .slice (some ⟨b, o, none⟩) es.length c := ha 0 (by decide); clear ha hp
          refine Reg.Op1.plain rfl ?_
          go_wp2
          exact ⟨rfl, hK _ _ rfl (Reg.Wr.same _)⟩
        · intro val ac u hR hp ha K hK
          have e4 : (ac.tmps[4]?).getD undef = .int .i64 k := ha 4 (by decide); clear ha hp
          refine Reg.Op1.plain rfl ?_
          go_wp2
          exact ⟨rfl, hK _ _ rfl (Reg.Wr.same _)⟩
        · intro val ac u hR hp ha K hK
          obtain ⟨w12, h12, r12⟩ := hp 1 (by decide); have e12 : (ac.tmps[12]?).getD undef = .slice (some ⟨b, o, none⟩) es.length c := (ha 12 (by decide)).trans h12; obtain ⟨w13, h13, r13⟩ := hp 2 (by decide); have e13 : (ac.tmps[13]?).getD undef = .int .i64 k := (ha 13 (by decide)).trans h13; clear h12 h13 ha hp
          refine Reg.Op1.plain rfl ?_
          go_wp2
          exact ⟨rfl, hK _ _ rfl (Reg.Wr.same _)⟩
        · intro val ac u hR hp ha K hK
          obtain ⟨w14, h14, r14⟩ := hp 3 (by decide); have e14 : (ac.tmps[14]?).getD undef = .pointer (some ⟨b, o + k * 20, none⟩) := (ha 14 (by decide)).trans h14; clear h14 ha hp
          refine Reg.Op1.plain rfl ?_
          go_wp2
          exact ⟨rfl, hK _ _ rfl (Reg.Wr.same _)⟩
        · intro val ac u hR hp ha K hK
          obtain ⟨w15, h15, r15⟩ := hp 4 (by decide); have e15 : (ac.tmps[15]?).getD undef = .pointer (some ⟨b, o + k * 20 + 9, none⟩) := (ha 15 (by decide)).trans h15; clear h15 ha hp
          refine Reg.Op1.plain rfl ?_
          have hk0 := (Mem.Keeps.refl (fun y => y = w.heap.size + 1 ∨ False ∨ False) wr).drew.trans (Reg.Wr.all hR) (fun _ h _ => h)
          refine Mem.load_agg _ _ vec_agg b (o + k * 20 + 9) (vcCells e.deps) (Reg.eval_of e15) (vcCells_length _) (fun q u' hu => (hk0.cell (p := ⟨b, o + k * 20 + 9 + q, none⟩) hbw (fun h => by rcases h with h | h | h; exact hbn h; exact h; exact h)).trans (by have h9 := HAT.out.c (9 + q) u' (Vec.deps_at2 e hu); rw [← Nat.add_assoc] at h9; exact h9)) ?_
          exact ⟨rfl, hK _ _ rfl (Reg.Wr.same _)⟩
        · intro val ac u hR hp ha K hK
          obtain ⟨w11, h11, r11⟩ := hp 0 (by decide); have e11 : (ac.tmps[11]?).getD undef = .agg (vcCells vv).toArray := (ha 11 (by decide)).trans h11; obtain ⟨w16, h16, r16⟩ := hp 5 (by decide); have e16 : (ac.tmps[16]?).getD undef = .agg (vcCells e.deps).toArray := (ha 16 (by decide)).trans h16; clear h11 h16 ha hp
          refine Reg.Op1.plain rfl ?_
          go_wp2_with fail
          refine (refTwo_any vv e.deps u).mono ?_
          rintro x w' ⟨rfl, hbw⟩
          go_wp2_with fail
          exact ⟨rfl, hK _ _ rfl (Reg.Wr.below hbw)⟩
        · intro val ac u hR hp ha K hK
          have e0 : (ac.tmps[0]?).getD undef = .slice (some ⟨b, o, none⟩) es.length c := ha 0 (by decide); clear ha hp
          refine Reg.Op1.plain rfl ?_
          go_wp2
          exact ⟨rfl, hK _ _ rfl (Reg.Wr.same _)⟩
        · intro val ac u hR hp ha K hK
          have e4 : (ac.tmps[4]?).getD undef = .int .i64 k := ha 4 (by decide); clear ha hp
          refine Reg.Op1.plain rfl ?_
          go_wp2
          exact ⟨rfl, hK _ _ rfl (Reg.Wr.same _)⟩
        · intro val ac u hR hp ha K hK
          obtain ⟨w18, h18, r18⟩ := hp 7 (by decide); have e18 : (ac.tmps[18]?).getD undef = .slice (some ⟨b, o, none⟩) es.length c := (ha 18 (by decide)).trans h18; obtain ⟨w19, h19, r19⟩ := hp 8 (by decide); have e19 : (ac.tmps[19]?).getD undef = .int .i64 k := (ha 19 (by decide)).trans h19; clear h18 h19 ha hp
          refine Reg.Op1.plain rfl ?_
          go_wp2
          exact ⟨rfl, hK _ _ rfl (Reg.Wr.same _)⟩
        · intro val ac u hR hp ha K hK
          obtain ⟨w20, h20, r20⟩ := hp 9 (by decide); have e20 : (ac.tmps[20]?).getD undef = .pointer (some ⟨b, o + k * 20, none⟩) := (ha 20 (by decide)).trans h20; clear h20 ha hp
          refine Reg.Op1.plain rfl ?_
          go_wp2
          exact ⟨rfl, hK _ _ rfl (Reg.Wr.same _)⟩
        · intro val ac u hR hp ha K hK
          obtain ⟨w21, h21, r21⟩ := hp 10 (by decide); have e21 : (ac.tmps[21]?).getD undef = .pointer (some ⟨b, o + k * 20, none⟩) := (ha 21 (by decide)).trans h21; clear h21 ha hp
          refine Reg.Op1.plain rfl ?_
          have hk0 := (Mem.Keeps.refl (fun y => y = w.heap.size + 1 ∨ False ∨ False) wr).drew.trans (Reg.Wr.all hR) (fun _ h _ => h)
          refine Mem.load_agg _ _ dot_agg b (o + k * 20) (dtCells (dotE e)) (Reg.eval_of e21) (dtCells_length _) (fun q u' hu => (hk0.cell (p := ⟨b, o + k * 20 + q, none⟩) hbw (fun h => by rcases h with h | h | h; exact hbn h; exact h; exact h)).trans (HAT.out.c q u' (Vec.dot_at2 e hu))) ?_
          exact ⟨rfl, hK _ _ rfl (Reg.Wr.same _)⟩
        · intro val ac u hR hp ha K hK
          obtain ⟨w17, h17, r17⟩ := hp 6 (by decide); have e17 : (ac.tmps[17]?).getD undef = .agg (vcCells (mergeL [vv, e.deps])).toArray := (ha 17 (by decide)).trans h17; obtain ⟨w22, h22, r22⟩ := hp 11 (by decide); have e22 : (ac.tmps[22]?).getD undef = .agg (dtCells (dotE e)).toArray := (ha 22 (by decide)).trans h22; clear h17 h22 ha hp
          refine Reg.Op1.plain rfl ?_
          go_wp2_with fail
          refine (refWith_any (mergeL [vv, e.deps]) (dotE e) u).mono ?_
          rintro x w' ⟨rfl, hbw⟩
          rw [HNV.out]
          go_wp2_with fail
          exact ⟨rfl, hK _ _ rfl (Reg.Wr.below hbw)⟩
        · intro val ac u hR hp ha K hK
          have e3 : (ac.tmps[3]?).getD undef = .pointer (some ⟨w.heap.size + 1, 0, none⟩) := ha 3 (by decide); obtain ⟨w23, h23, r23⟩ := hp 12 (by decide); have e23 : (ac.tmps[23]?).getD undef = .agg (vcCells nv).toArray := (ha 23 (by decide)).trans h23; clear h23 ha hp
          refine Reg.Op1.plain rfl ?_
          have hk0 := (Mem.Keeps.refl (fun _ => False ∨ False) wr).drew.trans (Reg.Wr.not1 hR (by decide +kernel)) (fun _ h _ => h)
          have hVu : VBx u (w.heap.size + 1) vv := HO.out.keeps hk0 (fun h => h.elim id id)
          refine Mem.store_agg _ _ vec_agg (w.heap.size + 1) (vcCells vv) (vcCells nv) (Reg.eval_of e3) (Reg.eval_of e23) hVu (vcCells_length _) (vc_one _) ?_
          intro w' hb hk hs'
          exact ⟨rfl, hK undef _ hb (Reg.Wr.does1 hk)⟩
      · intro val u hR H
        obtain ⟨wA, hb9, rA⟩ := H 13 (by decide)
        have hbu : VBx u (w.heap.size + 1) nv := Mem.Bx.keeps hb9 (Reg.Wr.not1 rA (by decide +kernel)) (fun h => h.elim id id)
        have hk0 := (Mem.Keeps.refl (fun y => y = w.heap.size + 1 ∨ False ∨ False) wr).drew.trans (Reg.Wr.all hR) (fun _ h _ => h)
        have HN1 : Hid (VBx u w.heap.size vc0) := HZ.out.keeps hk0 (fun h => by rcases h with h | h | h <;> first | omega | exact h)
        have HN2 : Hid (VBx u (w.heap.size + 1) (refPastL (es.take (k + 1)))) := by show VBx _ _ _; rw [hts.out]; exact hbu
        have HN3 : Hid (Below w.heap.size w u) := HB.out.trans (hk0.below (fun q h => by rcases h with h | h | h <;> first | omega | exact h.elim) HB.out.size)
        simp only [List.map_cons, List.map_nil, Reg.lay, Act.put, List.setIfInBounds_toArray, List.set_cons_succ, List.set_cons_zero, Nat.reduceAdd]
        clear hR H hb9 rA hbu hk0
        go_wp2
        go_roundw
        case rel => exact ⟨⟨k + 1, HLT.out, by go_num, HN1, HN2, HN3⟩⟩
        case measure => have := HLT.out; simp [intOf]; omega
    · obtain rfl : k = es.length := by omega
      have d0 : decide ((es.length : Int) < (es.length : Int)) = false := by simp
      rw [List.take_length] at HO
      obtain ⟨m, hm2⟩ : ∃ m, refPastL es = m := ⟨_, rfl⟩
      rw [hm2] at HO
      have HM := Lib.hid hm2
      clear hm2
      go_wp2_with (first | ((with_reducible refine Mem.load_agg _ _ vec_agg (w.heap.size + 1) 0 (vcCells m) ?hx (vcCells_length m) (fun j u hu => by rw [Nat.zero_add]; exact HO.out.cell hu) ?_); case hx => exact rfl) | ((with_reducible refine Mem.store_agg _ _ vec_agg w.heap.size (vcCells vc0) (vcCells m) ?hx ?hy HZ.out (vcCells_length m) (vc_one m) ?_); (case hx => exact rfl); (case hy => exact rfl); intro w3 hb3 hk3 hs3))
      refine bodyPost_ret (v := .agg (vcCells m).toArray) ?_ rfl ⟨by rw [HM.out], HB.out.trans (hk3.below (fun k h => by omega) HB.out.size)⟩
      rw [Mem.results_agg Try.results61 vec_agg rfl hb3]
open Au in
open Vec (EBx entCells ent0 entCells_length ent_one vcCells vcCells_length) in
set_option maxHeartbeats 8000000 in
theorem wrong_any {w : World} {B : Nat} {A : Option Addr} {c : Nat} {h : List Au.Ev} {A2 : Option Addr} {c2 : Nat} {ws : List Vec.Ent} (d : Au.Dx w B A h A2 ws) (a : Nat) (ha : a < h.length) (e : Au.Ev) (he : h[a]? = some e) (rule : Int) (r : Au.Rs) :
    Calls Try.prog 40 #[.slice A h.length c, .int .i64 a, .int .i64 rule, .agg (Au.rsCells r).toArray, .slice A2 ws.length c2] w fun x w' => x = .returned (.bool (Au.dW h ws a e rule r)) ∧ Below w.heap.size w w' := by
  have hn6 : a ≤ 1000000 := Nat.le_trans (Nat.le_of_lt ha) d.n
  have HD := Lib.hid d
  have HHE := Lib.hid he
  have HHA := Lib.hid ha
  clear d he ha
  have HB1 : Hid (Below w.heap.size w (w.alloc (.cells (rsCells r).toArray 48))) := Reg.below_new _ _
  have HX1 : Hid (RBx (w.alloc (.cells (rsCells r).toArray 48)) w.heap.size r) := Mem.Bx.new w 48 (rsCells r).toArray rfl rfl
  have hz1 : (w.alloc (.cells (rsCells r).toArray 48)).heap.size = w.heap.size + 1 := Array.size_push _
  obtain ⟨w1, hw1⟩ : ∃ w1, w.alloc (.cells (rsCells r).toArray 48) = w1 := ⟨_, rfl⟩
  rw [hw1] at HB1 HX1 hz1
  have HZ1 := Lib.hid hz1
  clear hz1
  obtain ⟨z, hz⟩ : ∃ z, dW h ws a e rule r = z := ⟨_, rfl⟩
  rw [hz]
  have HZ := Lib.hid hz
  clear hz
  go_enter Try.func40, Try.ntmps40
  go_upto_region 1 with fail
  try rw [hw1]
  clear hw1
  have HDW := Lib.hid (HD.out.below (HB1.out.mono HD.out.le))
  obtain ⟨b, o, e', rfl, hb, he', hat⟩ := ev_elem HDW.out.H HHA.out
  obtain rfl : e' = e := Option.some.inj (he'.symm.trans HHE.out)
  have HAT := Lib.hid hat.c
  clear hat he'
  go_upto_region 2 with (first
    | ((with_reducible refine Mem.load_agg _ _ event_agg b (o + a * 20) (evCells e') ?hx (evCells_length _) HAT.out ?_); case hx => exact rfl)
    | ((with_reducible refine Mem.store_agg _ _ event_agg w1.heap.size (evCells ev0) (evCells e') ?hxj ?hyj ?hbj (evCells_length _) (ev_one _) ?_); ((case hxj => exact rfl); (case hyj => exact rfl); (case hbj => exact Mem.Bx.new w1 _ (evCells ev0).toArray rfl rfl)); intro w2 hb2 hk2 hs2))
  have HE2 : Hid (VBx w2 (w.heap.size + 1) e') := by show VBx _ _ _; rw [← HZ1.out]; exact hb2
  have HB12 : Hid (Below w1.heap.size w1 w2) := (hk2.newBox rfl).belowAll
  have HX2 : Hid (RBx w2 w.heap.size r) := HX1.out.below HB12.out HX1.out.lt
  have HB2 : Hid (Below w.heap.size w w2) := HB1.out.trans (HB12.out.mono HB1.out.size)
  have HD2 := Lib.hid (HD.out.below (HB2.out.mono HD.out.le))
  rw [HZ1.out]
  clear hb2 hk2 hs2 HAT HX1 HB1 HB12 HZ1 HDW
  by_cases r4 : rule = 4
  · subst r4
    cases hh : r.has
    · have y1 := HX2.out.cell (j := 1) rfl
      rw [hh] at y1
      obtain rfl : z = false := by rw [← HZ.out]; unfold dW; rw [if_pos rfl, hh]; rfl
      clear hh
      go_wp2
      go_ret
      exact ⟨rfl, HB2.out⟩
    · have y1 := HX2.out.cell (j := 1) rfl
      rw [hh] at y1
      have has := asked23_any (c := c) HD2.out a (Nat.le_of_lt HHA.out) r
      obtain ⟨q, hq⟩ : ∃ q, (decide (r.e.key = r.key) && (h.take a).any (askM r.e)) = q := ⟨_, rfl⟩
      rw [hq] at has
      have HAS := Lib.hid has
      obtain rfl : z = !q := by
        rw [← HZ.out]
        unfold dW
        rw [if_pos rfl, hh, Bool.true_and]
        show (!(decide (r.e.key = r.key) && (h.take a).any (askM r.e))) = _
        rw [hq]
      have HRC : Hid (∀ j u, (rsCells r)[j]? = some u → w2.cell? ⟨w.heap.size, 0 + j, none⟩ = some u) := fun j u hu => by rw [Nat.zero_add]; exact HX2.out.cell hu
      clear hh has hq
      cases q
      · go_wp2_with (first
          | ((with_reducible refine Mem.load_aggG _ _ result_agg w.heap.size 0 (rsCells r) ?hwa ?hxa (rsCells_length _) HRC.out ?_); ((case hwa => rfl); (case hxa => exact rfl)))
          | (go_at_call 60; (refine HAS.out.mono ?_); rintro x w3 ⟨rfl, hb3⟩; have HB3 := Lib.hid (HB2.out.trans (hb3.mono HB2.out.size)); clear hb3))
        go_ret
        exact ⟨rfl, HB3.out⟩
      · go_wp2_with (first
          | ((with_reducible refine Mem.load_aggG _ _ result_agg w.heap.size 0 (rsCells r) ?hwa ?hxa (rsCells_length _) HRC.out ?_); ((case hwa => rfl); (case hxa => exact rfl)))
          | (go_at_call 60; (refine HAS.out.mono ?_); rintro x w3 ⟨rfl, hb3⟩; have HB3 := Lib.hid (HB2.out.trans (hb3.mono HB2.out.size)); clear hb3))
        go_ret
        exact ⟨rfl, HB3.out⟩
  have n4 : (rule == 4) = false := by simpa using r4
  by_cases r5 : rule = 5
  · subst r5
    have v9 : w2.cell? ⟨w.heap.size + 1, 9, none⟩ = some (.int .i64 e'.code) := HE2.out.cell (j := 9) rfl
    have v2 : w2.cell? ⟨w.heap.size + 1, 2, none⟩ = some (.int .i64 e'.kind) := HE2.out.cell (j := 2) rfl
    have HZ1 : Hid (((e'.code == 0 && putsP e'.kind) && ownF e' r) = z) := by show _ = _; rw [← HZ.out]; unfold dW; rw [if_neg r4, if_pos rfl]
    clear HZ r4 n4
    cases hc : (e'.code == 0)
    · obtain rfl : z = false := by rw [← HZ1.out, hc]; rfl
      clear HZ1
      go_wp2
      go_ret
      exact ⟨rfl, HB2.out⟩
    · have hc0 : e'.code = 0 := by simpa using hc
      rw [hc0] at v9
      cases hk1 : (e'.kind == 1)
      · cases hk2 : (e'.kind == 2)
        · obtain rfl : z = false := by rw [← HZ1.out, hc]; unfold putsP; rw [hk1, hk2]; rfl
          clear HZ1 hc hc0
          go_wp2
          go_ret
          exact ⟨rfl, HB2.out⟩
        · have HZ2 : Hid (ownF e' r = z) := by show _ = _; rw [← HZ1.out, hc]; unfold putsP; rw [hk1, hk2]; rfl
          have hk20 : e'.kind = 2 := by simpa using hk2
          rw [hk20] at v2
          clear HZ1 hc hc0 hk1 hk2 hk20
          cases hh : r.has
          · have y1 := HX2.out.cell (j := 1) rfl
            rw [hh] at y1
            obtain rfl : z = true := by rw [← HZ2.out]; unfold ownF; rw [hh]; rfl
            clear hh HZ2
            go_wp2
            go_ret
            exact ⟨rfl, HB2.out⟩
          · have y1 := HX2.out.cell (j := 1) rfl
            rw [hh] at y1
            have y20 : w2.cell? ⟨w.heap.size, 20, none⟩ = some (.int .i64 r.e.cl) := HX2.out.cell (j := 20) rfl
            have y21 : w2.cell? ⟨w.heap.size, 21, none⟩ = some (.int .i64 r.e.op) := HX2.out.cell (j := 21) rfl
            have v0 : w2.cell? ⟨w.heap.size + 1, 0, none⟩ = some (.int .i64 e'.cl) := HE2.out.cell (j := 0) rfl
            have v1 : w2.cell? ⟨w.heap.size + 1, 1, none⟩ = some (.int .i64 e'.op) := HE2.out.cell (j := 1) rfl
            cases h1 : (r.e.cl != e'.cl)
            · cases h2 : (r.e.op != e'.op)
              · obtain rfl : z = false := by rw [← HZ2.out]; unfold ownF; rw [hh, h1, h2]; rfl
                clear hh HZ2
                go_wp2
                go_ret
                exact ⟨rfl, HB2.out⟩
              · obtain rfl : z = true := by rw [← HZ2.out]; unfold ownF; rw [hh, h1, h2]; rfl
                clear hh HZ2
                go_wp2
                go_ret
                exact ⟨rfl, HB2.out⟩
            · obtain rfl : z = true := by rw [← HZ2.out]; unfold ownF; rw [hh, h1]; rfl
              clear hh HZ2
              go_wp2
              go_ret
              exact ⟨rfl, HB2.out⟩
      · have HZ2 : Hid (ownF e' r = z) := by show _ = _; rw [← HZ1.out, hc]; unfold putsP; rw [hk1]; rfl
        have hk10 : e'.kind = 1 := by simpa using hk1
        rw [hk10] at v2
        clear HZ1 hc hc0 hk1 hk10
        cases hh : r.has
        · have y1 := HX2.out.cell (j := 1) rfl
          rw [hh] at y1
          obtain rfl : z = true := by rw [← HZ2.out]; unfold ownF; rw [hh]; rfl
          clear hh HZ2
          go_wp2
          go_ret
          exact ⟨rfl, HB2.out⟩
        · have y1 := HX2.out.cell (j := 1) rfl
          rw [hh] at y1
          have y20 : w2.cell? ⟨w.heap.size, 20, none⟩ = some (.int .i64 r.e.cl) := HX2.out.cell (j := 20) rfl
          have y21 : w2.cell? ⟨w.heap.size, 21, none⟩ = some (.int .i64 r.e.op) := HX2.out.cell (j := 21) rfl
          have v0 : w2.cell? ⟨w.heap.size + 1, 0, none⟩ = some (.int .i64 e'.cl) := HE2.out.cell (j := 0) rfl
          have v1 : w2.cell? ⟨w.heap.size + 1, 1, none⟩ = some (.int .i64 e'.op) := HE2.out.cell (j := 1) rfl
          cases h1 : (r.e.cl != e'.cl)
          · cases h2 : (r.e.op != e'.op)
            · obtain rfl : z = false := by rw [← HZ2.out]; unfold ownF; rw [hh, h1, h2]; rfl
              clear hh HZ2
              go_wp2
              go_ret
              exact ⟨rfl, HB2.out⟩
            · obtain rfl : z = true := by rw [← HZ2.out]; unfold ownF; rw [hh, h1, h2]; rfl
              clear hh HZ2
              go_wp2
              go_ret
              exact ⟨rfl, HB2.out⟩
          · obtain rfl : z = true := by rw [← HZ2.out]; unfold ownF; rw [hh, h1]; rfl
            clear hh HZ2
            go_wp2
            go_ret
            exact ⟨rfl, HB2.out⟩
  have n5 : (rule == 5) = false := by simpa using r5
  by_cases r7 : rule = 7
  · subst r7
    have HZ1 : Hid ((r.has && !pastP e' r) = z) := by show _ = _; rw [← HZ.out]; unfold dW; rw [if_neg r4, if_neg r5, if_pos rfl]
    clear HZ r4 n4 r5 n5
    go_upto_region 10 with fail
    cases hh : r.has
    · obtain rfl : z = false := by rw [← HZ1.out, hh]; rfl
      have HHS := Lib.hid hh
      have HCV : Hid (Vec.coversV e'.cut (Vec.pastL [r.e]) = Vec.coversV e'.cut (Vec.pastL [r.e])) := rfl
      clear hh HZ1
      refine Reg.wp_region_rel (by kernel_rfl) 106 15 rfl rfl (by kernel_rfl) (Reg.Adds) (Reg.Adds.refl) (Reg.Adds.trans)
        (fun i v u => match i with
          | 0 => v = .pointer (some ⟨w.heap.size, 1, none⟩)
          | 1 => v = .bool false
          | 2 => v = .bool false
          | 3 => v = undef
          | 4 => v = undef
          | 5 => v = undef
          | 6 => v = undef
          | 7 => v = undef
          | 8 => v = undef
          | 9 => v = undef
          | 10 => v = undef
          | 11 => v = undef
          | 12 => v = undef
          | 13 => v = .bool false
          | 14 => v = .bool false
          | _ => True) ?_ ?_
      · refine Reg.Steps.cons ?_ (Reg.Steps.cons ?_ (Reg.Steps.cons ?_ (Reg.Steps.cons ?_ (Reg.Steps.cons ?_ (Reg.Steps.cons ?_ (Reg.Steps.cons ?_ (Reg.Steps.cons ?_ (Reg.Steps.cons ?_ (Reg.Steps.cons ?_ (Reg.Steps.cons ?_ (Reg.Steps.cons ?_ (Reg.Steps.cons ?_ (Reg.Steps.cons ?_ (Reg.Steps.cons ?_ (Reg.Steps.nil _)))))))))))))))
        · intro val ac u hR hp ha K hK
          have e8 : (ac.tmps[8]?).getD undef = .pointer (some ⟨w.heap.size, 0, none⟩) := ha 8 (by decide); clear ha hp
          refine Reg.Op1.plain rfl ?_
          go_wp2
          exact ⟨rfl, hK _ _ rfl (fun j k _ _ => Reg.Adds.refl _ _ _)⟩
        · intro val ac u hR hp ha K hK
          obtain ⟨w73, h73, r73⟩ := hp 0 (by decide); have e73 : (ac.tmps[73]?).getD undef = .pointer (some ⟨w.heap.size, 1, none⟩) := (ha 73 (by decide)).trans h73; clear h73 ha hp
          refine Reg.Op1.plain rfl ?_
          have y1 := (Mem.Bx.below (w := w2.drew) HX2.out hR HX2.out.lt).cell (j := 1) rfl
          rw [HHS.out] at y1
          go_wp2
          exact ⟨rfl, hK _ _ rfl (fun j k _ _ => Reg.Adds.refl _ _ _)⟩
        · intro val ac u hR hp ha K hK
          obtain ⟨w74, h74, r74⟩ := hp 1 (by decide); have e74 : (ac.tmps[74]?).getD undef = .bool false := (ha 74 (by decide)).trans h74; clear h74 ha hp
          refine Reg.Op1.plain rfl ?_
          go_wp2
          exact ⟨rfl, hK _ _ rfl (fun j k _ _ => Reg.Adds.refl _ _ _)⟩
        · intro val ac u hR hp ha K hK; obtain ⟨_, h, _⟩ := hp 2 (by decide); exact Reg.Op1.guarded rfl rfl ((ha 75 (by decide)).trans h) (fun h => by cases h) (fun _ => hK _ _ rfl (fun j k _ _ => Reg.Adds.refl _ _ _))
        · intro val ac u hR hp ha K hK; obtain ⟨_, h, _⟩ := hp 2 (by decide); exact Reg.Op1.guarded rfl rfl ((ha 75 (by decide)).trans h) (fun h => by cases h) (fun _ => hK _ _ rfl (fun j k _ _ => Reg.Adds.refl _ _ _))
        · intro val ac u hR hp ha K hK; obtain ⟨_, h, _⟩ := hp 2 (by decide); exact Reg.Op1.guarded rfl rfl ((ha 75 (by decide)).trans h) (fun h => by cases h) (fun _ => hK _ _ rfl (fun j k _ _ => Reg.Adds.refl _ _ _))
        · intro val ac u hR hp ha K hK; obtain ⟨_, h, _⟩ := hp 2 (by decide); exact Reg.Op1.guarded rfl rfl ((ha 75 (by decide)).trans h) (fun h => by cases h) (fun _ => hK _ _ rfl (fun j k _ _ => Reg.Adds.refl _ _ _))
        · intro val ac u hR hp ha K hK; obtain ⟨_, h, _⟩ := hp 2 (by decide); exact Reg.Op1.guarded rfl rfl ((ha 75 (by decide)).trans h) (fun h => by cases h) (fun _ => hK _ _ rfl (fun j k _ _ => Reg.Adds.refl _ _ _))
        · intro val ac u hR hp ha K hK; obtain ⟨_, h, _⟩ := hp 2 (by decide); exact Reg.Op1.guarded rfl rfl ((ha 75 (by decide)).trans h) (fun h => by cases h) (fun _ => hK _ _ rfl (fun j k _ _ => Reg.Adds.refl _ _ _))
        · intro val ac u hR hp ha K hK; obtain ⟨_, h, _⟩ := hp 2 (by decide); exact Reg.Op1.guarded rfl rfl ((ha 75 (by decide)).trans h) (fun h => by cases h) (fun _ => hK _ _ rfl (fun j k _ _ => Reg.Adds.refl _ _ _))
        · intro val ac u hR hp ha K hK; obtain ⟨_, h, _⟩ := hp 2 (by decide); exact Reg.Op1.guarded rfl rfl ((ha 75 (by decide)).trans h) (fun h => by cases h) (fun _ => hK _ _ rfl (fun j k _ _ => Reg.Adds.refl _ _ _))
        · intro val ac u hR hp ha K hK; obtain ⟨_, h, _⟩ := hp 2 (by decide); exact Reg.Op1.guarded rfl rfl ((ha 75 (by decide)).trans h) (fun h => by cases h) (fun _ => hK _ _ rfl (fun j k _ _ => Reg.Adds.refl _ _ _))
        · intro val ac u hR hp ha K hK; obtain ⟨_, h, _⟩ := hp 2 (by decide); exact Reg.Op1.guarded rfl rfl ((ha 75 (by decide)).trans h) (fun h => by cases h) (fun _ => hK _ _ rfl (fun j k _ _ => Reg.Adds.refl _ _ _))
        · intro val ac u hR hp ha K hK
          obtain ⟨w75, h75, r75⟩ := hp 2 (by decide); have e75 : (ac.tmps[75]?).getD undef = .bool false := (ha 75 (by decide)).trans h75; obtain ⟨w85, h85, r85⟩ := hp 12 (by decide); have e85 : (ac.tmps[85]?).getD undef = undef := (ha 85 (by decide)).trans h85; clear h75 h85 ha hp
          refine Reg.Op1.plain rfl ?_
          go_wp2
          exact ⟨rfl, hK _ _ rfl (fun j k _ _ => Reg.Adds.refl _ _ _)⟩
        · intro val ac u hR hp ha K hK
          obtain ⟨w86, h86, r86⟩ := hp 13 (by decide); have e86 : (ac.tmps[86]?).getD undef = .bool false := (ha 86 (by decide)).trans h86; clear h86 ha hp
          refine Reg.Op1.plain rfl ?_
          go_wp2
          exact ⟨rfl, hK _ _ rfl (fun j k _ _ => Reg.Adds.refl _ _ _)⟩
      · intro val u hR H
        obtain ⟨_, hv, _⟩ := H 14 (by decide)
        have hv : val 14 = .bool false := hv
        have HKu : Hid (Below w2.heap.size w2 u) := (Below.refl _ w2).drew.trans hR
        simp only [List.map_cons, List.map_nil, Reg.lay, Act.put, List.setIfInBounds_toArray, List.set_cons_succ, List.set_cons_zero, Nat.reduceAdd, hv]
        clear hR H hv
        go_wp2
        go_ret
        exact ⟨rfl, HB2.out.trans (HKu.out.mono HB2.out.size)⟩
    · cases hcv : Vec.coversV e'.cut (Vec.pastL [r.e])
      · obtain rfl : z = true := by rw [← HZ1.out, hh]; unfold pastP; rw [hcv]; rfl
        have HHS := Lib.hid hh
        have HCV := Lib.hid hcv
        clear hh hcv HZ1
        refine Reg.wp_region_rel (by kernel_rfl) 106 15 rfl rfl (by kernel_rfl) (Reg.Adds) (Reg.Adds.refl) (Reg.Adds.trans)
          (fun i v u => match i with
            | 0 => v = .pointer (some ⟨w.heap.size, 1, none⟩)
            | 1 => v = .bool true
            | 2 => v = .bool true
            | 3 => v = .pointer (some ⟨w.heap.size + 1, 11, none⟩)
            | 4 => v = .agg (vcCells e'.cut).toArray
            | 5 => v = .slice none 0 0
            | 6 => v = .pointer (some ⟨w.heap.size, 2, none⟩)
            | 7 => v = .agg (entCells r.e).toArray
            | 8 => ∃ s0, v = .slice (some ⟨s0, 0, none⟩) 1 1 ∧ Mem.Rd u (s0 + 1) (some ⟨s0, 0, none⟩) (entCells r.e) ∧ s0 + 1 ≤ u.heap.size
            | 9 => ∃ A1 c1, v = .slice A1 1 c1 ∧ Mem.Own u 35 20 A1 1 c1 (entCells r.e)
            | 10 => v = .agg (vcCells (Vec.pastL [r.e])).toArray
            | 11 => v = .bool false
            | 12 => v = .bool true
            | 13 => v = .bool true
            | 14 => v = .bool true
            | _ => True) ?_ ?_
        · refine Reg.Steps.cons ?_ (Reg.Steps.cons ?_ (Reg.Steps.cons ?_ (Reg.Steps.cons ?_ (Reg.Steps.cons ?_ (Reg.Steps.cons ?_ (Reg.Steps.cons ?_ (Reg.Steps.cons ?_ (Reg.Steps.cons ?_ (Reg.Steps.cons ?_ (Reg.Steps.cons ?_ (Reg.Steps.cons ?_ (Reg.Steps.cons ?_ (Reg.Steps.cons ?_ (Reg.Steps.cons ?_ (Reg.Steps.nil _)))))))))))))))
          · intro val ac u hR hp ha K hK
            have e8 : (ac.tmps[8]?).getD undef = .pointer (some ⟨w.heap.size, 0, none⟩) := ha 8 (by decide); clear ha hp
            refine Reg.Op1.plain rfl ?_
            go_wp2
            exact ⟨rfl, hK _ _ rfl (fun j k _ _ => Reg.Adds.refl _ _ _)⟩
          · intro val ac u hR hp ha K hK
            obtain ⟨w73, h73, r73⟩ := hp 0 (by decide); have e73 : (ac.tmps[73]?).getD undef = .pointer (some ⟨w.heap.size, 1, none⟩) := (ha 73 (by decide)).trans h73; clear h73 ha hp
            refine Reg.Op1.plain rfl ?_
            have y1 := (Mem.Bx.below (w := w2.drew) HX2.out hR HX2.out.lt).cell (j := 1) rfl
            rw [HHS.out] at y1
            go_wp2
            exact ⟨rfl, hK _ _ rfl (fun j k _ _ => Reg.Adds.refl _ _ _)⟩
          · intro val ac u hR hp ha K hK
            obtain ⟨w74, h74, r74⟩ := hp 1 (by decide); have e74 : (ac.tmps[74]?).getD undef = .bool true := (ha 74 (by decide)).trans h74; clear h74 ha hp
            refine Reg.Op1.plain rfl ?_
            go_wp2
            exact ⟨rfl, hK _ _ rfl (fun j k _ _ => Reg.Adds.refl _ _ _)⟩
          · intro val ac u hR hp ha K hK
            have e11 : (ac.tmps[11]?).getD undef = .pointer (some ⟨w.heap.size + 1, 0, none⟩) := ha 11 (by decide); obtain ⟨w75, h75, r75⟩ := hp 2 (by decide); have e75 : (ac.tmps[75]?).getD undef = .bool true := (ha 75 (by decide)).trans h75; clear h75 ha hp
            refine Reg.Op1.guarded rfl rfl e75 (fun _ => Reg.Op1.plain rfl ?_) (fun h => absurd rfl h)
            go_wp2
            exact ⟨rfl, hK _ _ rfl (fun j k _ _ => Reg.Adds.refl _ _ _)⟩
          · intro val ac u hR hp ha K hK
            obtain ⟨w76, h76, r76⟩ := hp 3 (by decide); have e76 : (ac.tmps[76]?).getD undef = .pointer (some ⟨w.heap.size + 1, 11, none⟩) := (ha 76 (by decide)).trans h76; obtain ⟨w75, h75, r75⟩ := hp 2 (by decide); have e75 : (ac.tmps[75]?).getD undef = .bool true := (ha 75 (by decide)).trans h75; clear h76 h75 ha hp
            refine Reg.Op1.guarded rfl rfl e75 (fun _ => Reg.Op1.plain rfl ?_) (fun h => absurd rfl h)
            have hE := Mem.Bx.below (w := w2.drew) HE2.out hR HE2.out.lt
            refine Mem.load_aggG _ _ vec_agg (w.heap.size + 1) 11 (vcCells e'.cut) (by simp [Region.wanted]) (Reg.eval_of e76) (vcCells_length _) (VBx.cut hE) ?_
            exact ⟨rfl, hK _ _ rfl (fun j k _ _ => Reg.Adds.refl _ _ _)⟩
          · intro val ac u hR hp ha K hK
            have e13 : (ac.tmps[13]?).getD undef = .slice none 0 0 := ha 13 (by decide); obtain ⟨w75, h75, r75⟩ := hp 2 (by decide); have e75 : (ac.tmps[75]?).getD undef = .bool true := (ha 75 (by decide)).trans h75; clear h75 ha hp
            refine Reg.Op1.guarded rfl rfl e75 (fun _ => Reg.Op1.plain rfl ?_) (fun h => absurd rfl h)
            go_wp2
            exact ⟨rfl, hK _ _ rfl (fun j k _ _ => Reg.Adds.refl _ _ _)⟩
          · intro val ac u hR hp ha K hK
            have e8 : (ac.tmps[8]?).getD undef = .pointer (some ⟨w.heap.size, 0, none⟩) := ha 8 (by decide); obtain ⟨w75, h75, r75⟩ := hp 2 (by decide); have e75 : (ac.tmps[75]?).getD undef = .bool true := (ha 75 (by decide)).trans h75; clear h75 ha hp
            refine Reg.Op1.guarded rfl rfl e75 (fun _ => Reg.Op1.plain rfl ?_) (fun h => absurd rfl h)
            go_wp2
            exact ⟨rfl, hK _ _ rfl (fun j k _ _ => Reg.Adds.refl _ _ _)⟩
          · intro val ac u hR hp ha K hK
            obtain ⟨w79, h79, r79⟩ := hp 6 (by decide); have e79 : (ac.tmps[79]?).getD undef = .pointer (some ⟨w.heap.size, 2, none⟩) := (ha 79 (by decide)).trans h79; obtain ⟨w75, h75, r75⟩ := hp 2 (by decide); have e75 : (ac.tmps[75]?).getD undef = .bool true := (ha 75 (by decide)).trans h75; clear h79 h75 ha hp
            refine Reg.Op1.guarded rfl rfl e75 (fun _ => Reg.Op1.plain rfl ?_) (fun h => absurd rfl h)
            have hX := Mem.Bx.below (w := w2.drew) HX2.out hR HX2.out.lt
            refine Mem.load_aggG _ _ entry_agg w.heap.size 2 (entCells r.e) (by simp [Region.wanted]) (Reg.eval_of e79) (entCells_length _) (RBx.ent hX) ?_
            exact ⟨rfl, hK _ _ rfl (fun j k _ _ => Reg.Adds.refl _ _ _)⟩
          · intro val ac u hR hp ha K hK
            obtain ⟨w80, h80, r80⟩ := hp 7 (by decide); have e80 : (ac.tmps[80]?).getD undef = .agg (entCells r.e).toArray := (ha 80 (by decide)).trans h80; obtain ⟨w75, h75, r75⟩ := hp 2 (by decide); have e75 : (ac.tmps[75]?).getD undef = .bool true := (ha 75 (by decide)).trans h75; clear h80 h75 ha hp
            refine Reg.Op1.guarded rfl rfl e75 (fun _ => Reg.Op1.plain rfl ?_) (fun h => absurd rfl h)
            refine Mem.build1_aggG _ _ 20 _ Try.underlying23 entry_zero (by decide) (by decide) (entCells r.e) (by simp [Region.wanted]) (Reg.eval_of e80) (entCells_length _) ?_
            exact ⟨rfl, hK _ _ ⟨u.heap.size, rfl, Mem.Rd.alloc_new u _ _ _ rfl, Nat.le_of_eq (Array.size_push _).symm⟩ (fun j k _ _ => Reg.below_new _ _)⟩
          · intro val ac u hR hp ha K hK
            obtain ⟨w78, h78, r78⟩ := hp 5 (by decide); have e78 : (ac.tmps[78]?).getD undef = .slice none 0 0 := (ha 78 (by decide)).trans h78; obtain ⟨w81, h81, r81⟩ := hp 8 (by decide); have e81 : (ac.tmps[81]?).getD undef = val 8 := ha 81 (by decide); obtain ⟨w75, h75, r75⟩ := hp 2 (by decide); have e75 : (ac.tmps[75]?).getD undef = .bool true := (ha 75 (by decide)).trans h75; clear h78 h75 ha hp
            refine Reg.Op1.guarded rfl rfl e75 (fun _ => Reg.Op1.plain rfl ?_) (fun h => absurd rfl h)
            obtain ⟨s0, hv, hrd, hs0⟩ := h81
            rw [hv] at e81
            have hrd' := hrd.below (r81.mono hs0)
            refine Mem.wpList_app0 u (by simp [Region.wanted]) (.tmp 78) (.tmp 81) _ rfl entries_elem none (Reg.eval_of e78) (s0 + 1) (some ⟨s0, 0, none⟩) 1 1 (entCells r.e) (Reg.eval_of e81) ?_ (Mem.Own.nil _ _ _) hrd' rfl (ent_one _) (by simp [maxLen]) (by omega)
            intro A' c' w' hown hbl hat
            exact ⟨rfl, hK _ _ ⟨A', c', rfl, hown⟩ (fun j k _ _ => hbl)⟩
          · intro val ac u hR hp ha K hK
            obtain ⟨w82, h82, r82⟩ := hp 9 (by decide); have e82 : (ac.tmps[82]?).getD undef = val 9 := ha 82 (by decide); obtain ⟨w75, h75, r75⟩ := hp 2 (by decide); have e75 : (ac.tmps[75]?).getD undef = .bool true := (ha 75 (by decide)).trans h75; clear h75 ha hp
            refine Reg.Op1.guarded rfl rfl e75 (fun _ => Reg.Op1.plain rfl ?_) (fun h => absurd rfl h)
            obtain ⟨A1, c1, hv, ho⟩ := h82
            rw [hv] at e82
            have ho' := ho.below r82 (fun q hq => ho.lt hq)
            have hp := refPast_any A1 c1 [r.e] u (by rw [List.flatMap_cons, List.flatMap_nil, List.append_nil]; exact ho'.rd) (by show (1 : Nat) ≤ _; decide)
            rw [Vec.refPast_one] at hp
            go_wp2_with fail
            refine hp.mono ?_
            rintro x w' ⟨rfl, hbw⟩
            go_wp2_with fail
            exact ⟨rfl, hK _ _ rfl (fun j k _ _ => hbw)⟩
          · intro val ac u hR hp ha K hK
            obtain ⟨w77, h77, r77⟩ := hp 4 (by decide); have e77 : (ac.tmps[77]?).getD undef = .agg (vcCells e'.cut).toArray := (ha 77 (by decide)).trans h77; obtain ⟨w83, h83, r83⟩ := hp 10 (by decide); have e83 : (ac.tmps[83]?).getD undef = .agg (vcCells (Vec.pastL [r.e])).toArray := (ha 83 (by decide)).trans h83; obtain ⟨w75, h75, r75⟩ := hp 2 (by decide); have e75 : (ac.tmps[75]?).getD undef = .bool true := (ha 75 (by decide)).trans h75; clear h77 h83 h75 ha hp
            refine Reg.Op1.guarded rfl rfl e75 (fun _ => Reg.Op1.plain rfl ?_) (fun h => absurd rfl h)
            go_wp2_with fail
            refine (refCovers_any e'.cut (Vec.pastL [r.e]) u).mono ?_
            rintro x w' ⟨rfl, hbw⟩
            rw [HCV.out]
            go_wp2_with fail
            exact ⟨rfl, hK _ _ rfl (fun j k _ _ => hbw)⟩
          · intro val ac u hR hp ha K hK
            obtain ⟨w84, h84, r84⟩ := hp 11 (by decide); have e84 : (ac.tmps[84]?).getD undef = .bool false := (ha 84 (by decide)).trans h84; obtain ⟨w75, h75, r75⟩ := hp 2 (by decide); have e75 : (ac.tmps[75]?).getD undef = .bool true := (ha 75 (by decide)).trans h75; clear h84 h75 ha hp
            refine Reg.Op1.guarded rfl rfl e75 (fun _ => Reg.Op1.plain rfl ?_) (fun h => absurd rfl h)
            go_wp2
            exact ⟨rfl, hK _ _ rfl (fun j k _ _ => Reg.Adds.refl _ _ _)⟩
          · intro val ac u hR hp ha K hK
            obtain ⟨w75, h75, r75⟩ := hp 2 (by decide); have e75 : (ac.tmps[75]?).getD undef = .bool true := (ha 75 (by decide)).trans h75; obtain ⟨w85, h85, r85⟩ := hp 12 (by decide); have e85 : (ac.tmps[85]?).getD undef = .bool true := (ha 85 (by decide)).trans h85; clear h75 h85 ha hp
            refine Reg.Op1.plain rfl ?_
            go_wp2
            exact ⟨rfl, hK _ _ rfl (fun j k _ _ => Reg.Adds.refl _ _ _)⟩
          · intro val ac u hR hp ha K hK
            obtain ⟨w86, h86, r86⟩ := hp 13 (by decide); have e86 : (ac.tmps[86]?).getD undef = .bool true := (ha 86 (by decide)).trans h86; clear h86 ha hp
            refine Reg.Op1.plain rfl ?_
            go_wp2
            exact ⟨rfl, hK _ _ rfl (fun j k _ _ => Reg.Adds.refl _ _ _)⟩
        · intro val u hR H
          obtain ⟨_, hv, _⟩ := H 14 (by decide)
          have hv : val 14 = .bool true := hv
          have HKu : Hid (Below w2.heap.size w2 u) := (Below.refl _ w2).drew.trans hR
          simp only [List.map_cons, List.map_nil, Reg.lay, Act.put, List.setIfInBounds_toArray, List.set_cons_succ, List.set_cons_zero, Nat.reduceAdd, hv]
          clear hR H hv
          go_wp2
          go_ret
          exact ⟨rfl, HB2.out.trans (HKu.out.mono HB2.out.size)⟩
      · obtain rfl : z = false := by rw [← HZ1.out, hh]; unfold pastP; rw [hcv]; rfl
        have HHS := Lib.hid hh
        have HCV := Lib.hid hcv
        clear hh hcv HZ1
        refine Reg.wp_region_rel (by kernel_rfl) 106 15 rfl rfl (by kernel_rfl) (Reg.Adds) (Reg.Adds.refl) (Reg.Adds.trans)
          (fun i v u => match i with
            | 0 => v = .pointer (some ⟨w.heap.size, 1, none⟩)
            | 1 => v = .bool true
            | 2 => v = .bool true
            | 3 => v = .pointer (some ⟨w.heap.size + 1, 11, none⟩)
            | 4 => v = .agg (vcCells e'.cut).toArray
            | 5 => v = .slice none 0 0
            | 6 => v = .pointer (some ⟨w.heap.size, 2, none⟩)
            | 7 => v = .agg (entCells r.e).toArray
            | 8 => ∃ s0, v = .slice (some ⟨s0, 0, none⟩) 1 1 ∧ Mem.Rd u (s0 + 1) (some ⟨s0, 0, none⟩) (entCells r.e) ∧ s0 + 1 ≤ u.heap.size
            | 9 => ∃ A1 c1, v = .slice A1 1 c1 ∧ Mem.Own u 35 20 A1 1 c1 (entCells r.e)
            | 10 => v = .agg (vcCells (Vec.pastL [r.e])).toArray
            | 11 => v = .bool true
            | 12 => v = .bool false
            | 13 => v = .bool false
            | 14 => v = .bool false
            | _ => True) ?_ ?_
        · refine Reg.Steps.cons ?_ (Reg.Steps.cons ?_ (Reg.Steps.cons ?_ (Reg.Steps.cons ?_ (Reg.Steps.cons ?_ (Reg.Steps.cons ?_ (Reg.Steps.cons ?_ (Reg.Steps.cons ?_ (Reg.Steps.cons ?_ (Reg.Steps.cons ?_ (Reg.Steps.cons ?_ (Reg.Steps.cons ?_ (Reg.Steps.cons ?_ (Reg.Steps.cons ?_ (Reg.Steps.cons ?_ (Reg.Steps.nil _)))))))))))))))
          · intro val ac u hR hp ha K hK
            have e8 : (ac.tmps[8]?).getD undef = .pointer (some ⟨w.heap.size, 0, none⟩) := ha 8 (by decide); clear ha hp
            refine Reg.Op1.plain rfl ?_
            go_wp2
            exact ⟨rfl, hK _ _ rfl (fun j k _ _ => Reg.Adds.refl _ _ _)⟩
          · intro val ac u hR hp ha K hK
            obtain ⟨w73, h73, r73⟩ := hp 0 (by decide); have e73 : (ac.tmps[73]?).getD undef = .pointer (some ⟨w.heap.size, 1, none⟩) := (ha 73 (by decide)).trans h73; clear h73 ha hp
            refine Reg.Op1.plain rfl ?_
            have y1 := (Mem.Bx.below (w := w2.drew) HX2.out hR HX2.out.lt).cell (j := 1) rfl
            rw [HHS.out] at y1
            go_wp2
            exact ⟨rfl, hK _ _ rfl (fun j k _ _ => Reg.Adds.refl _ _ _)⟩
          · intro val ac u hR hp ha K hK
            obtain ⟨w74, h74, r74⟩ := hp 1 (by decide); have e74 : (ac.tmps[74]?).getD undef = .bool true := (ha 74 (by decide)).trans h74; clear h74 ha hp
            refine Reg.Op1.plain rfl ?_
            go_wp2
            exact ⟨rfl, hK _ _ rfl (fun j k _ _ => Reg.Adds.refl _ _ _)⟩
          · intro val ac u hR hp ha K hK
            have e11 : (ac.tmps[11]?).getD undef = .pointer (some ⟨w.heap.size + 1, 0, none⟩) := ha 11 (by decide); obtain ⟨w75, h75, r75⟩ := hp 2 (by decide); have e75 : (ac.tmps[75]?).getD undef = .bool true := (ha 75 (by decide)).trans h75; clear h75 ha hp
            refine Reg.Op1.guarded rfl rfl e75 (fun _ => Reg.Op1.plain rfl ?_) (fun h => absurd rfl h)
            go_wp2
            exact ⟨rfl, hK _ _ rfl (fun j k _ _ => Reg.Adds.refl _ _ _)⟩
          · intro val ac u hR hp ha K hK
            obtain ⟨w76, h76, r76⟩ := hp 3 (by decide); have e76 : (ac.tmps[76]?).getD undef = .pointer (some ⟨w.heap.size + 1, 11, none⟩) := (ha 76 (by decide)).trans h76; obtain ⟨w75, h75, r75⟩ := hp 2 (by decide); have e75 : (ac.tmps[75]?).getD undef = .bool true := (ha 75 (by decide)).trans h75; clear h76 h75 ha hp
            refine Reg.Op1.guarded rfl rfl e75 (fun _ => Reg.Op1.plain rfl ?_) (fun h => absurd rfl h)
            have hE := Mem.Bx.below (w := w2.drew) HE2.out hR HE2.out.lt
            refine Mem.load_aggG _ _ vec_agg (w.heap.size + 1) 11 (vcCells e'.cut) (by simp [Region.wanted]) (Reg.eval_of e76) (vcCells_length _) (VBx.cut hE) ?_
            exact ⟨rfl, hK _ _ rfl (fun j k _ _ => Reg.Adds.refl _ _ _)⟩
          · intro val ac u hR hp ha K hK
            have e13 : (ac.tmps[13]?).getD undef = .slice none 0 0 := ha 13 (by decide); obtain ⟨w75, h75, r75⟩ := hp 2 (by decide); have e75 : (ac.tmps[75]?).getD undef = .bool true := (ha 75 (by decide)).trans h75; clear h75 ha hp
            refine Reg.Op1.guarded rfl rfl e75 (fun _ => Reg.Op1.plain rfl ?_) (fun h => absurd rfl h)
            go_wp2
            exact ⟨rfl, hK _ _ rfl (fun j k _ _ => Reg.Adds.refl _ _ _)⟩
          · intro val ac u hR hp ha K hK
            have e8 : (ac.tmps[8]?).getD undef = .pointer (some ⟨w.heap.size, 0, none⟩) := ha 8 (by decide); obtain ⟨w75, h75, r75⟩ := hp 2 (by decide); have e75 : (ac.tmps[75]?).getD undef = .bool true := (ha 75 (by decide)).trans h75; clear h75 ha hp
            refine Reg.Op1.guarded rfl rfl e75 (fun _ => Reg.Op1.plain rfl ?_) (fun h => absurd rfl h)
            go_wp2
            exact ⟨rfl, hK _ _ rfl (fun j k _ _ => Reg.Adds.refl _ _ _)⟩
          · intro val ac u hR hp ha K hK
            obtain ⟨w79, h79, r79⟩ := hp 6 (by decide); have e79 : (ac.tmps[79]?).getD undef = .pointer (some ⟨w.heap.size, 2, none⟩) := (ha 79 (by decide)).trans h79; obtain ⟨w75, h75, r75⟩ := hp 2 (by decide); have e75 : (ac.tmps[75]?).getD undef = .bool true := (ha 75 (by decide)).trans h75; clear h79 h75 ha hp
            refine Reg.Op1.guarded rfl rfl e75 (fun _ => Reg.Op1.plain rfl ?_) (fun h => absurd rfl h)
            have hX := Mem.Bx.below (w := w2.drew) HX2.out hR HX2.out.lt
            refine Mem.load_aggG _ _ entry_agg w.heap.size 2 (entCells r.e) (by simp [Region.wanted]) (Reg.eval_of e79) (entCells_length _) (RBx.ent hX) ?_
            exact ⟨rfl, hK _ _ rfl (fun j k _ _ => Reg.Adds.refl _ _ _)⟩
          · intro val ac u hR hp ha K hK
            obtain ⟨w80, h80, r80⟩ := hp 7 (by decide); have e80 : (ac.tmps[80]?).getD undef = .agg (entCells r.e).toArray := (ha 80 (by decide)).trans h80; obtain ⟨w75, h75, r75⟩ := hp 2 (by decide); have e75 : (ac.tmps[75]?).getD undef = .bool true := (ha 75 (by decide)).trans h75; clear h80 h75 ha hp
            refine Reg.Op1.guarded rfl rfl e75 (fun _ => Reg.Op1.plain rfl ?_) (fun h => absurd rfl h)
            refine Mem.build1_aggG _ _ 20 _ Try.underlying23 entry_zero (by decide) (by decide) (entCells r.e) (by simp [Region.wanted]) (Reg.eval_of e80) (entCells_length _) ?_
            exact ⟨rfl, hK _ _ ⟨u.heap.size, rfl, Mem.Rd.alloc_new u _ _ _ rfl, Nat.le_of_eq (Array.size_push _).symm⟩ (fun j k _ _ => Reg.below_new _ _)⟩
          · intro val ac u hR hp ha K hK
            obtain ⟨w78, h78, r78⟩ := hp 5 (by decide); have e78 : (ac.tmps[78]?).getD undef = .slice none 0 0 := (ha 78 (by decide)).trans h78; obtain ⟨w81, h81, r81⟩ := hp 8 (by decide); have e81 : (ac.tmps[81]?).getD undef = val 8 := ha 81 (by decide); obtain ⟨w75, h75, r75⟩ := hp 2 (by decide); have e75 : (ac.tmps[75]?).getD undef = .bool true := (ha 75 (by decide)).trans h75; clear h78 h75 ha hp
            refine Reg.Op1.guarded rfl rfl e75 (fun _ => Reg.Op1.plain rfl ?_) (fun h => absurd rfl h)
            obtain ⟨s0, hv, hrd, hs0⟩ := h81
            rw [hv] at e81
            have hrd' := hrd.below (r81.mono hs0)
            refine Mem.wpList_app0 u (by simp [Region.wanted]) (.tmp 78) (.tmp 81) _ rfl entries_elem none (Reg.eval_of e78) (s0 + 1) (some ⟨s0, 0, none⟩) 1 1 (entCells r.e) (Reg.eval_of e81) ?_ (Mem.Own.nil _ _ _) hrd' rfl (ent_one _) (by simp [maxLen]) (by omega)
            intro A' c' w' hown hbl hat
            exact ⟨rfl, hK _ _ ⟨A', c', rfl, hown⟩ (fun j k _ _ => hbl)⟩
          · intro val ac u hR hp ha K hK
            obtain ⟨w82, h82, r82⟩ := hp 9 (by decide); have e82 : (ac.tmps[82]?).getD undef = val 9 := ha 82 (by decide); obtain ⟨w75, h75, r75⟩ := hp 2 (by decide); have e75 : (ac.tmps[75]?).getD undef = .bool true := (ha 75 (by decide)).trans h75; clear h75 ha hp
            refine Reg.Op1.guarded rfl rfl e75 (fun _ => Reg.Op1.plain rfl ?_) (fun h => absurd rfl h)
            obtain ⟨A1, c1, hv, ho⟩ := h82
            rw [hv] at e82
            have ho' := ho.below r82 (fun q hq => ho.lt hq)
            have hp := refPast_any A1 c1 [r.e] u (by rw [List.flatMap_cons, List.flatMap_nil, List.append_nil]; exact ho'.rd) (by show (1 : Nat) ≤ _; decide)
            rw [Vec.refPast_one] at hp
            go_wp2_with fail
            refine hp.mono ?_
            rintro x w' ⟨rfl, hbw⟩
            go_wp2_with fail
            exact ⟨rfl, hK _ _ rfl (fun j k _ _ => hbw)⟩
          · intro val ac u hR hp ha K hK
            obtain ⟨w77, h77, r77⟩ := hp 4 (by decide); have e77 : (ac.tmps[77]?).getD undef = .agg (vcCells e'.cut).toArray := (ha 77 (by decide)).trans h77; obtain ⟨w83, h83, r83⟩ := hp 10 (by decide); have e83 : (ac.tmps[83]?).getD undef = .agg (vcCells (Vec.pastL [r.e])).toArray := (ha 83 (by decide)).trans h83; obtain ⟨w75, h75, r75⟩ := hp 2 (by decide); have e75 : (ac.tmps[75]?).getD undef = .bool true := (ha 75 (by decide)).trans h75; clear h77 h83 h75 ha hp
            refine Reg.Op1.guarded rfl rfl e75 (fun _ => Reg.Op1.plain rfl ?_) (fun h => absurd rfl h)
            go_wp2_with fail
            refine (refCovers_any e'.cut (Vec.pastL [r.e]) u).mono ?_
            rintro x w' ⟨rfl, hbw⟩
            rw [HCV.out]
            go_wp2_with fail
            exact ⟨rfl, hK _ _ rfl (fun j k _ _ => hbw)⟩
          · intro val ac u hR hp ha K hK
            obtain ⟨w84, h84, r84⟩ := hp 11 (by decide); have e84 : (ac.tmps[84]?).getD undef = .bool true := (ha 84 (by decide)).trans h84; obtain ⟨w75, h75, r75⟩ := hp 2 (by decide); have e75 : (ac.tmps[75]?).getD undef = .bool true := (ha 75 (by decide)).trans h75; clear h84 h75 ha hp
            refine Reg.Op1.guarded rfl rfl e75 (fun _ => Reg.Op1.plain rfl ?_) (fun h => absurd rfl h)
            go_wp2
            exact ⟨rfl, hK _ _ rfl (fun j k _ _ => Reg.Adds.refl _ _ _)⟩
          · intro val ac u hR hp ha K hK
            obtain ⟨w75, h75, r75⟩ := hp 2 (by decide); have e75 : (ac.tmps[75]?).getD undef = .bool true := (ha 75 (by decide)).trans h75; obtain ⟨w85, h85, r85⟩ := hp 12 (by decide); have e85 : (ac.tmps[85]?).getD undef = .bool false := (ha 85 (by decide)).trans h85; clear h75 h85 ha hp
            refine Reg.Op1.plain rfl ?_
            go_wp2
            exact ⟨rfl, hK _ _ rfl (fun j k _ _ => Reg.Adds.refl _ _ _)⟩
          · intro val ac u hR hp ha K hK
            obtain ⟨w86, h86, r86⟩ := hp 13 (by decide); have e86 : (ac.tmps[86]?).getD undef = .bool false := (ha 86 (by decide)).trans h86; clear h86 ha hp
            refine Reg.Op1.plain rfl ?_
            go_wp2
            exact ⟨rfl, hK _ _ rfl (fun j k _ _ => Reg.Adds.refl _ _ _)⟩
        · intro val u hR H
          obtain ⟨_, hv, _⟩ := H 14 (by decide)
          have hv : val 14 = .bool false := hv
          have HKu : Hid (Below w2.heap.size w2 u) := (Below.refl _ w2).drew.trans hR
          simp only [List.map_cons, List.map_nil, Reg.lay, Act.put, List.setIfInBounds_toArray, List.set_cons_succ, List.set_cons_zero, Nat.reduceAdd, hv]
          clear hR H hv
          go_wp2
          go_ret
          exact ⟨rfl, HB2.out.trans (HKu.out.mono HB2.out.size)⟩
  have n7 : (rule == 7) = false := by simpa using r7
  have HZ1 : Hid (seesF (kOf h ws) e' r = z) := by show _ = _; rw [← HZ.out]; unfold dW; rw [if_neg r4, if_neg r5, if_neg r7]
  clear HZ r4 r5 r7
  obtain ⟨⟨m, fd⟩, hmf⟩ : ∃ mf, Vec.visible r.key e'.cut ws = mf := ⟨_, rfl⟩
  have hvs := refVisible_any r.key e'.cut A2 c2 ws B w2 HD2.out.W HD2.out.le HD2.out.wn
  rw [hmf] at hvs
  have HVS := Lib.hid hvs
  have HZ2 : Hid ((fd != r.has || !Vec.eqEnt m r.e) = z) := by
    show _ = _
    rw [← HZ1.out]
    unfold seesF
    show _ = ((Vec.visible r.key e'.cut ws).2 != r.has || !Vec.eqEnt (Vec.visible r.key e'.cut ws).1 r.e)
    rw [hmf]
  have y0 : w2.cell? ⟨w.heap.size, 0, none⟩ = some (.string r.key) := HX2.out.cell (j := 0) rfl
  have HCT : Hid (∀ j u, (vcCells e'.cut)[j]? = some u → w2.cell? ⟨w.heap.size + 1, 11 + j, none⟩ = some u) := VBx.cut HE2.out
  have ho := ent_one m
  clear hmf hvs HZ1
  go_upto_region 12 with (first
    | ((with_reducible refine Mem.load_agg _ _ vec_agg (w.heap.size + 1) 11 (vcCells e'.cut) ?hx (vcCells_length _) HCT.out ?_); case hx => exact rfl)
    | (go_at_call 16; (refine HVS.out.mono ?_); rintro x w5 ⟨rfl, hB5⟩; have HBR := Lib.hid hB5; clear hB5)
    | ((with_reducible refine Mem.store_agg _ _ entry_agg w5.heap.size (entCells ent0) (entCells m) ?hxj ?hyj ?hbj (entCells_length _) ho ?_); ((case hxj => exact rfl); (case hyj => exact rfl); (case hbj => exact Mem.Bx.new w5 _ (entCells ent0).toArray rfl rfl)); intro w6 hb6 hk6 hs6))
  have hb26 : Below w2.heap.size w2 w6 := HBR.out.trans ((hk6.newBox rfl).belowAll.mono HBR.out.size)
  have HG6 : Hid (∀ j u, (entCells m)[j]? = some u → w6.cell? ⟨w5.heap.size, 0 + j, none⟩ = some u) := fun j u hu => by rw [Nat.zero_add]; exact hb6.cell hu
  have HX6 := Lib.hid (HX2.out.below hb26 HX2.out.lt)
  have HR6 : Hid (∀ j u, (entCells r.e)[j]? = some u → w6.cell? ⟨w.heap.size, 2 + j, none⟩ = some u) := RBx.ent HX6.out
  have HB6 : Hid (Below w.heap.size w w6) := HB2.out.trans (hb26.mono HB2.out.size)
  have y1 : w6.cell? ⟨w.heap.size, 1, none⟩ = some (.bool r.has) := HX6.out.cell (j := 1) rfl
  obtain ⟨q, hq⟩ : ∃ q, Vec.eqEnt m r.e = q := ⟨_, rfl⟩
  have HQ : Hid (∀ W, (binOp .neq 35 (.agg (entCells m).toArray) (.agg (entCells r.e).toArray)).run Try.prog W = .ok (.bool (!q)) W) := fun W => by rw [neq_ent, hq]
  rw [hq] at HZ2
  obtain ⟨g5, hg5⟩ : ∃ z, w5.heap.size = z := ⟨_, rfl⟩
  rw [hg5] at HG6
  try rw [hg5]
  clear hb6 hk6 hs6 hb26 hq hg5 HX6 HBR HVS HCT y0 HX2 HE2 HB2 HD2 ho
  have hqq := HQ.out
  cases q
  · obtain rfl : z = true := by rw [← HZ2.out]; simp
    go_wp2_with (first
      | ((with_reducible refine Mem.load_agg _ _ entry_agg g5 0 (entCells m) ?hx (entCells_length _) HG6.out ?_); case hx => exact rfl)
      | ((with_reducible refine Mem.load_agg _ _ entry_agg w.heap.size 2 (entCells r.e) ?hy (entCells_length _) HR6.out ?_); case hy => exact rfl))
    go_ret
    exact ⟨rfl, HB6.out⟩
  · cases hfd : (fd != r.has)
    · obtain rfl : z = false := by rw [← HZ2.out, hfd]; rfl
      have hfb : (fd == r.has) = true := by simpa [bne] using hfd
      clear hfd
      clear HZ2
      go_wp2_with (first
        | ((with_reducible refine Mem.load_agg _ _ entry_agg g5 0 (entCells m) ?hx (entCells_length _) HG6.out ?_); case hx => exact rfl)
        | ((with_reducible refine Mem.load_agg _ _ entry_agg w.heap.size 2 (entCells r.e) ?hy (entCells_length _) HR6.out ?_); case hy => exact rfl))
      go_ret
      exact ⟨rfl, HB6.out⟩
    · obtain rfl : z = true := by rw [← HZ2.out, hfd]; rfl
      have hfb : (fd == r.has) = false := by simpa [bne] using hfd
      clear HZ2 hfd
      go_wp2_with (first
        | ((with_reducible refine Mem.load_agg _ _ entry_agg g5 0 (entCells m) ?hx (entCells_length _) HG6.out ?_); case hx => exact rfl)
        | ((with_reducible refine Mem.load_agg _ _ entry_agg w.heap.size 2 (entCells r.e) ?hy (entCells_length _) HR6.out ?_); case hy => exact rfl))
      go_ret
      exact ⟨rfl, HB6.out⟩
end Go.Proofs.Ytelephoalpphkaa
end
