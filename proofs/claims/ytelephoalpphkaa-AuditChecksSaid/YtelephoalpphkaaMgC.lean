/- Several texts of this proof in one file, in the order in which they build: AudR5, AudR6, AudR7, AuditChecksP. No conditions but those that each theorem names. -/
import Derived.Test.YtelephoalpphkaaMgB
import Derived.Test.YtelephoalpphkaaMgZ
import Derived.WalkKit
import Derived.ProofKit
import Derived.OpenShut
import Derived.ShutString
import Derived.ChangeOld
import Derived.Below
import Derived.SizedLaws
section
/- The document's broken. No conditions but that lists are few. -/
set_option maxRecDepth 8000
namespace Go.Proofs.Ytelephoalpphkaa
open Go.ChangeShapes Go.WideShapes Go.ChangeAt Go.RowKit
set_option linter.unusedVariables false
set_option linter.unusedSimpArgs false
namespace Au
structure BrRel (w : World) (h : List Ev) (e : Ev) (a : Nat) (vi : Value) (wr : World) : Prop where
  out : ∃ k : Nat, k ≤ a ∧ vi = .int .i64 k ∧ Hid ((h.take k).any (dupF e.cl e.op) = false) ∧ Hid (VBx wr w.heap.size e) ∧ Hid (Below w.heap.size w wr)
structure BwRel (w : World) (e : Ev) (p : Rs → Bool) (vi : Value) (wr : World) : Prop where
  out : ∃ k : Nat, k ≤ e.res.length ∧ vi = .int .i64 k ∧ Hid ((e.res.take k).any p = false) ∧ Hid (VBx wr w.heap.size e) ∧ Hid (Below w.heap.size w wr)
theorem rany_snoc {l : List Rs} {k : Nat} {r : Rs} (he : l[k]? = some r) (p : Rs → Bool) : (l.take (k + 1)).any p = ((l.take k).any p || p r) := by
  rw [Mem.take_snoc he, List.any_append]
  simp
theorem rany_yes {l : List Rs} {k : Nat} {r : Rs} (he : l[k]? = some r) {p : Rs → Bool} (hp : p r = true) : l.any p = true := List.any_eq_true.2 ⟨r, List.mem_of_getElem? he, hp⟩
end Au
open Au in
open Vec (vcCells vcCells_length) in
set_option maxHeartbeats 8000000 in
theorem broken_any {w : World} {B : Nat} {A : Option Addr} {c : Nat} {h : List Au.Ev} {A2 : Option Addr} {c2 : Nat} {ws : List Vec.Ent} (d : Au.Dx w B A h A2 ws) (a : Nat) (ha : a < h.length) (e : Au.Ev) (he : h[a]? = some e) (rule : Int) :
    Calls Try.prog 23 #[.slice A h.length c, .int .i64 a, .int .i64 rule, .slice A2 ws.length c2] w fun x w' => x = .returned (.bool (Au.brk h ws a e rule)) ∧ Below w.heap.size w w' := by
  have hn6 : a ≤ 1000000 := Nat.le_trans (Nat.le_of_lt ha) d.n
  have HD := Lib.hid d
  have HHE := Lib.hid he
  have HHA := Lib.hid ha
  clear d he ha
  obtain ⟨z, hz⟩ : ∃ z, brk h ws a e rule = z := ⟨_, rfl⟩
  rw [hz]
  have HZ := Lib.hid hz
  clear hz
  go_enter Try.func23, Try.ntmps23
  obtain ⟨b, o, e', rfl, hb, he', hat⟩ := ev_elem HD.out.H HHA.out
  obtain rfl : e' = e := Option.some.inj (he'.symm.trans HHE.out)
  have HAT := Lib.hid hat.c
  clear hat he'
  go_upto_region 2 with (first
    | ((with_reducible refine Mem.load_agg _ _ event_agg b (o + a * 20) (evCells e') ?hx (evCells_length _) HAT.out ?_); case hx => exact rfl)
    | ((with_reducible refine Mem.store_agg _ _ event_agg w.heap.size (evCells ev0) (evCells e') ?hxj ?hyj ?hbj (evCells_length _) (ev_one _) ?_); ((case hxj => exact rfl); (case hyj => exact rfl); (case hbj => exact Mem.Bx.new w _ (evCells ev0).toArray rfl rfl)); intro w2 hb2 hk2 hs2))
  have HE2 : Hid (VBx w2 w.heap.size e') := hb2
  have HB2 : Hid (Below w.heap.size w w2) := (hk2.newBox rfl).belowAll
  have HD2 := Lib.hid (HD.out.below (HB2.out.mono HD.out.le))
  have HEB := Lib.hid (VBx.at HE2.out)
  clear hb2 hk2 hs2 HAT
  by_cases r1 : rule = 1
  · subst r1
    have hbg0 := beginning_any e' w2
    cases hbg : beg e'
    · obtain rfl : z = false := by rw [← HZ.out]; unfold brk; rw [if_pos rfl, hbg, Bool.false_and]
      rw [hbg] at hbg0
      have HBG := Lib.hid hbg0
      clear hbg0 hbg
      go_wp2_with (first
        | ((with_reducible refine Mem.load_agg _ _ event_agg w.heap.size 0 (evCells e') ?hx (evCells_length _) HEB.out ?_); case hx => exact rfl)
        | (go_at_call 35; (refine HBG.out.mono ?_); rintro x w3 ⟨rfl, hb3⟩; have HB3 := Lib.hid (HB2.out.trans (hb3.mono HB2.out.size)); clear hb3))
      go_ret
      exact ⟨rfl, HB3.out⟩
    · have HZ1 : Hid (((h.take a).any (dupF e'.cl e'.op) || decide (0 ≤ und h e'.cl a)) = z) := by show _ = _; rw [← HZ.out]; unfold brk; rw [if_pos rfl, hbg, Bool.true_and]; rfl
      rw [hbg] at hbg0
      have HBG0 := Lib.hid hbg0
      clear hbg0 hbg HZ
      go_upto_region 5 with (first
        | ((with_reducible refine Mem.load_agg _ _ event_agg w.heap.size 0 (evCells e') ?hx (evCells_length _) HEB.out ?_); case hx => exact rfl)
        | (go_at_call 35; (refine HBG0.out.mono ?_); rintro x w3 ⟨rfl, hb3⟩; have HB3 := Lib.hid (HB2.out.trans (hb3.mono HB2.out.size)); have HE3 : Hid (VBx w3 w.heap.size e') := HE2.out.below hb3 HE2.out.lt; clear hb3))
      clear HE2 HB2 HD2 HEB HBG0
      go_wp2
      go_loopw [10] (BrRel w h e' a) (fun t _ => a - (intOf t).toNat)
      case atStart => exact ⟨⟨0, by omega, rfl, rfl, HE3, HB3⟩⟩
      case round =>
        clear HE3 HB3
        obtain ⟨k, hk, rfl, HT, HE, HB⟩ := hrel.out
        clear hrel
        by_cases hlt : k < a
        · have HDW := Lib.hid (HD.out.below (HB.out.mono HD.out.le))
          obtain ⟨b3, o3, x, hA3, hb3, hx, hat⟩ := ev_elem HDW.out.H (show k < h.length by have := HHA.out; omega)
          obtain ⟨rfl, rfl⟩ : b = b3 ∧ o = o3 := by cases hA3; exact ⟨rfl, rfl⟩
          have d0 : decide ((k : Int) < (a : Int)) = true := by simp; omega
          have hkl : k < h.length := by have := HHA.out; omega
          have HXE := Lib.hid hx
          have HLT := Lib.hid hlt
          have HAT := Lib.hid hat.c
          have hbw := Nat.lt_of_lt_of_le hb3 HDW.out.le
          clear hx hat hA3 HDW
          go_upto_region 8 with fail
          cases hbg : beg x
          · have hno : dupF e'.cl e'.op x = false := by unfold dupF; rw [hbg, Bool.false_and]
            have HBG := Lib.hid hbg
            clear hbg
            have HN : Hid ((h.take (k + 1)).any (dupF e'.cl e'.op) = false) := by show _ = _; rw [any_snoc HXE.out, HT.out, hno]; rfl
            clear hno
            refine Reg.wp_region_rel (by kernel_rfl) 162 25 rfl rfl (by kernel_rfl) (Reg.Adds) (Reg.Adds.refl) (Reg.Adds.trans)
              (fun i v u => match i with
                | 0 => v = .slice (some ⟨b, o, none⟩) h.length c
                | 1 => v = .int .i64 k
                | 2 => v = .pointer (some ⟨b, o + k * 20, none⟩)
                | 3 => v = .agg (evCells x).toArray
                | 4 => v = .bool false
                | 5 => v = .bool false
                | 6 => v = undef
                | 7 => v = undef
                | 8 => v = undef
                | 9 => v = undef
                | 10 => v = undef
                | 11 => v = undef
                | 12 => v = undef
                | 13 => v = undef
                | 14 => v = .bool false
                | 15 => v = .bool false
                | 16 => v = undef
                | 17 => v = undef
                | 18 => v = undef
                | 19 => v = undef
                | 20 => v = undef
                | 21 => v = undef
                | 22 => v = undef
                | 23 => v = undef
                | 24 => v = .bool false
                | _ => True) ?_ ?_
            · refine Reg.Steps.cons ?_ (Reg.Steps.cons ?_ (Reg.Steps.cons ?_ (Reg.Steps.cons ?_ (Reg.Steps.cons ?_ (Reg.Steps.cons ?_ (Reg.Steps.cons ?_ (Reg.Steps.cons ?_ (Reg.Steps.cons ?_ (Reg.Steps.cons ?_ (Reg.Steps.cons ?_ (Reg.Steps.cons ?_ (Reg.Steps.cons ?_ (Reg.Steps.cons ?_ (Reg.Steps.cons ?_ (Reg.Steps.cons ?_ (Reg.Steps.cons ?_ (Reg.Steps.cons ?_ (Reg.Steps.cons ?_ (Reg.Steps.cons ?_ (Reg.Steps.cons ?_ (Reg.Steps.cons ?_ (Reg.Steps.cons ?_ (Reg.Steps.cons ?_ (Reg.Steps.cons ?_ (Reg.Steps.nil _)))))))))))))))))))))))))
              · intro val ac u hR hp ha K hK
                have e0 : (ac.tmps[0]?).getD undef = .slice (some ⟨b, o, none⟩) h.length c := ha 0 (by decide); clear ha hp
                refine Reg.Op1.plain rfl ?_
                go_wp2
                exact ⟨rfl, hK _ _ rfl (fun j k _ _ => Reg.Adds.refl _ _ _)⟩
              · intro val ac u hR hp ha K hK
                have e10 : (ac.tmps[10]?).getD undef = .int .i64 k := ha 10 (by decide); clear ha hp
                refine Reg.Op1.plain rfl ?_
                go_wp2
                exact ⟨rfl, hK _ _ rfl (fun j k _ _ => Reg.Adds.refl _ _ _)⟩
              · intro val ac u hR hp ha K hK
                obtain ⟨w27, h27, r27⟩ := hp 0 (by decide); have e27 : (ac.tmps[27]?).getD undef = .slice (some ⟨b, o, none⟩) h.length c := (ha 27 (by decide)).trans h27; obtain ⟨w28, h28, r28⟩ := hp 1 (by decide); have e28 : (ac.tmps[28]?).getD undef = .int .i64 k := (ha 28 (by decide)).trans h28; clear h27 h28 ha hp
                refine Reg.Op1.plain rfl ?_
                go_wp2
                exact ⟨rfl, hK _ _ rfl (fun j k _ _ => Reg.Adds.refl _ _ _)⟩
              · intro val ac u hR hp ha K hK
                obtain ⟨w29, h29, r29⟩ := hp 2 (by decide); have e29 : (ac.tmps[29]?).getD undef = .pointer (some ⟨b, o + k * 20, none⟩) := (ha 29 (by decide)).trans h29; clear h29 ha hp
                refine Reg.Op1.plain rfl ?_
                refine Mem.load_agg _ _ event_agg b (o + k * 20) (evCells x) (Reg.eval_of e29) (evCells_length _) (fun q u' hu => (hR.cell (p := ⟨b, o + k * 20 + q, none⟩) hbw).trans (HAT.out q u' hu)) ?_
                exact ⟨rfl, hK _ _ rfl (fun j k _ _ => Reg.Adds.refl _ _ _)⟩
              · intro val ac u hR hp ha K hK
                obtain ⟨w30, h30, r30⟩ := hp 3 (by decide); have e30 : (ac.tmps[30]?).getD undef = .agg (evCells x).toArray := (ha 30 (by decide)).trans h30; clear h30 ha hp
                refine Reg.Op1.plain rfl ?_
                go_wp2_with fail
                refine (beginning_any x u).mono ?_
                rintro x' w' ⟨rfl, hbw⟩
                rw [HBG.out]
                go_wp2_with fail
                exact ⟨rfl, hK _ _ rfl (fun j k _ _ => hbw)⟩
              · intro val ac u hR hp ha K hK
                obtain ⟨w31, h31, r31⟩ := hp 4 (by decide); have e31 : (ac.tmps[31]?).getD undef = .bool false := (ha 31 (by decide)).trans h31; clear h31 ha hp
                refine Reg.Op1.plain rfl ?_
                go_wp2
                exact ⟨rfl, hK _ _ rfl (fun j k _ _ => Reg.Adds.refl _ _ _)⟩
              · intro val ac u hR hp ha K hK; obtain ⟨_, h, _⟩ := hp 5 (by decide); exact Reg.Op1.guarded rfl rfl ((ha 32 (by decide)).trans h) (fun h => by cases h) (fun _ => hK _ _ rfl (fun j k _ _ => Reg.Adds.refl _ _ _))
              · intro val ac u hR hp ha K hK; obtain ⟨_, h, _⟩ := hp 5 (by decide); exact Reg.Op1.guarded rfl rfl ((ha 32 (by decide)).trans h) (fun h => by cases h) (fun _ => hK _ _ rfl (fun j k _ _ => Reg.Adds.refl _ _ _))
              · intro val ac u hR hp ha K hK; obtain ⟨_, h, _⟩ := hp 5 (by decide); exact Reg.Op1.guarded rfl rfl ((ha 32 (by decide)).trans h) (fun h => by cases h) (fun _ => hK _ _ rfl (fun j k _ _ => Reg.Adds.refl _ _ _))
              · intro val ac u hR hp ha K hK; obtain ⟨_, h, _⟩ := hp 5 (by decide); exact Reg.Op1.guarded rfl rfl ((ha 32 (by decide)).trans h) (fun h => by cases h) (fun _ => hK _ _ rfl (fun j k _ _ => Reg.Adds.refl _ _ _))
              · intro val ac u hR hp ha K hK; obtain ⟨_, h, _⟩ := hp 5 (by decide); exact Reg.Op1.guarded rfl rfl ((ha 32 (by decide)).trans h) (fun h => by cases h) (fun _ => hK _ _ rfl (fun j k _ _ => Reg.Adds.refl _ _ _))
              · intro val ac u hR hp ha K hK; obtain ⟨_, h, _⟩ := hp 5 (by decide); exact Reg.Op1.guarded rfl rfl ((ha 32 (by decide)).trans h) (fun h => by cases h) (fun _ => hK _ _ rfl (fun j k _ _ => Reg.Adds.refl _ _ _))
              · intro val ac u hR hp ha K hK; obtain ⟨_, h, _⟩ := hp 5 (by decide); exact Reg.Op1.guarded rfl rfl ((ha 32 (by decide)).trans h) (fun h => by cases h) (fun _ => hK _ _ rfl (fun j k _ _ => Reg.Adds.refl _ _ _))
              · intro val ac u hR hp ha K hK; obtain ⟨_, h, _⟩ := hp 5 (by decide); exact Reg.Op1.guarded rfl rfl ((ha 32 (by decide)).trans h) (fun h => by cases h) (fun _ => hK _ _ rfl (fun j k _ _ => Reg.Adds.refl _ _ _))
              · intro val ac u hR hp ha K hK
                obtain ⟨w32, h32, r32⟩ := hp 5 (by decide); have e32 : (ac.tmps[32]?).getD undef = .bool false := (ha 32 (by decide)).trans h32; obtain ⟨w40, h40, r40⟩ := hp 13 (by decide); have e40 : (ac.tmps[40]?).getD undef = undef := (ha 40 (by decide)).trans h40; clear h32 h40 ha hp
                refine Reg.Op1.plain rfl ?_
                go_wp2
                exact ⟨rfl, hK _ _ rfl (fun j k _ _ => Reg.Adds.refl _ _ _)⟩
              · intro val ac u hR hp ha K hK
                obtain ⟨w41, h41, r41⟩ := hp 14 (by decide); have e41 : (ac.tmps[41]?).getD undef = .bool false := (ha 41 (by decide)).trans h41; clear h41 ha hp
                refine Reg.Op1.plain rfl ?_
                go_wp2
                exact ⟨rfl, hK _ _ rfl (fun j k _ _ => Reg.Adds.refl _ _ _)⟩
              · intro val ac u hR hp ha K hK; obtain ⟨_, h, _⟩ := hp 15 (by decide); exact Reg.Op1.guarded rfl rfl ((ha 42 (by decide)).trans h) (fun h => by cases h) (fun _ => hK _ _ rfl (fun j k _ _ => Reg.Adds.refl _ _ _))
              · intro val ac u hR hp ha K hK; obtain ⟨_, h, _⟩ := hp 15 (by decide); exact Reg.Op1.guarded rfl rfl ((ha 42 (by decide)).trans h) (fun h => by cases h) (fun _ => hK _ _ rfl (fun j k _ _ => Reg.Adds.refl _ _ _))
              · intro val ac u hR hp ha K hK; obtain ⟨_, h, _⟩ := hp 15 (by decide); exact Reg.Op1.guarded rfl rfl ((ha 42 (by decide)).trans h) (fun h => by cases h) (fun _ => hK _ _ rfl (fun j k _ _ => Reg.Adds.refl _ _ _))
              · intro val ac u hR hp ha K hK; obtain ⟨_, h, _⟩ := hp 15 (by decide); exact Reg.Op1.guarded rfl rfl ((ha 42 (by decide)).trans h) (fun h => by cases h) (fun _ => hK _ _ rfl (fun j k _ _ => Reg.Adds.refl _ _ _))
              · intro val ac u hR hp ha K hK; obtain ⟨_, h, _⟩ := hp 15 (by decide); exact Reg.Op1.guarded rfl rfl ((ha 42 (by decide)).trans h) (fun h => by cases h) (fun _ => hK _ _ rfl (fun j k _ _ => Reg.Adds.refl _ _ _))
              · intro val ac u hR hp ha K hK; obtain ⟨_, h, _⟩ := hp 15 (by decide); exact Reg.Op1.guarded rfl rfl ((ha 42 (by decide)).trans h) (fun h => by cases h) (fun _ => hK _ _ rfl (fun j k _ _ => Reg.Adds.refl _ _ _))
              · intro val ac u hR hp ha K hK; obtain ⟨_, h, _⟩ := hp 15 (by decide); exact Reg.Op1.guarded rfl rfl ((ha 42 (by decide)).trans h) (fun h => by cases h) (fun _ => hK _ _ rfl (fun j k _ _ => Reg.Adds.refl _ _ _))
              · intro val ac u hR hp ha K hK; obtain ⟨_, h, _⟩ := hp 15 (by decide); exact Reg.Op1.guarded rfl rfl ((ha 42 (by decide)).trans h) (fun h => by cases h) (fun _ => hK _ _ rfl (fun j k _ _ => Reg.Adds.refl _ _ _))
              · intro val ac u hR hp ha K hK
                obtain ⟨w42, h42, r42⟩ := hp 15 (by decide); have e42 : (ac.tmps[42]?).getD undef = .bool false := (ha 42 (by decide)).trans h42; obtain ⟨w50, h50, r50⟩ := hp 23 (by decide); have e50 : (ac.tmps[50]?).getD undef = undef := (ha 50 (by decide)).trans h50; clear h42 h50 ha hp
                refine Reg.Op1.plain rfl ?_
                go_wp2
                exact ⟨rfl, hK _ _ rfl (fun j k _ _ => Reg.Adds.refl _ _ _)⟩
            intro val u hR H
            obtain ⟨wB, hv, rB⟩ := H 24 (by decide)
            have hv : val 24 = .bool false := hv
            have HKu : Hid (Below wr.heap.size wr u) := (Below.refl _ wr).drew.trans hR
            simp only [List.map_cons, List.map_nil, Reg.lay, Act.put, List.setIfInBounds_toArray, List.set_cons_succ, List.set_cons_zero, Nat.reduceAdd, hv]
            clear hR H hv rB
            obtain ⟨wy, hwy⟩ : ∃ z, z = u := ⟨_, rfl⟩
            subst hwy
            have HE4 : Hid (VBx wy w.heap.size e') := HE.out.below HKu.out HE.out.lt
            have HB4 : Hid (Below w.heap.size w wy) := HB.out.trans (HKu.out.mono HB.out.size)
            clear HE HB HKu HAT hbw
            go_wp2
            go_roundw
            case rel => exact ⟨⟨k + 1, HLT.out, by go_num, HN, HE4, HB4⟩⟩
            case measure => have := HLT.out; simp [intOf]; omega
          · have HBG := Lib.hid hbg
            cases h1 : (x.cl == e'.cl)
            · have hno : dupF e'.cl e'.op x = false := by unfold dupF; rw [hbg, decide_eq_false (by simpa using h1), Bool.false_and, Bool.and_false]
              have HQ2 : Hid ((x.cl == e'.cl) = false) := h1
              clear hbg h1
              have HN : Hid ((h.take (k + 1)).any (dupF e'.cl e'.op) = false) := by show _ = _; rw [any_snoc HXE.out, HT.out, hno]; rfl
              clear hno
              refine Reg.wp_region_rel (by kernel_rfl) 162 25 rfl rfl (by kernel_rfl) (Reg.Adds) (Reg.Adds.refl) (Reg.Adds.trans)
                (fun i v u => match i with
                  | 0 => v = .slice (some ⟨b, o, none⟩) h.length c
                  | 1 => v = .int .i64 k
                  | 2 => v = .pointer (some ⟨b, o + k * 20, none⟩)
                  | 3 => v = .agg (evCells x).toArray
                  | 4 => v = .bool true
                  | 5 => v = .bool true
                  | 6 => v = .slice (some ⟨b, o, none⟩) h.length c
                  | 7 => v = .int .i64 k
                  | 8 => v = .pointer (some ⟨b, o + k * 20, none⟩)
                  | 9 => v = .pointer (some ⟨b, o + k * 20, none⟩)
                  | 10 => v = .int .i64 x.cl
                  | 11 => v = .pointer (some ⟨w.heap.size, 0, none⟩)
                  | 12 => v = .int .i64 e'.cl
                  | 13 => v = .bool false
                  | 14 => v = .bool false
                  | 15 => v = .bool false
                  | 16 => v = undef
                  | 17 => v = undef
                  | 18 => v = undef
                  | 19 => v = undef
                  | 20 => v = undef
                  | 21 => v = undef
                  | 22 => v = undef
                  | 23 => v = undef
                  | 24 => v = .bool false
                  | _ => True) ?_ ?_
              · refine Reg.Steps.cons ?_ (Reg.Steps.cons ?_ (Reg.Steps.cons ?_ (Reg.Steps.cons ?_ (Reg.Steps.cons ?_ (Reg.Steps.cons ?_ (Reg.Steps.cons ?_ (Reg.Steps.cons ?_ (Reg.Steps.cons ?_ (Reg.Steps.cons ?_ (Reg.Steps.cons ?_ (Reg.Steps.cons ?_ (Reg.Steps.cons ?_ (Reg.Steps.cons ?_ (Reg.Steps.cons ?_ (Reg.Steps.cons ?_ (Reg.Steps.cons ?_ (Reg.Steps.cons ?_ (Reg.Steps.cons ?_ (Reg.Steps.cons ?_ (Reg.Steps.cons ?_ (Reg.Steps.cons ?_ (Reg.Steps.cons ?_ (Reg.Steps.cons ?_ (Reg.Steps.cons ?_ (Reg.Steps.nil _)))))))))))))))))))))))))
                · intro val ac u hR hp ha K hK
                  have e0 : (ac.tmps[0]?).getD undef = .slice (some ⟨b, o, none⟩) h.length c := ha 0 (by decide); clear ha hp
                  refine Reg.Op1.plain rfl ?_
                  go_wp2
                  exact ⟨rfl, hK _ _ rfl (fun j k _ _ => Reg.Adds.refl _ _ _)⟩
                · intro val ac u hR hp ha K hK
                  have e10 : (ac.tmps[10]?).getD undef = .int .i64 k := ha 10 (by decide); clear ha hp
                  refine Reg.Op1.plain rfl ?_
                  go_wp2
                  exact ⟨rfl, hK _ _ rfl (fun j k _ _ => Reg.Adds.refl _ _ _)⟩
                · intro val ac u hR hp ha K hK
                  obtain ⟨w27, h27, r27⟩ := hp 0 (by decide); have e27 : (ac.tmps[27]?).getD undef = .slice (some ⟨b, o, none⟩) h.length c := (ha 27 (by decide)).trans h27; obtain ⟨w28, h28, r28⟩ := hp 1 (by decide); have e28 : (ac.tmps[28]?).getD undef = .int .i64 k := (ha 28 (by decide)).trans h28; clear h27 h28 ha hp
                  refine Reg.Op1.plain rfl ?_
                  go_wp2
                  exact ⟨rfl, hK _ _ rfl (fun j k _ _ => Reg.Adds.refl _ _ _)⟩
                · intro val ac u hR hp ha K hK
                  obtain ⟨w29, h29, r29⟩ := hp 2 (by decide); have e29 : (ac.tmps[29]?).getD undef = .pointer (some ⟨b, o + k * 20, none⟩) := (ha 29 (by decide)).trans h29; clear h29 ha hp
                  refine Reg.Op1.plain rfl ?_
                  refine Mem.load_agg _ _ event_agg b (o + k * 20) (evCells x) (Reg.eval_of e29) (evCells_length _) (fun q u' hu => (hR.cell (p := ⟨b, o + k * 20 + q, none⟩) hbw).trans (HAT.out q u' hu)) ?_
                  exact ⟨rfl, hK _ _ rfl (fun j k _ _ => Reg.Adds.refl _ _ _)⟩
                · intro val ac u hR hp ha K hK
                  obtain ⟨w30, h30, r30⟩ := hp 3 (by decide); have e30 : (ac.tmps[30]?).getD undef = .agg (evCells x).toArray := (ha 30 (by decide)).trans h30; clear h30 ha hp
                  refine Reg.Op1.plain rfl ?_
                  go_wp2_with fail
                  refine (beginning_any x u).mono ?_
                  rintro x' w' ⟨rfl, hbw⟩
                  rw [HBG.out]
                  go_wp2_with fail
                  exact ⟨rfl, hK _ _ rfl (fun j k _ _ => hbw)⟩
                · intro val ac u hR hp ha K hK
                  obtain ⟨w31, h31, r31⟩ := hp 4 (by decide); have e31 : (ac.tmps[31]?).getD undef = .bool true := (ha 31 (by decide)).trans h31; clear h31 ha hp
                  refine Reg.Op1.plain rfl ?_
                  go_wp2
                  exact ⟨rfl, hK _ _ rfl (fun j k _ _ => Reg.Adds.refl _ _ _)⟩
                · intro val ac u hR hp ha K hK
                  have e0 : (ac.tmps[0]?).getD undef = .slice (some ⟨b, o, none⟩) h.length c := ha 0 (by decide); obtain ⟨w32, h32, r32⟩ := hp 5 (by decide); have e32 : (ac.tmps[32]?).getD undef = .bool true := (ha 32 (by decide)).trans h32; clear h32 ha hp
                  refine Reg.Op1.guarded rfl rfl e32 (fun _ => Reg.Op1.plain rfl ?_) (fun h => absurd rfl h)
                  go_wp2
                  exact ⟨rfl, hK _ _ rfl (fun j k _ _ => Reg.Adds.refl _ _ _)⟩
                · intro val ac u hR hp ha K hK
                  have e10 : (ac.tmps[10]?).getD undef = .int .i64 k := ha 10 (by decide); obtain ⟨w32, h32, r32⟩ := hp 5 (by decide); have e32 : (ac.tmps[32]?).getD undef = .bool true := (ha 32 (by decide)).trans h32; clear h32 ha hp
                  refine Reg.Op1.guarded rfl rfl e32 (fun _ => Reg.Op1.plain rfl ?_) (fun h => absurd rfl h)
                  go_wp2
                  exact ⟨rfl, hK _ _ rfl (fun j k _ _ => Reg.Adds.refl _ _ _)⟩
                · intro val ac u hR hp ha K hK
                  obtain ⟨w33, h33, r33⟩ := hp 6 (by decide); have e33 : (ac.tmps[33]?).getD undef = .slice (some ⟨b, o, none⟩) h.length c := (ha 33 (by decide)).trans h33; obtain ⟨w34, h34, r34⟩ := hp 7 (by decide); have e34 : (ac.tmps[34]?).getD undef = .int .i64 k := (ha 34 (by decide)).trans h34; obtain ⟨w32, h32, r32⟩ := hp 5 (by decide); have e32 : (ac.tmps[32]?).getD undef = .bool true := (ha 32 (by decide)).trans h32; clear h33 h34 h32 ha hp
                  refine Reg.Op1.guarded rfl rfl e32 (fun _ => Reg.Op1.plain rfl ?_) (fun h => absurd rfl h)
                  go_wp2
                  exact ⟨rfl, hK _ _ rfl (fun j k _ _ => Reg.Adds.refl _ _ _)⟩
                · intro val ac u hR hp ha K hK
                  obtain ⟨w35, h35, r35⟩ := hp 8 (by decide); have e35 : (ac.tmps[35]?).getD undef = .pointer (some ⟨b, o + k * 20, none⟩) := (ha 35 (by decide)).trans h35; obtain ⟨w32, h32, r32⟩ := hp 5 (by decide); have e32 : (ac.tmps[32]?).getD undef = .bool true := (ha 32 (by decide)).trans h32; clear h35 h32 ha hp
                  refine Reg.Op1.guarded rfl rfl e32 (fun _ => Reg.Op1.plain rfl ?_) (fun h => absurd rfl h)
                  go_wp2
                  exact ⟨rfl, hK _ _ rfl (fun j k _ _ => Reg.Adds.refl _ _ _)⟩
                · intro val ac u hR hp ha K hK
                  obtain ⟨w36, h36, r36⟩ := hp 9 (by decide); have e36 : (ac.tmps[36]?).getD undef = .pointer (some ⟨b, o + k * 20, none⟩) := (ha 36 (by decide)).trans h36; obtain ⟨w32, h32, r32⟩ := hp 5 (by decide); have e32 : (ac.tmps[32]?).getD undef = .bool true := (ha 32 (by decide)).trans h32; clear h36 h32 ha hp
                  refine Reg.Op1.guarded rfl rfl e32 (fun _ => Reg.Op1.plain rfl ?_) (fun h => absurd rfl h)
                  have x0 := (hR.cell (p := ⟨b, o + k * 20, none⟩) hbw).trans (HAT.out 0 _ rfl)
                  go_wp2
                  exact ⟨rfl, hK _ _ rfl (fun j k _ _ => Reg.Adds.refl _ _ _)⟩
                · intro val ac u hR hp ha K hK
                  have e9 : (ac.tmps[9]?).getD undef = .pointer (some ⟨w.heap.size, 0, none⟩) := ha 9 (by decide); obtain ⟨w32, h32, r32⟩ := hp 5 (by decide); have e32 : (ac.tmps[32]?).getD undef = .bool true := (ha 32 (by decide)).trans h32; clear h32 ha hp
                  refine Reg.Op1.guarded rfl rfl e32 (fun _ => Reg.Op1.plain rfl ?_) (fun h => absurd rfl h)
                  go_wp2
                  exact ⟨rfl, hK _ _ rfl (fun j k _ _ => Reg.Adds.refl _ _ _)⟩
                · intro val ac u hR hp ha K hK
                  obtain ⟨w38, h38, r38⟩ := hp 11 (by decide); have e38 : (ac.tmps[38]?).getD undef = .pointer (some ⟨w.heap.size, 0, none⟩) := (ha 38 (by decide)).trans h38; obtain ⟨w32, h32, r32⟩ := hp 5 (by decide); have e32 : (ac.tmps[32]?).getD undef = .bool true := (ha 32 (by decide)).trans h32; clear h38 h32 ha hp
                  refine Reg.Op1.guarded rfl rfl e32 (fun _ => Reg.Op1.plain rfl ?_) (fun h => absurd rfl h)
                  have x0 := (Mem.Bx.below (w := wr.drew) HE.out hR HE.out.lt).cell (j := 0) rfl
                  go_wp2
                  exact ⟨rfl, hK _ _ rfl (fun j k _ _ => Reg.Adds.refl _ _ _)⟩
                · intro val ac u hR hp ha K hK
                  obtain ⟨w37, h37, r37⟩ := hp 10 (by decide); have e37 : (ac.tmps[37]?).getD undef = .int .i64 x.cl := (ha 37 (by decide)).trans h37; obtain ⟨w39, h39, r39⟩ := hp 12 (by decide); have e39 : (ac.tmps[39]?).getD undef = .int .i64 e'.cl := (ha 39 (by decide)).trans h39; obtain ⟨w32, h32, r32⟩ := hp 5 (by decide); have e32 : (ac.tmps[32]?).getD undef = .bool true := (ha 32 (by decide)).trans h32; clear h37 h39 h32 ha hp
                  have hq := HQ2.out
                  refine Reg.Op1.guarded rfl rfl e32 (fun _ => Reg.Op1.plain rfl ?_) (fun h => absurd rfl h)
                  go_wp2
                  exact ⟨rfl, hK _ _ rfl (fun j k _ _ => Reg.Adds.refl _ _ _)⟩
                · intro val ac u hR hp ha K hK
                  obtain ⟨w32, h32, r32⟩ := hp 5 (by decide); have e32 : (ac.tmps[32]?).getD undef = .bool true := (ha 32 (by decide)).trans h32; obtain ⟨w40, h40, r40⟩ := hp 13 (by decide); have e40 : (ac.tmps[40]?).getD undef = .bool false := (ha 40 (by decide)).trans h40; clear h32 h40 ha hp
                  refine Reg.Op1.plain rfl ?_
                  go_wp2
                  exact ⟨rfl, hK _ _ rfl (fun j k _ _ => Reg.Adds.refl _ _ _)⟩
                · intro val ac u hR hp ha K hK
                  obtain ⟨w41, h41, r41⟩ := hp 14 (by decide); have e41 : (ac.tmps[41]?).getD undef = .bool false := (ha 41 (by decide)).trans h41; clear h41 ha hp
                  refine Reg.Op1.plain rfl ?_
                  go_wp2
                  exact ⟨rfl, hK _ _ rfl (fun j k _ _ => Reg.Adds.refl _ _ _)⟩
                · intro val ac u hR hp ha K hK; obtain ⟨_, h, _⟩ := hp 15 (by decide); exact Reg.Op1.guarded rfl rfl ((ha 42 (by decide)).trans h) (fun h => by cases h) (fun _ => hK _ _ rfl (fun j k _ _ => Reg.Adds.refl _ _ _))
                · intro val ac u hR hp ha K hK; obtain ⟨_, h, _⟩ := hp 15 (by decide); exact Reg.Op1.guarded rfl rfl ((ha 42 (by decide)).trans h) (fun h => by cases h) (fun _ => hK _ _ rfl (fun j k _ _ => Reg.Adds.refl _ _ _))
                · intro val ac u hR hp ha K hK; obtain ⟨_, h, _⟩ := hp 15 (by decide); exact Reg.Op1.guarded rfl rfl ((ha 42 (by decide)).trans h) (fun h => by cases h) (fun _ => hK _ _ rfl (fun j k _ _ => Reg.Adds.refl _ _ _))
                · intro val ac u hR hp ha K hK; obtain ⟨_, h, _⟩ := hp 15 (by decide); exact Reg.Op1.guarded rfl rfl ((ha 42 (by decide)).trans h) (fun h => by cases h) (fun _ => hK _ _ rfl (fun j k _ _ => Reg.Adds.refl _ _ _))
                · intro val ac u hR hp ha K hK; obtain ⟨_, h, _⟩ := hp 15 (by decide); exact Reg.Op1.guarded rfl rfl ((ha 42 (by decide)).trans h) (fun h => by cases h) (fun _ => hK _ _ rfl (fun j k _ _ => Reg.Adds.refl _ _ _))
                · intro val ac u hR hp ha K hK; obtain ⟨_, h, _⟩ := hp 15 (by decide); exact Reg.Op1.guarded rfl rfl ((ha 42 (by decide)).trans h) (fun h => by cases h) (fun _ => hK _ _ rfl (fun j k _ _ => Reg.Adds.refl _ _ _))
                · intro val ac u hR hp ha K hK; obtain ⟨_, h, _⟩ := hp 15 (by decide); exact Reg.Op1.guarded rfl rfl ((ha 42 (by decide)).trans h) (fun h => by cases h) (fun _ => hK _ _ rfl (fun j k _ _ => Reg.Adds.refl _ _ _))
                · intro val ac u hR hp ha K hK; obtain ⟨_, h, _⟩ := hp 15 (by decide); exact Reg.Op1.guarded rfl rfl ((ha 42 (by decide)).trans h) (fun h => by cases h) (fun _ => hK _ _ rfl (fun j k _ _ => Reg.Adds.refl _ _ _))
                · intro val ac u hR hp ha K hK
                  obtain ⟨w42, h42, r42⟩ := hp 15 (by decide); have e42 : (ac.tmps[42]?).getD undef = .bool false := (ha 42 (by decide)).trans h42; obtain ⟨w50, h50, r50⟩ := hp 23 (by decide); have e50 : (ac.tmps[50]?).getD undef = undef := (ha 50 (by decide)).trans h50; clear h42 h50 ha hp
                  refine Reg.Op1.plain rfl ?_
                  go_wp2
                  exact ⟨rfl, hK _ _ rfl (fun j k _ _ => Reg.Adds.refl _ _ _)⟩
              intro val u hR H
              obtain ⟨wB, hv, rB⟩ := H 24 (by decide)
              have hv : val 24 = .bool false := hv
              have HKu : Hid (Below wr.heap.size wr u) := (Below.refl _ wr).drew.trans hR
              simp only [List.map_cons, List.map_nil, Reg.lay, Act.put, List.setIfInBounds_toArray, List.set_cons_succ, List.set_cons_zero, Nat.reduceAdd, hv]
              clear hR H hv rB
              obtain ⟨wy, hwy⟩ : ∃ z, z = u := ⟨_, rfl⟩
              subst hwy
              have HE4 : Hid (VBx wy w.heap.size e') := HE.out.below HKu.out HE.out.lt
              have HB4 : Hid (Below w.heap.size w wy) := HB.out.trans (HKu.out.mono HB.out.size)
              clear HE HB HKu HAT hbw
              go_wp2
              go_roundw
              case rel => exact ⟨⟨k + 1, HLT.out, by go_num, HN, HE4, HB4⟩⟩
              case measure => have := HLT.out; simp [intOf]; omega
            · have HQ2 : Hid ((x.cl == e'.cl) = true) := h1
              cases h2 : decide (e'.op ≤ x.op)
              · have hno : dupF e'.cl e'.op x = false := by unfold dupF; rw [h2, Bool.and_false, Bool.and_false]
                have HQ3 : Hid (decide (e'.op ≤ x.op) = false) := h2
                clear hbg h1 h2
                have HN : Hid ((h.take (k + 1)).any (dupF e'.cl e'.op) = false) := by show _ = _; rw [any_snoc HXE.out, HT.out, hno]; rfl
                clear hno
                refine Reg.wp_region_rel (by kernel_rfl) 162 25 rfl rfl (by kernel_rfl) (Reg.Adds) (Reg.Adds.refl) (Reg.Adds.trans)
                  (fun i v u => match i with
                    | 0 => v = .slice (some ⟨b, o, none⟩) h.length c
                    | 1 => v = .int .i64 k
                    | 2 => v = .pointer (some ⟨b, o + k * 20, none⟩)
                    | 3 => v = .agg (evCells x).toArray
                    | 4 => v = .bool true
                    | 5 => v = .bool true
                    | 6 => v = .slice (some ⟨b, o, none⟩) h.length c
                    | 7 => v = .int .i64 k
                    | 8 => v = .pointer (some ⟨b, o + k * 20, none⟩)
                    | 9 => v = .pointer (some ⟨b, o + k * 20, none⟩)
                    | 10 => v = .int .i64 x.cl
                    | 11 => v = .pointer (some ⟨w.heap.size, 0, none⟩)
                    | 12 => v = .int .i64 e'.cl
                    | 13 => v = .bool true
                    | 14 => v = .bool true
                    | 15 => v = .bool true
                    | 16 => v = .slice (some ⟨b, o, none⟩) h.length c
                    | 17 => v = .int .i64 k
                    | 18 => v = .pointer (some ⟨b, o + k * 20, none⟩)
                    | 19 => v = .pointer (some ⟨b, o + k * 20 + 1, none⟩)
                    | 20 => v = .int .i64 x.op
                    | 21 => v = .pointer (some ⟨w.heap.size, 1, none⟩)
                    | 22 => v = .int .i64 e'.op
                    | 23 => v = .bool false
                    | 24 => v = .bool false
                    | _ => True) ?_ ?_
                · refine Reg.Steps.cons ?_ (Reg.Steps.cons ?_ (Reg.Steps.cons ?_ (Reg.Steps.cons ?_ (Reg.Steps.cons ?_ (Reg.Steps.cons ?_ (Reg.Steps.cons ?_ (Reg.Steps.cons ?_ (Reg.Steps.cons ?_ (Reg.Steps.cons ?_ (Reg.Steps.cons ?_ (Reg.Steps.cons ?_ (Reg.Steps.cons ?_ (Reg.Steps.cons ?_ (Reg.Steps.cons ?_ (Reg.Steps.cons ?_ (Reg.Steps.cons ?_ (Reg.Steps.cons ?_ (Reg.Steps.cons ?_ (Reg.Steps.cons ?_ (Reg.Steps.cons ?_ (Reg.Steps.cons ?_ (Reg.Steps.cons ?_ (Reg.Steps.cons ?_ (Reg.Steps.cons ?_ (Reg.Steps.nil _)))))))))))))))))))))))))
                  · intro val ac u hR hp ha K hK
                    have e0 : (ac.tmps[0]?).getD undef = .slice (some ⟨b, o, none⟩) h.length c := ha 0 (by decide); clear ha hp
                    refine Reg.Op1.plain rfl ?_
                    go_wp2
                    exact ⟨rfl, hK _ _ rfl (fun j k _ _ => Reg.Adds.refl _ _ _)⟩
                  · intro val ac u hR hp ha K hK
                    have e10 : (ac.tmps[10]?).getD undef = .int .i64 k := ha 10 (by decide); clear ha hp
                    refine Reg.Op1.plain rfl ?_
                    go_wp2
                    exact ⟨rfl, hK _ _ rfl (fun j k _ _ => Reg.Adds.refl _ _ _)⟩
                  · intro val ac u hR hp ha K hK
                    obtain ⟨w27, h27, r27⟩ := hp 0 (by decide); have e27 : (ac.tmps[27]?).getD undef = .slice (some ⟨b, o, none⟩) h.length c := (ha 27 (by decide)).trans h27; obtain ⟨w28, h28, r28⟩ := hp 1 (by decide); have e28 : (ac.tmps[28]?).getD undef = .int .i64 k := (ha 28 (by decide)).trans h28; clear h27 h28 ha hp
                    refine Reg.Op1.plain rfl ?_
                    go_wp2
                    exact ⟨rfl, hK _ _ rfl (fun j k _ _ => Reg.Adds.refl _ _ _)⟩
                  · intro val ac u hR hp ha K hK
                    obtain ⟨w29, h29, r29⟩ := hp 2 (by decide); have e29 : (ac.tmps[29]?).getD undef = .pointer (some ⟨b, o + k * 20, none⟩) := (ha 29 (by decide)).trans h29; clear h29 ha hp
                    refine Reg.Op1.plain rfl ?_
                    refine Mem.load_agg _ _ event_agg b (o + k * 20) (evCells x) (Reg.eval_of e29) (evCells_length _) (fun q u' hu => (hR.cell (p := ⟨b, o + k * 20 + q, none⟩) hbw).trans (HAT.out q u' hu)) ?_
                    exact ⟨rfl, hK _ _ rfl (fun j k _ _ => Reg.Adds.refl _ _ _)⟩
                  · intro val ac u hR hp ha K hK
                    obtain ⟨w30, h30, r30⟩ := hp 3 (by decide); have e30 : (ac.tmps[30]?).getD undef = .agg (evCells x).toArray := (ha 30 (by decide)).trans h30; clear h30 ha hp
                    refine Reg.Op1.plain rfl ?_
                    go_wp2_with fail
                    refine (beginning_any x u).mono ?_
                    rintro x' w' ⟨rfl, hbw⟩
                    rw [HBG.out]
                    go_wp2_with fail
                    exact ⟨rfl, hK _ _ rfl (fun j k _ _ => hbw)⟩
                  · intro val ac u hR hp ha K hK
                    obtain ⟨w31, h31, r31⟩ := hp 4 (by decide); have e31 : (ac.tmps[31]?).getD undef = .bool true := (ha 31 (by decide)).trans h31; clear h31 ha hp
                    refine Reg.Op1.plain rfl ?_
                    go_wp2
                    exact ⟨rfl, hK _ _ rfl (fun j k _ _ => Reg.Adds.refl _ _ _)⟩
                  · intro val ac u hR hp ha K hK
                    have e0 : (ac.tmps[0]?).getD undef = .slice (some ⟨b, o, none⟩) h.length c := ha 0 (by decide); obtain ⟨w32, h32, r32⟩ := hp 5 (by decide); have e32 : (ac.tmps[32]?).getD undef = .bool true := (ha 32 (by decide)).trans h32; clear h32 ha hp
                    refine Reg.Op1.guarded rfl rfl e32 (fun _ => Reg.Op1.plain rfl ?_) (fun h => absurd rfl h)
                    go_wp2
                    exact ⟨rfl, hK _ _ rfl (fun j k _ _ => Reg.Adds.refl _ _ _)⟩
                  · intro val ac u hR hp ha K hK
                    have e10 : (ac.tmps[10]?).getD undef = .int .i64 k := ha 10 (by decide); obtain ⟨w32, h32, r32⟩ := hp 5 (by decide); have e32 : (ac.tmps[32]?).getD undef = .bool true := (ha 32 (by decide)).trans h32; clear h32 ha hp
                    refine Reg.Op1.guarded rfl rfl e32 (fun _ => Reg.Op1.plain rfl ?_) (fun h => absurd rfl h)
                    go_wp2
                    exact ⟨rfl, hK _ _ rfl (fun j k _ _ => Reg.Adds.refl _ _ _)⟩
                  · intro val ac u hR hp ha K hK
                    obtain ⟨w33, h33, r33⟩ := hp 6 (by decide); have e33 : (ac.tmps[33]?).getD undef = .slice (some ⟨b, o, none⟩) h.length c := (ha 33 (by decide)).trans h33; obtain ⟨w34, h34, r34⟩ := hp 7 (by decide); have e34 : (ac.tmps[34]?).getD undef = .int .i64 k := (ha 34 (by decide)).trans h34; obtain ⟨w32, h32, r32⟩ := hp 5 (by decide); have e32 : (ac.tmps[32]?).getD undef = .bool true := (ha 32 (by decide)).trans h32; clear h33 h34 h32 ha hp
                    refine Reg.Op1.guarded rfl rfl e32 (fun _ => Reg.Op1.plain rfl ?_) (fun h => absurd rfl h)
                    go_wp2
                    exact ⟨rfl, hK _ _ rfl (fun j k _ _ => Reg.Adds.refl _ _ _)⟩
                  · intro val ac u hR hp ha K hK
                    obtain ⟨w35, h35, r35⟩ := hp 8 (by decide); have e35 : (ac.tmps[35]?).getD undef = .pointer (some ⟨b, o + k * 20, none⟩) := (ha 35 (by decide)).trans h35; obtain ⟨w32, h32, r32⟩ := hp 5 (by decide); have e32 : (ac.tmps[32]?).getD undef = .bool true := (ha 32 (by decide)).trans h32; clear h35 h32 ha hp
                    refine Reg.Op1.guarded rfl rfl e32 (fun _ => Reg.Op1.plain rfl ?_) (fun h => absurd rfl h)
                    go_wp2
                    exact ⟨rfl, hK _ _ rfl (fun j k _ _ => Reg.Adds.refl _ _ _)⟩
                  · intro val ac u hR hp ha K hK
                    obtain ⟨w36, h36, r36⟩ := hp 9 (by decide); have e36 : (ac.tmps[36]?).getD undef = .pointer (some ⟨b, o + k * 20, none⟩) := (ha 36 (by decide)).trans h36; obtain ⟨w32, h32, r32⟩ := hp 5 (by decide); have e32 : (ac.tmps[32]?).getD undef = .bool true := (ha 32 (by decide)).trans h32; clear h36 h32 ha hp
                    refine Reg.Op1.guarded rfl rfl e32 (fun _ => Reg.Op1.plain rfl ?_) (fun h => absurd rfl h)
                    have x0 := (hR.cell (p := ⟨b, o + k * 20, none⟩) hbw).trans (HAT.out 0 _ rfl)
                    go_wp2
                    exact ⟨rfl, hK _ _ rfl (fun j k _ _ => Reg.Adds.refl _ _ _)⟩
                  · intro val ac u hR hp ha K hK
                    have e9 : (ac.tmps[9]?).getD undef = .pointer (some ⟨w.heap.size, 0, none⟩) := ha 9 (by decide); obtain ⟨w32, h32, r32⟩ := hp 5 (by decide); have e32 : (ac.tmps[32]?).getD undef = .bool true := (ha 32 (by decide)).trans h32; clear h32 ha hp
                    refine Reg.Op1.guarded rfl rfl e32 (fun _ => Reg.Op1.plain rfl ?_) (fun h => absurd rfl h)
                    go_wp2
                    exact ⟨rfl, hK _ _ rfl (fun j k _ _ => Reg.Adds.refl _ _ _)⟩
                  · intro val ac u hR hp ha K hK
                    obtain ⟨w38, h38, r38⟩ := hp 11 (by decide); have e38 : (ac.tmps[38]?).getD undef = .pointer (some ⟨w.heap.size, 0, none⟩) := (ha 38 (by decide)).trans h38; obtain ⟨w32, h32, r32⟩ := hp 5 (by decide); have e32 : (ac.tmps[32]?).getD undef = .bool true := (ha 32 (by decide)).trans h32; clear h38 h32 ha hp
                    refine Reg.Op1.guarded rfl rfl e32 (fun _ => Reg.Op1.plain rfl ?_) (fun h => absurd rfl h)
                    have x0 := (Mem.Bx.below (w := wr.drew) HE.out hR HE.out.lt).cell (j := 0) rfl
                    go_wp2
                    exact ⟨rfl, hK _ _ rfl (fun j k _ _ => Reg.Adds.refl _ _ _)⟩
                  · intro val ac u hR hp ha K hK
                    obtain ⟨w37, h37, r37⟩ := hp 10 (by decide); have e37 : (ac.tmps[37]?).getD undef = .int .i64 x.cl := (ha 37 (by decide)).trans h37; obtain ⟨w39, h39, r39⟩ := hp 12 (by decide); have e39 : (ac.tmps[39]?).getD undef = .int .i64 e'.cl := (ha 39 (by decide)).trans h39; obtain ⟨w32, h32, r32⟩ := hp 5 (by decide); have e32 : (ac.tmps[32]?).getD undef = .bool true := (ha 32 (by decide)).trans h32; clear h37 h39 h32 ha hp
                    have hq := HQ2.out
                    refine Reg.Op1.guarded rfl rfl e32 (fun _ => Reg.Op1.plain rfl ?_) (fun h => absurd rfl h)
                    go_wp2
                    exact ⟨rfl, hK _ _ rfl (fun j k _ _ => Reg.Adds.refl _ _ _)⟩
                  · intro val ac u hR hp ha K hK
                    obtain ⟨w32, h32, r32⟩ := hp 5 (by decide); have e32 : (ac.tmps[32]?).getD undef = .bool true := (ha 32 (by decide)).trans h32; obtain ⟨w40, h40, r40⟩ := hp 13 (by decide); have e40 : (ac.tmps[40]?).getD undef = .bool true := (ha 40 (by decide)).trans h40; clear h32 h40 ha hp
                    refine Reg.Op1.plain rfl ?_
                    go_wp2
                    exact ⟨rfl, hK _ _ rfl (fun j k _ _ => Reg.Adds.refl _ _ _)⟩
                  · intro val ac u hR hp ha K hK
                    obtain ⟨w41, h41, r41⟩ := hp 14 (by decide); have e41 : (ac.tmps[41]?).getD undef = .bool true := (ha 41 (by decide)).trans h41; clear h41 ha hp
                    refine Reg.Op1.plain rfl ?_
                    go_wp2
                    exact ⟨rfl, hK _ _ rfl (fun j k _ _ => Reg.Adds.refl _ _ _)⟩
                  · intro val ac u hR hp ha K hK
                    have e0 : (ac.tmps[0]?).getD undef = .slice (some ⟨b, o, none⟩) h.length c := ha 0 (by decide); obtain ⟨w42, h42, r42⟩ := hp 15 (by decide); have e42 : (ac.tmps[42]?).getD undef = .bool true := (ha 42 (by decide)).trans h42; clear h42 ha hp
                    refine Reg.Op1.guarded rfl rfl e42 (fun _ => Reg.Op1.plain rfl ?_) (fun h => absurd rfl h)
                    go_wp2
                    exact ⟨rfl, hK _ _ rfl (fun j k _ _ => Reg.Adds.refl _ _ _)⟩
                  · intro val ac u hR hp ha K hK
                    have e10 : (ac.tmps[10]?).getD undef = .int .i64 k := ha 10 (by decide); obtain ⟨w42, h42, r42⟩ := hp 15 (by decide); have e42 : (ac.tmps[42]?).getD undef = .bool true := (ha 42 (by decide)).trans h42; clear h42 ha hp
                    refine Reg.Op1.guarded rfl rfl e42 (fun _ => Reg.Op1.plain rfl ?_) (fun h => absurd rfl h)
                    go_wp2
                    exact ⟨rfl, hK _ _ rfl (fun j k _ _ => Reg.Adds.refl _ _ _)⟩
                  · intro val ac u hR hp ha K hK
                    obtain ⟨w43, h43, r43⟩ := hp 16 (by decide); have e43 : (ac.tmps[43]?).getD undef = .slice (some ⟨b, o, none⟩) h.length c := (ha 43 (by decide)).trans h43; obtain ⟨w44, h44, r44⟩ := hp 17 (by decide); have e44 : (ac.tmps[44]?).getD undef = .int .i64 k := (ha 44 (by decide)).trans h44; obtain ⟨w42, h42, r42⟩ := hp 15 (by decide); have e42 : (ac.tmps[42]?).getD undef = .bool true := (ha 42 (by decide)).trans h42; clear h43 h44 h42 ha hp
                    refine Reg.Op1.guarded rfl rfl e42 (fun _ => Reg.Op1.plain rfl ?_) (fun h => absurd rfl h)
                    go_wp2
                    exact ⟨rfl, hK _ _ rfl (fun j k _ _ => Reg.Adds.refl _ _ _)⟩
                  · intro val ac u hR hp ha K hK
                    obtain ⟨w45, h45, r45⟩ := hp 18 (by decide); have e45 : (ac.tmps[45]?).getD undef = .pointer (some ⟨b, o + k * 20, none⟩) := (ha 45 (by decide)).trans h45; obtain ⟨w42, h42, r42⟩ := hp 15 (by decide); have e42 : (ac.tmps[42]?).getD undef = .bool true := (ha 42 (by decide)).trans h42; clear h45 h42 ha hp
                    refine Reg.Op1.guarded rfl rfl e42 (fun _ => Reg.Op1.plain rfl ?_) (fun h => absurd rfl h)
                    go_wp2
                    exact ⟨rfl, hK _ _ rfl (fun j k _ _ => Reg.Adds.refl _ _ _)⟩
                  · intro val ac u hR hp ha K hK
                    obtain ⟨w46, h46, r46⟩ := hp 19 (by decide); have e46 : (ac.tmps[46]?).getD undef = .pointer (some ⟨b, o + k * 20 + 1, none⟩) := (ha 46 (by decide)).trans h46; obtain ⟨w42, h42, r42⟩ := hp 15 (by decide); have e42 : (ac.tmps[42]?).getD undef = .bool true := (ha 42 (by decide)).trans h42; clear h46 h42 ha hp
                    refine Reg.Op1.guarded rfl rfl e42 (fun _ => Reg.Op1.plain rfl ?_) (fun h => absurd rfl h)
                    have x0 := (hR.cell (p := ⟨b, o + k * 20 + 1, none⟩) hbw).trans (HAT.out 1 _ rfl)
                    go_wp2
                    exact ⟨rfl, hK _ _ rfl (fun j k _ _ => Reg.Adds.refl _ _ _)⟩
                  · intro val ac u hR hp ha K hK
                    have e9 : (ac.tmps[9]?).getD undef = .pointer (some ⟨w.heap.size, 0, none⟩) := ha 9 (by decide); obtain ⟨w42, h42, r42⟩ := hp 15 (by decide); have e42 : (ac.tmps[42]?).getD undef = .bool true := (ha 42 (by decide)).trans h42; clear h42 ha hp
                    refine Reg.Op1.guarded rfl rfl e42 (fun _ => Reg.Op1.plain rfl ?_) (fun h => absurd rfl h)
                    go_wp2
                    exact ⟨rfl, hK _ _ rfl (fun j k _ _ => Reg.Adds.refl _ _ _)⟩
                  · intro val ac u hR hp ha K hK
                    obtain ⟨w48, h48, r48⟩ := hp 21 (by decide); have e48 : (ac.tmps[48]?).getD undef = .pointer (some ⟨w.heap.size, 1, none⟩) := (ha 48 (by decide)).trans h48; obtain ⟨w42, h42, r42⟩ := hp 15 (by decide); have e42 : (ac.tmps[42]?).getD undef = .bool true := (ha 42 (by decide)).trans h42; clear h48 h42 ha hp
                    refine Reg.Op1.guarded rfl rfl e42 (fun _ => Reg.Op1.plain rfl ?_) (fun h => absurd rfl h)
                    have x0 := (Mem.Bx.below (w := wr.drew) HE.out hR HE.out.lt).cell (j := 1) rfl
                    go_wp2
                    exact ⟨rfl, hK _ _ rfl (fun j k _ _ => Reg.Adds.refl _ _ _)⟩
                  · intro val ac u hR hp ha K hK
                    obtain ⟨w47, h47, r47⟩ := hp 20 (by decide); have e47 : (ac.tmps[47]?).getD undef = .int .i64 x.op := (ha 47 (by decide)).trans h47; obtain ⟨w49, h49, r49⟩ := hp 22 (by decide); have e49 : (ac.tmps[49]?).getD undef = .int .i64 e'.op := (ha 49 (by decide)).trans h49; obtain ⟨w42, h42, r42⟩ := hp 15 (by decide); have e42 : (ac.tmps[42]?).getD undef = .bool true := (ha 42 (by decide)).trans h42; clear h47 h49 h42 ha hp
                    have hq := HQ3.out
                    refine Reg.Op1.guarded rfl rfl e42 (fun _ => Reg.Op1.plain rfl ?_) (fun h => absurd rfl h)
                    go_wp2
                    exact ⟨rfl, hK _ _ rfl (fun j k _ _ => Reg.Adds.refl _ _ _)⟩
                  · intro val ac u hR hp ha K hK
                    obtain ⟨w42, h42, r42⟩ := hp 15 (by decide); have e42 : (ac.tmps[42]?).getD undef = .bool true := (ha 42 (by decide)).trans h42; obtain ⟨w50, h50, r50⟩ := hp 23 (by decide); have e50 : (ac.tmps[50]?).getD undef = .bool false := (ha 50 (by decide)).trans h50; clear h42 h50 ha hp
                    refine Reg.Op1.plain rfl ?_
                    go_wp2
                    exact ⟨rfl, hK _ _ rfl (fun j k _ _ => Reg.Adds.refl _ _ _)⟩
                intro val u hR H
                obtain ⟨wB, hv, rB⟩ := H 24 (by decide)
                have hv : val 24 = .bool false := hv
                have HKu : Hid (Below wr.heap.size wr u) := (Below.refl _ wr).drew.trans hR
                simp only [List.map_cons, List.map_nil, Reg.lay, Act.put, List.setIfInBounds_toArray, List.set_cons_succ, List.set_cons_zero, Nat.reduceAdd, hv]
                clear hR H hv rB
                obtain ⟨wy, hwy⟩ : ∃ z, z = u := ⟨_, rfl⟩
                subst hwy
                have HE4 : Hid (VBx wy w.heap.size e') := HE.out.below HKu.out HE.out.lt
                have HB4 : Hid (Below w.heap.size w wy) := HB.out.trans (HKu.out.mono HB.out.size)
                clear HE HB HKu HAT hbw
                go_wp2
                go_roundw
                case rel => exact ⟨⟨k + 1, HLT.out, by go_num, HN, HE4, HB4⟩⟩
                case measure => have := HLT.out; simp [intOf]; omega
              · have hyes : dupF e'.cl e'.op x = true := by unfold dupF; rw [hbg, h2, decide_eq_true (by simpa using h1)]; rfl
                obtain rfl : z = true := by rw [← HZ1.out, any_yes HXE.out HLT.out hyes, Bool.true_or]
                have HQ3 : Hid (decide (e'.op ≤ x.op) = true) := h2
                clear hbg h1 h2 hyes
                refine Reg.wp_region_rel (by kernel_rfl) 162 25 rfl rfl (by kernel_rfl) (Reg.Adds) (Reg.Adds.refl) (Reg.Adds.trans)
                  (fun i v u => match i with
                    | 0 => v = .slice (some ⟨b, o, none⟩) h.length c
                    | 1 => v = .int .i64 k
                    | 2 => v = .pointer (some ⟨b, o + k * 20, none⟩)
                    | 3 => v = .agg (evCells x).toArray
                    | 4 => v = .bool true
                    | 5 => v = .bool true
                    | 6 => v = .slice (some ⟨b, o, none⟩) h.length c
                    | 7 => v = .int .i64 k
                    | 8 => v = .pointer (some ⟨b, o + k * 20, none⟩)
                    | 9 => v = .pointer (some ⟨b, o + k * 20, none⟩)
                    | 10 => v = .int .i64 x.cl
                    | 11 => v = .pointer (some ⟨w.heap.size, 0, none⟩)
                    | 12 => v = .int .i64 e'.cl
                    | 13 => v = .bool true
                    | 14 => v = .bool true
                    | 15 => v = .bool true
                    | 16 => v = .slice (some ⟨b, o, none⟩) h.length c
                    | 17 => v = .int .i64 k
                    | 18 => v = .pointer (some ⟨b, o + k * 20, none⟩)
                    | 19 => v = .pointer (some ⟨b, o + k * 20 + 1, none⟩)
                    | 20 => v = .int .i64 x.op
                    | 21 => v = .pointer (some ⟨w.heap.size, 1, none⟩)
                    | 22 => v = .int .i64 e'.op
                    | 23 => v = .bool true
                    | 24 => v = .bool true
                    | _ => True) ?_ ?_
                · refine Reg.Steps.cons ?_ (Reg.Steps.cons ?_ (Reg.Steps.cons ?_ (Reg.Steps.cons ?_ (Reg.Steps.cons ?_ (Reg.Steps.cons ?_ (Reg.Steps.cons ?_ (Reg.Steps.cons ?_ (Reg.Steps.cons ?_ (Reg.Steps.cons ?_ (Reg.Steps.cons ?_ (Reg.Steps.cons ?_ (Reg.Steps.cons ?_ (Reg.Steps.cons ?_ (Reg.Steps.cons ?_ (Reg.Steps.cons ?_ (Reg.Steps.cons ?_ (Reg.Steps.cons ?_ (Reg.Steps.cons ?_ (Reg.Steps.cons ?_ (Reg.Steps.cons ?_ (Reg.Steps.cons ?_ (Reg.Steps.cons ?_ (Reg.Steps.cons ?_ (Reg.Steps.cons ?_ (Reg.Steps.nil _)))))))))))))))))))))))))
                  · intro val ac u hR hp ha K hK
                    have e0 : (ac.tmps[0]?).getD undef = .slice (some ⟨b, o, none⟩) h.length c := ha 0 (by decide); clear ha hp
                    refine Reg.Op1.plain rfl ?_
                    go_wp2
                    exact ⟨rfl, hK _ _ rfl (fun j k _ _ => Reg.Adds.refl _ _ _)⟩
                  · intro val ac u hR hp ha K hK
                    have e10 : (ac.tmps[10]?).getD undef = .int .i64 k := ha 10 (by decide); clear ha hp
                    refine Reg.Op1.plain rfl ?_
                    go_wp2
                    exact ⟨rfl, hK _ _ rfl (fun j k _ _ => Reg.Adds.refl _ _ _)⟩
                  · intro val ac u hR hp ha K hK
                    obtain ⟨w27, h27, r27⟩ := hp 0 (by decide); have e27 : (ac.tmps[27]?).getD undef = .slice (some ⟨b, o, none⟩) h.length c := (ha 27 (by decide)).trans h27; obtain ⟨w28, h28, r28⟩ := hp 1 (by decide); have e28 : (ac.tmps[28]?).getD undef = .int .i64 k := (ha 28 (by decide)).trans h28; clear h27 h28 ha hp
                    refine Reg.Op1.plain rfl ?_
                    go_wp2
                    exact ⟨rfl, hK _ _ rfl (fun j k _ _ => Reg.Adds.refl _ _ _)⟩
                  · intro val ac u hR hp ha K hK
                    obtain ⟨w29, h29, r29⟩ := hp 2 (by decide); have e29 : (ac.tmps[29]?).getD undef = .pointer (some ⟨b, o + k * 20, none⟩) := (ha 29 (by decide)).trans h29; clear h29 ha hp
                    refine Reg.Op1.plain rfl ?_
                    refine Mem.load_agg _ _ event_agg b (o + k * 20) (evCells x) (Reg.eval_of e29) (evCells_length _) (fun q u' hu => (hR.cell (p := ⟨b, o + k * 20 + q, none⟩) hbw).trans (HAT.out q u' hu)) ?_
                    exact ⟨rfl, hK _ _ rfl (fun j k _ _ => Reg.Adds.refl _ _ _)⟩
                  · intro val ac u hR hp ha K hK
                    obtain ⟨w30, h30, r30⟩ := hp 3 (by decide); have e30 : (ac.tmps[30]?).getD undef = .agg (evCells x).toArray := (ha 30 (by decide)).trans h30; clear h30 ha hp
                    refine Reg.Op1.plain rfl ?_
                    go_wp2_with fail
                    refine (beginning_any x u).mono ?_
                    rintro x' w' ⟨rfl, hbw⟩
                    rw [HBG.out]
                    go_wp2_with fail
                    exact ⟨rfl, hK _ _ rfl (fun j k _ _ => hbw)⟩
                  · intro val ac u hR hp ha K hK
                    obtain ⟨w31, h31, r31⟩ := hp 4 (by decide); have e31 : (ac.tmps[31]?).getD undef = .bool true := (ha 31 (by decide)).trans h31; clear h31 ha hp
                    refine Reg.Op1.plain rfl ?_
                    go_wp2
                    exact ⟨rfl, hK _ _ rfl (fun j k _ _ => Reg.Adds.refl _ _ _)⟩
                  · intro val ac u hR hp ha K hK
                    have e0 : (ac.tmps[0]?).getD undef = .slice (some ⟨b, o, none⟩) h.length c := ha 0 (by decide); obtain ⟨w32, h32, r32⟩ := hp 5 (by decide); have e32 : (ac.tmps[32]?).getD undef = .bool true := (ha 32 (by decide)).trans h32; clear h32 ha hp
                    refine Reg.Op1.guarded rfl rfl e32 (fun _ => Reg.Op1.plain rfl ?_) (fun h => absurd rfl h)
                    go_wp2
                    exact ⟨rfl, hK _ _ rfl (fun j k _ _ => Reg.Adds.refl _ _ _)⟩
                  · intro val ac u hR hp ha K hK
                    have e10 : (ac.tmps[10]?).getD undef = .int .i64 k := ha 10 (by decide); obtain ⟨w32, h32, r32⟩ := hp 5 (by decide); have e32 : (ac.tmps[32]?).getD undef = .bool true := (ha 32 (by decide)).trans h32; clear h32 ha hp
                    refine Reg.Op1.guarded rfl rfl e32 (fun _ => Reg.Op1.plain rfl ?_) (fun h => absurd rfl h)
                    go_wp2
                    exact ⟨rfl, hK _ _ rfl (fun j k _ _ => Reg.Adds.refl _ _ _)⟩
                  · intro val ac u hR hp ha K hK
                    obtain ⟨w33, h33, r33⟩ := hp 6 (by decide); have e33 : (ac.tmps[33]?).getD undef = .slice (some ⟨b, o, none⟩) h.length c := (ha 33 (by decide)).trans h33; obtain ⟨w34, h34, r34⟩ := hp 7 (by decide); have e34 : (ac.tmps[34]?).getD undef = .int .i64 k := (ha 34 (by decide)).trans h34; obtain ⟨w32, h32, r32⟩ := hp 5 (by decide); have e32 : (ac.tmps[32]?).getD undef = .bool true := (ha 32 (by decide)).trans h32; clear h33 h34 h32 ha hp
                    refine Reg.Op1.guarded rfl rfl e32 (fun _ => Reg.Op1.plain rfl ?_) (fun h => absurd rfl h)
                    go_wp2
                    exact ⟨rfl, hK _ _ rfl (fun j k _ _ => Reg.Adds.refl _ _ _)⟩
                  · intro val ac u hR hp ha K hK
                    obtain ⟨w35, h35, r35⟩ := hp 8 (by decide); have e35 : (ac.tmps[35]?).getD undef = .pointer (some ⟨b, o + k * 20, none⟩) := (ha 35 (by decide)).trans h35; obtain ⟨w32, h32, r32⟩ := hp 5 (by decide); have e32 : (ac.tmps[32]?).getD undef = .bool true := (ha 32 (by decide)).trans h32; clear h35 h32 ha hp
                    refine Reg.Op1.guarded rfl rfl e32 (fun _ => Reg.Op1.plain rfl ?_) (fun h => absurd rfl h)
                    go_wp2
                    exact ⟨rfl, hK _ _ rfl (fun j k _ _ => Reg.Adds.refl _ _ _)⟩
                  · intro val ac u hR hp ha K hK
                    obtain ⟨w36, h36, r36⟩ := hp 9 (by decide); have e36 : (ac.tmps[36]?).getD undef = .pointer (some ⟨b, o + k * 20, none⟩) := (ha 36 (by decide)).trans h36; obtain ⟨w32, h32, r32⟩ := hp 5 (by decide); have e32 : (ac.tmps[32]?).getD undef = .bool true := (ha 32 (by decide)).trans h32; clear h36 h32 ha hp
                    refine Reg.Op1.guarded rfl rfl e32 (fun _ => Reg.Op1.plain rfl ?_) (fun h => absurd rfl h)
                    have x0 := (hR.cell (p := ⟨b, o + k * 20, none⟩) hbw).trans (HAT.out 0 _ rfl)
                    go_wp2
                    exact ⟨rfl, hK _ _ rfl (fun j k _ _ => Reg.Adds.refl _ _ _)⟩
                  · intro val ac u hR hp ha K hK
                    have e9 : (ac.tmps[9]?).getD undef = .pointer (some ⟨w.heap.size, 0, none⟩) := ha 9 (by decide); obtain ⟨w32, h32, r32⟩ := hp 5 (by decide); have e32 : (ac.tmps[32]?).getD undef = .bool true := (ha 32 (by decide)).trans h32; clear h32 ha hp
                    refine Reg.Op1.guarded rfl rfl e32 (fun _ => Reg.Op1.plain rfl ?_) (fun h => absurd rfl h)
                    go_wp2
                    exact ⟨rfl, hK _ _ rfl (fun j k _ _ => Reg.Adds.refl _ _ _)⟩
                  · intro val ac u hR hp ha K hK
                    obtain ⟨w38, h38, r38⟩ := hp 11 (by decide); have e38 : (ac.tmps[38]?).getD undef = .pointer (some ⟨w.heap.size, 0, none⟩) := (ha 38 (by decide)).trans h38; obtain ⟨w32, h32, r32⟩ := hp 5 (by decide); have e32 : (ac.tmps[32]?).getD undef = .bool true := (ha 32 (by decide)).trans h32; clear h38 h32 ha hp
                    refine Reg.Op1.guarded rfl rfl e32 (fun _ => Reg.Op1.plain rfl ?_) (fun h => absurd rfl h)
                    have x0 := (Mem.Bx.below (w := wr.drew) HE.out hR HE.out.lt).cell (j := 0) rfl
                    go_wp2
                    exact ⟨rfl, hK _ _ rfl (fun j k _ _ => Reg.Adds.refl _ _ _)⟩
                  · intro val ac u hR hp ha K hK
                    obtain ⟨w37, h37, r37⟩ := hp 10 (by decide); have e37 : (ac.tmps[37]?).getD undef = .int .i64 x.cl := (ha 37 (by decide)).trans h37; obtain ⟨w39, h39, r39⟩ := hp 12 (by decide); have e39 : (ac.tmps[39]?).getD undef = .int .i64 e'.cl := (ha 39 (by decide)).trans h39; obtain ⟨w32, h32, r32⟩ := hp 5 (by decide); have e32 : (ac.tmps[32]?).getD undef = .bool true := (ha 32 (by decide)).trans h32; clear h37 h39 h32 ha hp
                    have hq := HQ2.out
                    refine Reg.Op1.guarded rfl rfl e32 (fun _ => Reg.Op1.plain rfl ?_) (fun h => absurd rfl h)
                    go_wp2
                    exact ⟨rfl, hK _ _ rfl (fun j k _ _ => Reg.Adds.refl _ _ _)⟩
                  · intro val ac u hR hp ha K hK
                    obtain ⟨w32, h32, r32⟩ := hp 5 (by decide); have e32 : (ac.tmps[32]?).getD undef = .bool true := (ha 32 (by decide)).trans h32; obtain ⟨w40, h40, r40⟩ := hp 13 (by decide); have e40 : (ac.tmps[40]?).getD undef = .bool true := (ha 40 (by decide)).trans h40; clear h32 h40 ha hp
                    refine Reg.Op1.plain rfl ?_
                    go_wp2
                    exact ⟨rfl, hK _ _ rfl (fun j k _ _ => Reg.Adds.refl _ _ _)⟩
                  · intro val ac u hR hp ha K hK
                    obtain ⟨w41, h41, r41⟩ := hp 14 (by decide); have e41 : (ac.tmps[41]?).getD undef = .bool true := (ha 41 (by decide)).trans h41; clear h41 ha hp
                    refine Reg.Op1.plain rfl ?_
                    go_wp2
                    exact ⟨rfl, hK _ _ rfl (fun j k _ _ => Reg.Adds.refl _ _ _)⟩
                  · intro val ac u hR hp ha K hK
                    have e0 : (ac.tmps[0]?).getD undef = .slice (some ⟨b, o, none⟩) h.length c := ha 0 (by decide); obtain ⟨w42, h42, r42⟩ := hp 15 (by decide); have e42 : (ac.tmps[42]?).getD undef = .bool true := (ha 42 (by decide)).trans h42; clear h42 ha hp
                    refine Reg.Op1.guarded rfl rfl e42 (fun _ => Reg.Op1.plain rfl ?_) (fun h => absurd rfl h)
                    go_wp2
                    exact ⟨rfl, hK _ _ rfl (fun j k _ _ => Reg.Adds.refl _ _ _)⟩
                  · intro val ac u hR hp ha K hK
                    have e10 : (ac.tmps[10]?).getD undef = .int .i64 k := ha 10 (by decide); obtain ⟨w42, h42, r42⟩ := hp 15 (by decide); have e42 : (ac.tmps[42]?).getD undef = .bool true := (ha 42 (by decide)).trans h42; clear h42 ha hp
                    refine Reg.Op1.guarded rfl rfl e42 (fun _ => Reg.Op1.plain rfl ?_) (fun h => absurd rfl h)
                    go_wp2
                    exact ⟨rfl, hK _ _ rfl (fun j k _ _ => Reg.Adds.refl _ _ _)⟩
                  · intro val ac u hR hp ha K hK
                    obtain ⟨w43, h43, r43⟩ := hp 16 (by decide); have e43 : (ac.tmps[43]?).getD undef = .slice (some ⟨b, o, none⟩) h.length c := (ha 43 (by decide)).trans h43; obtain ⟨w44, h44, r44⟩ := hp 17 (by decide); have e44 : (ac.tmps[44]?).getD undef = .int .i64 k := (ha 44 (by decide)).trans h44; obtain ⟨w42, h42, r42⟩ := hp 15 (by decide); have e42 : (ac.tmps[42]?).getD undef = .bool true := (ha 42 (by decide)).trans h42; clear h43 h44 h42 ha hp
                    refine Reg.Op1.guarded rfl rfl e42 (fun _ => Reg.Op1.plain rfl ?_) (fun h => absurd rfl h)
                    go_wp2
                    exact ⟨rfl, hK _ _ rfl (fun j k _ _ => Reg.Adds.refl _ _ _)⟩
                  · intro val ac u hR hp ha K hK
                    obtain ⟨w45, h45, r45⟩ := hp 18 (by decide); have e45 : (ac.tmps[45]?).getD undef = .pointer (some ⟨b, o + k * 20, none⟩) := (ha 45 (by decide)).trans h45; obtain ⟨w42, h42, r42⟩ := hp 15 (by decide); have e42 : (ac.tmps[42]?).getD undef = .bool true := (ha 42 (by decide)).trans h42; clear h45 h42 ha hp
                    refine Reg.Op1.guarded rfl rfl e42 (fun _ => Reg.Op1.plain rfl ?_) (fun h => absurd rfl h)
                    go_wp2
                    exact ⟨rfl, hK _ _ rfl (fun j k _ _ => Reg.Adds.refl _ _ _)⟩
                  · intro val ac u hR hp ha K hK
                    obtain ⟨w46, h46, r46⟩ := hp 19 (by decide); have e46 : (ac.tmps[46]?).getD undef = .pointer (some ⟨b, o + k * 20 + 1, none⟩) := (ha 46 (by decide)).trans h46; obtain ⟨w42, h42, r42⟩ := hp 15 (by decide); have e42 : (ac.tmps[42]?).getD undef = .bool true := (ha 42 (by decide)).trans h42; clear h46 h42 ha hp
                    refine Reg.Op1.guarded rfl rfl e42 (fun _ => Reg.Op1.plain rfl ?_) (fun h => absurd rfl h)
                    have x0 := (hR.cell (p := ⟨b, o + k * 20 + 1, none⟩) hbw).trans (HAT.out 1 _ rfl)
                    go_wp2
                    exact ⟨rfl, hK _ _ rfl (fun j k _ _ => Reg.Adds.refl _ _ _)⟩
                  · intro val ac u hR hp ha K hK
                    have e9 : (ac.tmps[9]?).getD undef = .pointer (some ⟨w.heap.size, 0, none⟩) := ha 9 (by decide); obtain ⟨w42, h42, r42⟩ := hp 15 (by decide); have e42 : (ac.tmps[42]?).getD undef = .bool true := (ha 42 (by decide)).trans h42; clear h42 ha hp
                    refine Reg.Op1.guarded rfl rfl e42 (fun _ => Reg.Op1.plain rfl ?_) (fun h => absurd rfl h)
                    go_wp2
                    exact ⟨rfl, hK _ _ rfl (fun j k _ _ => Reg.Adds.refl _ _ _)⟩
                  · intro val ac u hR hp ha K hK
                    obtain ⟨w48, h48, r48⟩ := hp 21 (by decide); have e48 : (ac.tmps[48]?).getD undef = .pointer (some ⟨w.heap.size, 1, none⟩) := (ha 48 (by decide)).trans h48; obtain ⟨w42, h42, r42⟩ := hp 15 (by decide); have e42 : (ac.tmps[42]?).getD undef = .bool true := (ha 42 (by decide)).trans h42; clear h48 h42 ha hp
                    refine Reg.Op1.guarded rfl rfl e42 (fun _ => Reg.Op1.plain rfl ?_) (fun h => absurd rfl h)
                    have x0 := (Mem.Bx.below (w := wr.drew) HE.out hR HE.out.lt).cell (j := 1) rfl
                    go_wp2
                    exact ⟨rfl, hK _ _ rfl (fun j k _ _ => Reg.Adds.refl _ _ _)⟩
                  · intro val ac u hR hp ha K hK
                    obtain ⟨w47, h47, r47⟩ := hp 20 (by decide); have e47 : (ac.tmps[47]?).getD undef = .int .i64 x.op := (ha 47 (by decide)).trans h47; obtain ⟨w49, h49, r49⟩ := hp 22 (by decide); have e49 : (ac.tmps[49]?).getD undef = .int .i64 e'.op := (ha 49 (by decide)).trans h49; obtain ⟨w42, h42, r42⟩ := hp 15 (by decide); have e42 : (ac.tmps[42]?).getD undef = .bool true := (ha 42 (by decide)).trans h42; clear h47 h49 h42 ha hp
                    have hq := HQ3.out
                    refine Reg.Op1.guarded rfl rfl e42 (fun _ => Reg.Op1.plain rfl ?_) (fun h => absurd rfl h)
                    go_wp2
                    exact ⟨rfl, hK _ _ rfl (fun j k _ _ => Reg.Adds.refl _ _ _)⟩
                  · intro val ac u hR hp ha K hK
                    obtain ⟨w42, h42, r42⟩ := hp 15 (by decide); have e42 : (ac.tmps[42]?).getD undef = .bool true := (ha 42 (by decide)).trans h42; obtain ⟨w50, h50, r50⟩ := hp 23 (by decide); have e50 : (ac.tmps[50]?).getD undef = .bool true := (ha 50 (by decide)).trans h50; clear h42 h50 ha hp
                    refine Reg.Op1.plain rfl ?_
                    go_wp2
                    exact ⟨rfl, hK _ _ rfl (fun j k _ _ => Reg.Adds.refl _ _ _)⟩
                intro val u hR H
                obtain ⟨wB, hv, rB⟩ := H 24 (by decide)
                have hv : val 24 = .bool true := hv
                have HKu : Hid (Below wr.heap.size wr u) := (Below.refl _ wr).drew.trans hR
                simp only [List.map_cons, List.map_nil, Reg.lay, Act.put, List.setIfInBounds_toArray, List.set_cons_succ, List.set_cons_zero, Nat.reduceAdd, hv]
                clear hR H hv rB
                obtain ⟨wy, hwy⟩ : ∃ z, z = u := ⟨_, rfl⟩
                subst hwy
                have HE4 : Hid (VBx wy w.heap.size e') := HE.out.below HKu.out HE.out.lt
                have HB4 : Hid (Below w.heap.size w wy) := HB.out.trans (HKu.out.mono HB.out.size)
                clear HE HB HKu HAT hbw
                go_wp2
                go_ret
                exact ⟨rfl, HB4.out⟩
        · obtain rfl : k = a := by omega
          have d0 : decide ((k : Int) < (k : Int)) = false := by simp
          obtain rfl : decide (0 ≤ und h e'.cl k) = z := by rw [← HZ1.out, HT.out, Bool.false_or]
          have HDW := Lib.hid (HD.out.below (HB.out.mono HD.out.le))
          have y0 : wr.cell? ⟨w.heap.size, 0, none⟩ = some (.int .i64 e'.cl) := HE.out.cell (j := 0) rfl
          have HUN := Lib.hid (under_any (c := c) HDW.out k (Nat.le_of_lt HHA.out) e'.cl)
          obtain ⟨uu, huu⟩ : ∃ q, und h e'.cl k = q := ⟨_, rfl⟩
          rw [huu] at HUN
          clear HZ1
          go_wp2_with (go_at_call 36; (refine HUN.out.mono ?_); rintro x w3 ⟨rfl, hb3⟩; have HB3 := Lib.hid (HB.out.trans (hb3.mono HB.out.size)); clear hb3)
          go_ret
          exact ⟨by rw [huu]; rfl, HB3.out⟩
  have n1 : (rule == 1) = false := by simpa using r1
  have y7 : w2.cell? ⟨w.heap.size, 7, none⟩ = some (.bool e'.fresh) := HE2.out.cell (j := 7) rfl
  have y8 : w2.cell? ⟨w.heap.size, 8, none⟩ = some (.bool e'.fin) := HE2.out.cell (j := 8) rfl
  cases hn : e'.fin
  · rw [hn] at y8
    obtain rfl : z = false := by rw [← HZ.out]; unfold brk; rw [if_neg r1, hn, if_pos (by simp)]
    clear hn
    go_wp2
    go_ret
    exact ⟨rfl, HB2.out⟩
  rw [hn] at y8
  cases hf : e'.fresh
  case true =>
    rw [hf] at y7
    obtain rfl : z = false := by rw [← HZ.out]; unfold brk; rw [if_neg r1, hf, if_pos (by simp)]
    clear hn hf
    go_wp2
    go_ret
    exact ⟨rfl, HB2.out⟩
  rw [hf] at y7
  have HZ1 : Hid ((if rule = 2 then dR2 h a e' else if rule = 3 then !dFits e' else if rule = 6 then !Vec.coversV e'.cut (lastC h e'.cl a) else if rule = 9 then !Vec.closedP e'.cut ws else e'.res.any (dW h ws a e' rule)) = z) := by
    show _ = _
    rw [← HZ.out]
    unfold brk
    rw [if_neg r1, hf, hn, if_neg (show ¬ ((!true || false) = true) by simp)]
  clear HZ hn hf r1
  by_cases r2 : rule = 2
  · subst r2
    rw [if_pos rfl] at HZ1
    have y0 : w2.cell? ⟨w.heap.size, 0, none⟩ = some (.int .i64 e'.cl) := HE2.out.cell (j := 0) rfl
    have HUN := Lib.hid (under_any (c := c) HD2.out a (Nat.le_of_lt HHA.out) e'.cl)
    obtain ⟨uu, huu⟩ : ∃ q, und h e'.cl a = q := ⟨_, rfl⟩
    have hlo := und_lo h e'.cl a
    have hhi := und_hi h e'.cl a
    rw [huu] at HUN hlo hhi
    have HUU := Lib.hid huu
    have HLO := Lib.hid hlo
    have HHI := Lib.hid hhi
    clear huu hlo hhi n1
    go_upto_region 16 with (go_at_call 36; (refine HUN.out.mono ?_); rintro x w4 ⟨rfl, hb3⟩; have HB4 := Lib.hid (HB2.out.trans (hb3.mono HB2.out.size)); have HE4 : Hid (VBx w4 w.heap.size e') := HE2.out.below hb3 HE2.out.lt; clear hb3)
    have HD4 := Lib.hid (HD.out.below (HB4.out.mono HD.out.le))
    clear HE2 HB2 HD2 HEB HUN y0 y7 y8
    by_cases hu : uu < 0
    · obtain rfl : z = true := by rw [← HZ1.out]; unfold dR2; rw [HUU.out, decide_eq_true hu, Bool.true_or]
      have hq1 : decide (uu < 0) = true := decide_eq_true hu
      clear hu
      go_wp2
      go_quiet (fail)
      go_wp2
      go_ret
      exact ⟨rfl, Mem.below_drewN HB4.out _⟩
    · obtain ⟨n, rfl⟩ : ∃ n : Nat, uu = (n : Int) := ⟨uu.toNat, by omega⟩
      have hnl : n < h.length := by have := HHI.out; have := HHA.out; omega
      obtain ⟨b3, o3, x, hA3, hb3, hx, hat⟩ := ev_elem HD4.out.H hnl
      obtain ⟨rfl, rfl⟩ : b = b3 ∧ o = o3 := by cases hA3; exact ⟨rfl, rfl⟩
      have hq1 : decide ((n : Int) < 0) = false := decide_eq_false hu
      have HZ2 : Hid ((decide (x.op ≠ e'.op) || (decide (x.kind ≠ e'.kind) || (decide (x.val ≠ e'.val) || !decide (x.keys = e'.keys)))) = z) := by
        show _ = _
        rw [← HZ1.out]
        unfold dR2
        rw [HUU.out, decide_eq_false hu, Bool.false_or, Int.toNat_natCast, hx]
      have hxm := HD4.out.E x (List.mem_of_getElem? hx)
      have hem := HD4.out.E e' (List.mem_of_getElem? HHE.out)
      have HWQ0 := words_q x.kA x.kc x.keys e'.kA e'.kc e'.keys w4.heap.size w4 (hxm.k.more HD4.out.le) (hem.k.more HD4.out.le) (Nat.le_refl _) (Nat.le_trans hxm.kl hxm.kn) (Nat.le_trans hem.kl hem.kn)
      have x1 : w4.cell? ⟨b, o + n * 20 + 1, none⟩ = some (.int .i64 x.op) := hat.c 1 _ rfl
      have x2 : w4.cell? ⟨b, o + n * 20 + 2, none⟩ = some (.int .i64 x.kind) := hat.c 2 _ rfl
      have x4 : w4.cell? ⟨b, o + n * 20 + 4, none⟩ = some (.string x.val) := hat.c 4 _ rfl
      have x3 : w4.cell? ⟨b, o + n * 20 + 3, none⟩ = some (.slice x.kA x.keys.length x.kc) := hat.c 3 _ rfl
      have v1 : w4.cell? ⟨w.heap.size, 1, none⟩ = some (.int .i64 e'.op) := HE4.out.cell (j := 1) rfl
      have v2 : w4.cell? ⟨w.heap.size, 2, none⟩ = some (.int .i64 e'.kind) := HE4.out.cell (j := 2) rfl
      have v4 : w4.cell? ⟨w.heap.size, 4, none⟩ = some (.string e'.val) := HE4.out.cell (j := 4) rfl
      have v3 : w4.cell? ⟨w.heap.size, 3, none⟩ = some (.slice e'.kA e'.keys.length e'.kc) := HE4.out.cell (j := 3) rfl
      obtain ⟨q, hq⟩ : ∃ q, decide (x.keys = e'.keys) = q := ⟨_, rfl⟩
      rw [hq] at HWQ0 HZ2
      have HWQ := Lib.hid HWQ0
      clear hx hat hA3 hu hxm hem HZ1 HUU HLO HHI HWQ0 hq
      by_cases h1 : x.op = e'.op
      case neg =>
        obtain rfl : z = true := by rw [← HZ2.out, decide_eq_true h1, Bool.true_or]
        have hq2 : (x.op != e'.op) = true := by simpa using h1
        have hq20 : (x.op == e'.op) = false := by simpa using h1
        clear h1 HZ2
        go_wp2
        go_quiet ((go_at_call 37; with_reducible exact HWQ.out _))
        go_wp2
        go_ret
        exact ⟨rfl, Mem.below_drewN HB4.out _⟩
      case pos =>
        have HH1 := Lib.hid h1
        have hq2 : (x.op == e'.op) = true := by simpa using h1
        by_cases h2 : x.kind = e'.kind
        case neg =>
          obtain rfl : z = true := by rw [← HZ2.out, decide_eq_true h2, Bool.true_or, Bool.or_true]
          have hq3 : (x.kind != e'.kind) = true := by simpa using h2
          have hq30 : (x.kind == e'.kind) = false := by simpa using h2
          rw [h1] at x1
          clear h1 h2 HZ2
          go_wp2
          go_quiet ((go_at_call 37; with_reducible exact HWQ.out _))
          go_wp2
          go_ret
          exact ⟨rfl, Mem.below_drewN HB4.out _⟩
        case pos =>
          have HH2 := Lib.hid h2
          by_cases h3 : x.val = e'.val
          case neg =>
            obtain rfl : z = true := by rw [← HZ2.out, decide_eq_true h3, Bool.true_or, Bool.or_true, Bool.or_true]
            have hq4 := Vec.str_ne h3
            rw [h1] at x1
            rw [h2] at x2
            clear h1 h2 h3 HZ2
            go_wp2
            go_quiet ((go_at_call 37; with_reducible exact HWQ.out _))
            go_wp2
            go_ret
            exact ⟨rfl, Mem.below_drewN HB4.out _⟩
          case pos =>
            have hq4 := Vec.str_eq h3
            rw [h1] at x1
            rw [h2] at x2
            cases q
            · obtain rfl : z = true := by rw [← HZ2.out]; simp
              clear h1 h2 h3 HZ2
              go_wp2
              go_quiet ((go_at_call 37; with_reducible exact HWQ.out _))
              go_wp2
              go_ret
              exact ⟨rfl, Mem.below_drewN HB4.out _⟩
            · obtain rfl : z = false := by rw [← HZ2.out, h1, h2, h3]; simp
              clear h1 h2 h3 HZ2
              go_wp2
              go_quiet ((go_at_call 37; with_reducible exact HWQ.out _))
              go_wp2
              go_ret
              exact ⟨rfl, Mem.below_drewN HB4.out _⟩
  have n2 : (rule == 2) = false := by simpa using r2
  rw [if_neg r2] at HZ1
  by_cases r3 : rule = 3
  · subst r3
    rw [if_pos rfl] at HZ1
    have HFT0 := fits_any (HD2.out.E e' (List.mem_of_getElem? HHE.out)) HD2.out.le
    obtain ⟨q, hq⟩ : ∃ q, dFits e' = q := ⟨_, rfl⟩
    rw [hq] at HFT0
    have HFT := Lib.hid HFT0
    obtain rfl : (!q) = z := by rw [← HZ1.out, hq]
    clear hq HFT0 HZ1 r2
    go_wp2_with (first
      | ((with_reducible refine Mem.load_agg _ _ event_agg w.heap.size 0 (evCells e') ?hx (evCells_length _) HEB.out ?_); case hx => exact rfl)
      | (go_at_call 38; (refine HFT.out.mono ?_); rintro x w3 ⟨rfl, hb3⟩; have HB3 := Lib.hid (HB2.out.trans (hb3.mono HB2.out.size)); clear hb3))
    go_ret
    exact ⟨rfl, HB3.out⟩
  have n3 : (rule == 3) = false := by simpa using r3
  rw [if_neg r3] at HZ1
  by_cases r6 : rule = 6
  · subst r6
    rw [if_pos rfl] at HZ1
    clear r2 r3
    go_upto_region 20 with fail
    cases hcv : Vec.coversV e'.cut (lastC h e'.cl a)
    · obtain rfl : z = true := by rw [← HZ1.out, hcv]; rfl
      have HCV := Lib.hid hcv
      clear hcv HZ1
      refine Reg.wp_region_rel (by kernel_rfl) 162 10 rfl rfl (by kernel_rfl) (Reg.Adds) (Reg.Adds.refl) (Reg.Adds.trans)
        (fun i v u => match i with
          | 0 => v = .pointer (some ⟨w.heap.size, 11, none⟩)
          | 1 => v = .agg (vcCells e'.cut).toArray
          | 2 => v = .slice (some ⟨b, o, none⟩) h.length c
          | 3 => v = .int .i64 (a : Int)
          | 4 => v = .pointer (some ⟨w.heap.size, 0, none⟩)
          | 5 => v = .int .i64 e'.cl
          | 6 => v = .agg (vcCells (lastC h e'.cl a)).toArray
          | 7 => v = .bool false
          | 8 => v = .bool true
          | 9 => v = .bool true
          | _ => True) ?_ ?_
      · refine Reg.Steps.cons ?_ (Reg.Steps.cons ?_ (Reg.Steps.cons ?_ (Reg.Steps.cons ?_ (Reg.Steps.cons ?_ (Reg.Steps.cons ?_ (Reg.Steps.cons ?_ (Reg.Steps.cons ?_ (Reg.Steps.cons ?_ (Reg.Steps.cons ?_ (Reg.Steps.nil _))))))))))
        · intro val ac u hR hp ha K hK
          have e9 : (ac.tmps[9]?).getD undef = .pointer (some ⟨w.heap.size, 0, none⟩) := ha 9 (by decide); clear ha hp
          refine Reg.Op1.plain rfl ?_
          go_wp2
          exact ⟨rfl, hK _ _ rfl (fun j k _ _ => Reg.Adds.refl _ _ _)⟩
        · intro val ac u hR hp ha K hK
          obtain ⟨w129, h129, r129⟩ := hp 0 (by decide); have e129 : (ac.tmps[129]?).getD undef = .pointer (some ⟨w.heap.size, 11, none⟩) := (ha 129 (by decide)).trans h129; clear h129 ha hp
          refine Reg.Op1.plain rfl ?_
          have hE := Mem.Bx.below (w := w2.drew) HE2.out hR HE2.out.lt
          refine Mem.load_agg _ _ vec_agg w.heap.size 11 (vcCells e'.cut) (Reg.eval_of e129) (vcCells_length _) (VBx.cut hE) ?_
          exact ⟨rfl, hK _ _ rfl (fun j k _ _ => Reg.Adds.refl _ _ _)⟩
        · intro val ac u hR hp ha K hK
          have e0 : (ac.tmps[0]?).getD undef = .slice (some ⟨b, o, none⟩) h.length c := ha 0 (by decide); clear ha hp
          refine Reg.Op1.plain rfl ?_
          go_wp2
          exact ⟨rfl, hK _ _ rfl (fun j k _ _ => Reg.Adds.refl _ _ _)⟩
        · intro val ac u hR hp ha K hK
          have e1 : (ac.tmps[1]?).getD undef = .int .i64 (a : Int) := ha 1 (by decide); clear ha hp
          refine Reg.Op1.plain rfl ?_
          go_wp2
          exact ⟨rfl, hK _ _ rfl (fun j k _ _ => Reg.Adds.refl _ _ _)⟩
        · intro val ac u hR hp ha K hK
          have e9 : (ac.tmps[9]?).getD undef = .pointer (some ⟨w.heap.size, 0, none⟩) := ha 9 (by decide); clear ha hp
          refine Reg.Op1.plain rfl ?_
          go_wp2
          exact ⟨rfl, hK _ _ rfl (fun j k _ _ => Reg.Adds.refl _ _ _)⟩
        · intro val ac u hR hp ha K hK
          obtain ⟨w133, h133, r133⟩ := hp 4 (by decide); have e133 : (ac.tmps[133]?).getD undef = .pointer (some ⟨w.heap.size, 0, none⟩) := (ha 133 (by decide)).trans h133; clear h133 ha hp
          refine Reg.Op1.plain rfl ?_
          have x0 := (Mem.Bx.below (w := w2.drew) HE2.out hR HE2.out.lt).cell (j := 0) rfl
          go_wp2
          exact ⟨rfl, hK _ _ rfl (fun j k _ _ => Reg.Adds.refl _ _ _)⟩
        · intro val ac u hR hp ha K hK
          obtain ⟨w131, h131, r131⟩ := hp 2 (by decide); have e131 : (ac.tmps[131]?).getD undef = .slice (some ⟨b, o, none⟩) h.length c := (ha 131 (by decide)).trans h131; obtain ⟨w132, h132, r132⟩ := hp 3 (by decide); have e132 : (ac.tmps[132]?).getD undef = .int .i64 (a : Int) := (ha 132 (by decide)).trans h132; obtain ⟨w134, h134, r134⟩ := hp 5 (by decide); have e134 : (ac.tmps[134]?).getD undef = .int .i64 e'.cl := (ha 134 (by decide)).trans h134; clear h131 h132 h134 ha hp
          refine Reg.Op1.plain rfl ?_
          have hDu := HD2.out.below (((Below.refl w2.heap.size w2).drew.trans hR).mono HD2.out.le)
          go_wp2_with fail
          refine (lastCut_any hDu a (Nat.le_of_lt HHA.out) e'.cl).mono ?_
          rintro x' w' ⟨rfl, hbw⟩
          go_wp2_with fail
          exact ⟨rfl, hK _ _ rfl (fun j k _ _ => hbw)⟩
        · intro val ac u hR hp ha K hK
          obtain ⟨w130, h130, r130⟩ := hp 1 (by decide); have e130 : (ac.tmps[130]?).getD undef = .agg (vcCells e'.cut).toArray := (ha 130 (by decide)).trans h130; obtain ⟨w135, h135, r135⟩ := hp 6 (by decide); have e135 : (ac.tmps[135]?).getD undef = .agg (vcCells (lastC h e'.cl a)).toArray := (ha 135 (by decide)).trans h135; clear h130 h135 ha hp
          refine Reg.Op1.plain rfl ?_
          go_wp2_with fail
          refine (refCovers_any e'.cut (lastC h e'.cl a) u).mono ?_
          rintro x' w' ⟨rfl, hbw⟩
          rw [HCV.out]
          go_wp2_with fail
          exact ⟨rfl, hK _ _ rfl (fun j k _ _ => hbw)⟩
        · intro val ac u hR hp ha K hK
          obtain ⟨w136, h136, r136⟩ := hp 7 (by decide); have e136 : (ac.tmps[136]?).getD undef = .bool false := (ha 136 (by decide)).trans h136; clear h136 ha hp
          refine Reg.Op1.plain rfl ?_
          go_wp2
          exact ⟨rfl, hK _ _ rfl (fun j k _ _ => Reg.Adds.refl _ _ _)⟩
        · intro val ac u hR hp ha K hK
          obtain ⟨w137, h137, r137⟩ := hp 8 (by decide); have e137 : (ac.tmps[137]?).getD undef = .bool true := (ha 137 (by decide)).trans h137; clear h137 ha hp
          refine Reg.Op1.plain rfl ?_
          go_wp2
          exact ⟨rfl, hK _ _ rfl (fun j k _ _ => Reg.Adds.refl _ _ _)⟩
      · intro val u hR H
        obtain ⟨_, hv, _⟩ := H 9 (by decide)
        have hv : val 9 = .bool true := hv
        have HKu : Hid (Below w2.heap.size w2 u) := (Below.refl _ w2).drew.trans hR
        simp only [List.map_cons, List.map_nil, Reg.lay, Act.put, List.setIfInBounds_toArray, List.set_cons_succ, List.set_cons_zero, Nat.reduceAdd, hv]
        clear hR H hv
        go_wp2
        go_ret
        exact ⟨rfl, HB2.out.trans (HKu.out.mono HB2.out.size)⟩
    · obtain rfl : z = false := by rw [← HZ1.out, hcv]; rfl
      have HCV := Lib.hid hcv
      clear hcv HZ1
      refine Reg.wp_region_rel (by kernel_rfl) 162 10 rfl rfl (by kernel_rfl) (Reg.Adds) (Reg.Adds.refl) (Reg.Adds.trans)
        (fun i v u => match i with
          | 0 => v = .pointer (some ⟨w.heap.size, 11, none⟩)
          | 1 => v = .agg (vcCells e'.cut).toArray
          | 2 => v = .slice (some ⟨b, o, none⟩) h.length c
          | 3 => v = .int .i64 (a : Int)
          | 4 => v = .pointer (some ⟨w.heap.size, 0, none⟩)
          | 5 => v = .int .i64 e'.cl
          | 6 => v = .agg (vcCells (lastC h e'.cl a)).toArray
          | 7 => v = .bool true
          | 8 => v = .bool false
          | 9 => v = .bool false
          | _ => True) ?_ ?_
      · refine Reg.Steps.cons ?_ (Reg.Steps.cons ?_ (Reg.Steps.cons ?_ (Reg.Steps.cons ?_ (Reg.Steps.cons ?_ (Reg.Steps.cons ?_ (Reg.Steps.cons ?_ (Reg.Steps.cons ?_ (Reg.Steps.cons ?_ (Reg.Steps.cons ?_ (Reg.Steps.nil _))))))))))
        · intro val ac u hR hp ha K hK
          have e9 : (ac.tmps[9]?).getD undef = .pointer (some ⟨w.heap.size, 0, none⟩) := ha 9 (by decide); clear ha hp
          refine Reg.Op1.plain rfl ?_
          go_wp2
          exact ⟨rfl, hK _ _ rfl (fun j k _ _ => Reg.Adds.refl _ _ _)⟩
        · intro val ac u hR hp ha K hK
          obtain ⟨w129, h129, r129⟩ := hp 0 (by decide); have e129 : (ac.tmps[129]?).getD undef = .pointer (some ⟨w.heap.size, 11, none⟩) := (ha 129 (by decide)).trans h129; clear h129 ha hp
          refine Reg.Op1.plain rfl ?_
          have hE := Mem.Bx.below (w := w2.drew) HE2.out hR HE2.out.lt
          refine Mem.load_agg _ _ vec_agg w.heap.size 11 (vcCells e'.cut) (Reg.eval_of e129) (vcCells_length _) (VBx.cut hE) ?_
          exact ⟨rfl, hK _ _ rfl (fun j k _ _ => Reg.Adds.refl _ _ _)⟩
        · intro val ac u hR hp ha K hK
          have e0 : (ac.tmps[0]?).getD undef = .slice (some ⟨b, o, none⟩) h.length c := ha 0 (by decide); clear ha hp
          refine Reg.Op1.plain rfl ?_
          go_wp2
          exact ⟨rfl, hK _ _ rfl (fun j k _ _ => Reg.Adds.refl _ _ _)⟩
        · intro val ac u hR hp ha K hK
          have e1 : (ac.tmps[1]?).getD undef = .int .i64 (a : Int) := ha 1 (by decide); clear ha hp
          refine Reg.Op1.plain rfl ?_
          go_wp2
          exact ⟨rfl, hK _ _ rfl (fun j k _ _ => Reg.Adds.refl _ _ _)⟩
        · intro val ac u hR hp ha K hK
          have e9 : (ac.tmps[9]?).getD undef = .pointer (some ⟨w.heap.size, 0, none⟩) := ha 9 (by decide); clear ha hp
          refine Reg.Op1.plain rfl ?_
          go_wp2
          exact ⟨rfl, hK _ _ rfl (fun j k _ _ => Reg.Adds.refl _ _ _)⟩
        · intro val ac u hR hp ha K hK
          obtain ⟨w133, h133, r133⟩ := hp 4 (by decide); have e133 : (ac.tmps[133]?).getD undef = .pointer (some ⟨w.heap.size, 0, none⟩) := (ha 133 (by decide)).trans h133; clear h133 ha hp
          refine Reg.Op1.plain rfl ?_
          have x0 := (Mem.Bx.below (w := w2.drew) HE2.out hR HE2.out.lt).cell (j := 0) rfl
          go_wp2
          exact ⟨rfl, hK _ _ rfl (fun j k _ _ => Reg.Adds.refl _ _ _)⟩
        · intro val ac u hR hp ha K hK
          obtain ⟨w131, h131, r131⟩ := hp 2 (by decide); have e131 : (ac.tmps[131]?).getD undef = .slice (some ⟨b, o, none⟩) h.length c := (ha 131 (by decide)).trans h131; obtain ⟨w132, h132, r132⟩ := hp 3 (by decide); have e132 : (ac.tmps[132]?).getD undef = .int .i64 (a : Int) := (ha 132 (by decide)).trans h132; obtain ⟨w134, h134, r134⟩ := hp 5 (by decide); have e134 : (ac.tmps[134]?).getD undef = .int .i64 e'.cl := (ha 134 (by decide)).trans h134; clear h131 h132 h134 ha hp
          refine Reg.Op1.plain rfl ?_
          have hDu := HD2.out.below (((Below.refl w2.heap.size w2).drew.trans hR).mono HD2.out.le)
          go_wp2_with fail
          refine (lastCut_any hDu a (Nat.le_of_lt HHA.out) e'.cl).mono ?_
          rintro x' w' ⟨rfl, hbw⟩
          go_wp2_with fail
          exact ⟨rfl, hK _ _ rfl (fun j k _ _ => hbw)⟩
        · intro val ac u hR hp ha K hK
          obtain ⟨w130, h130, r130⟩ := hp 1 (by decide); have e130 : (ac.tmps[130]?).getD undef = .agg (vcCells e'.cut).toArray := (ha 130 (by decide)).trans h130; obtain ⟨w135, h135, r135⟩ := hp 6 (by decide); have e135 : (ac.tmps[135]?).getD undef = .agg (vcCells (lastC h e'.cl a)).toArray := (ha 135 (by decide)).trans h135; clear h130 h135 ha hp
          refine Reg.Op1.plain rfl ?_
          go_wp2_with fail
          refine (refCovers_any e'.cut (lastC h e'.cl a) u).mono ?_
          rintro x' w' ⟨rfl, hbw⟩
          rw [HCV.out]
          go_wp2_with fail
          exact ⟨rfl, hK _ _ rfl (fun j k _ _ => hbw)⟩
        · intro val ac u hR hp ha K hK
          obtain ⟨w136, h136, r136⟩ := hp 7 (by decide); have e136 : (ac.tmps[136]?).getD undef = .bool true := (ha 136 (by decide)).trans h136; clear h136 ha hp
          refine Reg.Op1.plain rfl ?_
          go_wp2
          exact ⟨rfl, hK _ _ rfl (fun j k _ _ => Reg.Adds.refl _ _ _)⟩
        · intro val ac u hR hp ha K hK
          obtain ⟨w137, h137, r137⟩ := hp 8 (by decide); have e137 : (ac.tmps[137]?).getD undef = .bool false := (ha 137 (by decide)).trans h137; clear h137 ha hp
          refine Reg.Op1.plain rfl ?_
          go_wp2
          exact ⟨rfl, hK _ _ rfl (fun j k _ _ => Reg.Adds.refl _ _ _)⟩
      · intro val u hR H
        obtain ⟨_, hv, _⟩ := H 9 (by decide)
        have hv : val 9 = .bool false := hv
        have HKu : Hid (Below w2.heap.size w2 u) := (Below.refl _ w2).drew.trans hR
        simp only [List.map_cons, List.map_nil, Reg.lay, Act.put, List.setIfInBounds_toArray, List.set_cons_succ, List.set_cons_zero, Nat.reduceAdd, hv]
        clear hR H hv
        go_wp2
        go_ret
        exact ⟨rfl, HB2.out.trans (HKu.out.mono HB2.out.size)⟩
  have n6 : (rule == 6) = false := by simpa using r6
  rw [if_neg r6] at HZ1
  by_cases r9 : rule = 9
  · subst r9
    rw [if_pos rfl] at HZ1
    have HCL0 := refClosed_any e'.cut A2 c2 ws B w2 HD2.out.W HD2.out.le HD2.out.wn
    obtain ⟨q, hq⟩ : ∃ q, Vec.closedP e'.cut ws = q := ⟨_, rfl⟩
    rw [hq] at HCL0
    have HCL := Lib.hid HCL0
    obtain rfl : (!q) = z := by rw [← HZ1.out, hq]
    have HCT : Hid (∀ j u, (vcCells e'.cut)[j]? = some u → w2.cell? ⟨w.heap.size, 11 + j, none⟩ = some u) := VBx.cut HE2.out
    clear hq HCL0 HZ1 r2 r3 r6
    go_wp2_with (first
      | ((with_reducible refine Mem.load_agg _ _ vec_agg w.heap.size 11 (vcCells e'.cut) ?hx (vcCells_length _) HCT.out ?_); case hx => exact rfl)
      | (go_at_call 18; (refine HCL.out.mono ?_); rintro x w3 ⟨rfl, hb3⟩; have HB3 := Lib.hid (HB2.out.trans (hb3.mono HB2.out.size)); clear hb3))
    go_ret
    exact ⟨rfl, HB3.out⟩
  have n9 : (rule == 9) = false := by simpa using r9
  rw [if_neg r9] at HZ1
  clear r2 r3 r6 r9
  have hrm : e'.res.length ≤ 9223372036854775807 := by have h1 := HD2.out.E e' (List.mem_of_getElem? HHE.out); exact Nat.le_trans h1.rl h1.rn
  go_upto_region 23 with fail
  clear y7 y8
  go_wp2
  go_loopw [12] (BwRel w e' (dW h ws a e' rule)) (fun t _ => e'.res.length - (intOf t).toNat)
  case atStart => exact ⟨⟨0, by omega, rfl, rfl, HE2, HB2⟩⟩
  case round =>
    clear HE2 HB2 HD2 HEB
    obtain ⟨k, hk, rfl, HT, HE, HB⟩ := hrel.out
    clear hrel
    have HDW := Lib.hid (HD.out.below (HB.out.mono HD.out.le))
    have y10 : wr.cell? ⟨w.heap.size, 10, none⟩ = some (.slice e'.rA e'.res.length e'.rc) := HE.out.cell (j := 10) rfl
    by_cases hlt : k < e'.res.length
    · have hrr := (HDW.out.E e' (List.mem_of_getElem? HHE.out)).r
      obtain ⟨b3, o3, r, hA3, hb3, hr, hat⟩ := rs_elemR hrr hlt
      have d0 : decide ((k : Int) < (e'.res.length : Int)) = true := by simp; omega
      have HHR := Lib.hid hr
      have HLT := Lib.hid hlt
      have HAT := Lib.hid hat
      rw [hA3] at y10
      have HWR0 := wrong_any (c := c) (c2 := c2) HDW.out a HHA.out e' HHE.out rule r
      obtain ⟨q, hq⟩ : ∃ q, dW h ws a e' rule r = q := ⟨_, rfl⟩
      rw [hq] at HWR0
      have HWR := Lib.hid HWR0
      clear hr hat hA3 hrr HWR0
      cases q
      · have HN : Hid ((e'.res.take (k + 1)).any (dW h ws a e' rule) = false) := by show _ = _; rw [rany_snoc HHR.out, HT.out, hq]; rfl
        clear hq
        go_wp2_with (first
          | ((with_reducible refine Mem.load_agg _ _ result_agg b3 (o3 + k * 22) (rsCells r) ?hx (rsCells_length _) HAT.out ?_); case hx => exact rfl)
          | (go_at_call 40; (refine HWR.out.mono ?_); rintro x w3 ⟨rfl, hb3⟩; have HB3 := Lib.hid (HB.out.trans (hb3.mono HB.out.size)); have HE3 : Hid (VBx w3 w.heap.size e') := HE.out.below hb3 HE.out.lt; clear hb3))
        go_roundw
        case rel => exact ⟨⟨k + 1, HLT.out, by go_num, HN, HE3, HB3⟩⟩
        case measure => have := HLT.out; simp [intOf]; omega
      · obtain rfl : z = true := by rw [← HZ1.out]; exact rany_yes HHR.out hq
        clear hq
        go_wp2_with (first
          | ((with_reducible refine Mem.load_agg _ _ result_agg b3 (o3 + k * 22) (rsCells r) ?hx (rsCells_length _) HAT.out ?_); case hx => exact rfl)
          | (go_at_call 40; (refine HWR.out.mono ?_); rintro x w3 ⟨rfl, hb3⟩; have HB3 := Lib.hid (HB.out.trans (hb3.mono HB.out.size)); clear hb3))
        go_ret
        exact ⟨rfl, HB3.out⟩
    · obtain rfl : k = e'.res.length := by omega
      have d0 : decide ((e'.res.length : Int) < (e'.res.length : Int)) = false := by simp
      obtain rfl : z = false := by have h1 := HT.out; rw [List.take_length] at h1; rw [← HZ1.out]; exact h1
      go_wp2
      go_ret
      exact ⟨rfl, HB.out⟩
end Go.Proofs.Ytelephoalpphkaa
end
section
/- The document's Check; the walk of AuditChecks. No conditions. -/
set_option maxRecDepth 8000
namespace Go.Proofs.Ytelephoalpphkaa
open Go.ChangeShapes Go.WideShapes Go.ChangeAt Go.RowKit
set_option linter.unusedVariables false
set_option linter.unusedSimpArgs false
namespace Au
theorem brks_succ (h : List Ev) (ws : List Vec.Ent) (j : Nat) (e : Ev) (n : Nat) : brks h ws j e (n + 1) = brks h ws j e n ++ (if brk h ws j e ((n : Int) + 1) = true then [⟨j, (n : Int) + 1⟩] else []) := by
  unfold brks
  rw [List.range_succ, List.filter_append, List.map_append, List.filter_cons]
  by_cases hb : brk h ws j e ((n : Int) + 1) = true
  · rw [if_pos hb, if_pos hb]; rfl
  · rw [if_neg hb, if_neg hb]; rfl
theorem brks_le (h : List Ev) (ws : List Vec.Ent) (j : Nat) (e : Ev) (n : Nat) : (brks h ws j e n).length ≤ n := by
  unfold brks
  rw [List.length_map]
  exact Nat.le_trans (List.length_filter_le _ _) (Nat.le_of_eq List.length_range)
theorem docC_le (h : List Ev) (ws : List Vec.Ent) : ∀ j, (docC h ws j).length ≤ 9 * j
  | 0 => Nat.le_refl _
  | j + 1 => by
    have ih := docC_le h ws j
    unfold docC
    split
    · omega
    · rename_i e he
      have := brks_le h ws j e 9
      rw [List.length_append]
      omega
structure DkRel (w : World) (h : List Ev) (ws : List Vec.Ent) (v5 vi : Value) (wr : World) : Prop where
  out : ∃ (j : Nat) (X : Option Addr) (c : Nat), j ≤ h.length ∧ v5 = .slice X (docC h ws j).length c ∧ vi = .int .i64 j ∧ Hid (Mem.Own wr 50 2 X (docC h ws j).length c ((docC h ws j).flatMap fiCells)) ∧ Hid (Mem.From w.heap.size X) ∧ Hid (Below w.heap.size w wr)
structure DiRel (w : World) (l : List Fi) (n : Nat) (F : Nat → List Fi) (v5 vi : Value) (wr : World) : Prop where
  out : ∃ (k : Nat) (X : Option Addr) (c : Nat), k ≤ 9 ∧ v5 = .slice X (l ++ F k).length c ∧ vi = .int .i64 ((k : Int) + 1) ∧ Hid (Mem.Own wr 50 2 X (l ++ F k).length c ((l ++ F k).flatMap fiCells)) ∧ Hid (Mem.From w.heap.size X) ∧ Hid (Below w.heap.size w wr)
end Au
open Au in
set_option maxHeartbeats 8000000 in
theorem refCheck_any {w : World} {A : Option Addr} {c : Nat} {h : List Au.Ev} {A2 : Option Addr} {c2 : Nat} {ws : List Vec.Ent} {B : Nat} (d : Au.Dx w B A h A2 ws) :
    Calls Try.prog 14 #[.slice A h.length c, .slice A2 ws.length c2] w fun x w' => ∃ X c, x = .returned (.slice X (Au.findL h ws).length c) ∧ Mem.Own w' 50 2 X (Au.findL h ws).length c ((Au.findL h ws).flatMap Au.fiCells) ∧ Mem.From w.heap.size X ∧ Below w.heap.size w w' := by
  rw [← doc_finds]
  have hn6 := d.n
  have HD := Lib.hid d
  clear d
  go_enter Try.func14, Try.ntmps14
  go_wp2
  go_loopw [5, 6] (DkRel w h ws) (fun _ t _ => h.length - (intOf t).toNat)
  case atStart => exact ⟨⟨0, none, 0, by omega, rfl, rfl, Mem.Own.nil _ _ _, Mem.From.none_ _, Below.refl _ _⟩⟩
  case round =>
    obtain ⟨j, X, cx, hj, rfl, rfl, HO, HF, HB⟩ := hrel.out
    clear hrel
    by_cases hlt : j < h.length
    · obtain ⟨e, he⟩ : ∃ e, h[j]? = some e := ⟨_, List.getElem?_eq_getElem hlt⟩
      have d0 : decide ((j : Int) < (h.length : Int)) = true := by simp; omega
      have HHE := Lib.hid he
      have HLT := Lib.hid hlt
      have HDS := Lib.hid (docC_succ (ws := ws) he)
      have HLE := Lib.hid (docC_le h ws j)
      obtain ⟨l, hl⟩ : ∃ z, docC h ws j = z := ⟨_, rfl⟩
      rw [hl] at HO HDS HLE ⊢
      obtain ⟨F, hF⟩ : ∃ F : Nat → List Fi, F = brks h ws j e := ⟨_, rfl⟩
      have HFF := Lib.hid hF
      clear he hl hF
      go_wp2
      rename World => wy
      go_loopw [5, 7] (DiRel w l 9 F) (fun _ t _ => 10 - (intOf t).toNat)
      case atStart => exact ⟨⟨0, X, cx, by omega, by rw [HFF.out]; show _ = Value.slice X (l ++ []).length cx; rw [List.append_nil], rfl, by rw [HFF.out]; show Hid (Mem.Own _ _ _ _ (l ++ []).length _ ((l ++ []).flatMap fiCells)); rw [List.append_nil]; exact HO, HF, HB⟩⟩
      case round =>
        clear HO HF HB
        obtain ⟨k, Y, cy, hk, rfl, rfl, HO, HF, HB⟩ := hrel.out
        clear hrel
        have HFL : Hid ((l ++ F k).length + 1 ≤ 9000010) := by
          have h1 := HLE.out
          have h2 := brks_le h ws j e k
          rw [← HFF.out] at h2
          show _ ≤ _
          rw [List.length_append]
          have h3 := HLT.out
          omega
        by_cases hk9 : k < 9
        · have d1 : decide ((k : Int) + 1 ≤ 9) = true := by simp; omega
          have HDW := Lib.hid (HD.out.below (HB.out.mono HD.out.le))
          have hbr0 := broken_any (c := c) (c2 := c2) HDW.out j HLT.out e HHE.out ((k : Int) + 1)
          obtain ⟨q, hq⟩ : ∃ q, brk h ws j e ((k : Int) + 1) = q := ⟨_, rfl⟩
          have hs := brks_succ h ws j e k
          rw [hq] at hbr0 hs
          rw [← HFF.out] at hs
          have HBR := Lib.hid hbr0
          have HS := Lib.hid hs
          have HK9 := Lib.hid hk9
          clear hbr0 hs hq
          cases q
          · have HS2 : Hid (F (k + 1) = F k) := by show _ = _; rw [HS.out, if_neg (by simp), List.append_nil]
            clear HS
            go_wp2_with (go_at_call 23; (refine HBR.out.mono ?_); rintro x w3 ⟨rfl, hb3⟩; have HO3 := Lib.hid (HO.out.below hb3 (fun q hq => HO.out.lt hq)); have HB3 := Lib.hid (HB.out.trans (hb3.mono HB.out.size)); clear hb3)
            go_roundw
            case rel => exact ⟨⟨k + 1, Y, cy, HK9.out, by rw [HS2.out, List.length_append], by go_num, by rw [HS2.out]; exact HO3, HF, HB3⟩⟩
            case measure => have := HK9.out; simp [intOf]; omega
          · have HS2 : Hid (F (k + 1) = F k ++ [⟨j, (k : Int) + 1⟩]) := by show _ = _; rw [HS.out, if_pos rfl]
            have HOL : Hid ((l ++ F k).length = l.length + (F k).length) := List.length_append
            have hn63 : (l ++ F k).length + 1 ≤ maxLen := by have := HFL.out; unfold maxLen; omega
            have hn47 : ((l ++ F k).length + 1) * 16 ≤ 140737488355328 := by have := HFL.out; omega
            rw [HOL.out] at hn63 hn47
            clear HS
            go_upto_region 7 with (first
              | (go_at_call 23; (refine HBR.out.mono ?_); rintro x w3 ⟨rfl, hb3⟩; have HO3 := Lib.hid (HO.out.below hb3 (fun q hq => HO.out.lt hq)); rw [HOL.out] at HO3; have HB3 := Lib.hid (HB.out.trans (hb3.mono HB.out.size)); clear hb3)
              | ((with_reducible refine Mem.build1_agg _ _ 2 _ Try.underlying36 finding_zero (by decide) (by decide) (fiCells ⟨j, (k : Int) + 1⟩) ?hra (fiCells_length _) ?_); (case hra => exact rfl))
              | (at_builtin; refine Mem.wpList_app _ rfl (.tmp 23) (.tmp 27) _ rfl findings_elem Y (l.length + (F k).length) cy _ rfl (w3.heap.size + 1) (some ⟨w3.heap.size, 0, none⟩) 1 1 (fiCells ⟨j, (k : Int) + 1⟩) rfl ?_ (HO3.out.alloc _) (Mem.Rd.alloc_new w3 _ _ _ rfl) rfl (fi_one _) hn63 hn47; intro Y3 c3 w9 hown hg4 hat9; have HO9 := Lib.hid hown; have HG9 := Lib.hid hg4; have HAT9 := Lib.hid hat9; clear hown hg4 hat9))
            have hk9' : Mem.Keeps (fun q => Mem.blk Y = some q) w3 w9 := ((Mem.Keeps.refl (fun q => Mem.blk Y = some q) w3).alloc _).grown HG9.out (fun k hk _ => hk)
            have hz9 : (w3.alloc (.cells (fiCells ⟨j, (k : Int) + 1⟩).toArray 50)).heap.size = w3.heap.size + 1 := Array.size_push _
            have HB9 : Hid (Below w.heap.size w w9) := HB3.out.trans (hk9'.below (fun q hq => HF.out.blk q hq) HB3.out.size)
            have HF9 : Hid (Mem.From w.heap.size Y3) := by
              rcases HAT9.out with h1 | h1
              · rw [h1]; exact HF.out
              · rw [h1]
                have h2 := HB3.out.size
                exact Mem.From.some_ (by omega)
            have e1 : (l ++ F (k + 1)).length = l.length + (F k).length + 1 := by rw [HS2.out, ← List.append_assoc, List.length_append, HOL.out]; rfl
            have HO10 : Hid (Mem.Own w9 50 2 Y3 (l ++ F (k + 1)).length c3 ((l ++ F (k + 1)).flatMap fiCells)) := by
              show Mem.Own _ _ _ _ _ _ _
              rw [e1, HS2.out, ← List.append_assoc, List.flatMap_append]
              exact HO9.out
            have e3 : l.length + (F k).length + 1 = (l ++ F (k + 1)).length := e1.symm
            have E1 := Lib.hid e1
            have E3 := Lib.hid e3
            clear hk9' hz9 e1 e3 HO9 HG9 HAT9 hn63 hn47 HO3 HB3
            go_wp2
            go_roundw
            case rel => exact ⟨⟨k + 1, Y3, c3, HK9.out, by rw [E1.out], by go_num, HO10, HF9, HB9⟩⟩
            case measure => have := HK9.out; simp [intOf]; omega
        · obtain rfl : k = 9 := by omega
          have d1 : decide (((9 : Nat) : Int) + 1 ≤ 9) = false := by decide
          have hd2 : docC h ws (j + 1) = l ++ F 9 := by rw [HDS.out, HFF.out]
          have HD2 := Lib.hid hd2
          clear hd2
          go_wp2
          go_roundw
          case rel => exact ⟨⟨j + 1, Y, cy, HLT.out, by first | (rw [HD2.out]; done) | (rw [HD2.out, List.length_append]), by go_num, by rw [HD2.out]; exact HO, HF, HB⟩⟩
          case measure => exact Au.meas_lt HLT.out
    · obtain rfl : j = h.length := by omega
      have d0 : decide ((h.length : Int) < (h.length : Int)) = false := by simp
      go_wp2
      go_ret
      exact ⟨X, cx, rfl, HO.out, HF.out, HB.out⟩
end Go.Proofs.Ytelephoalpphkaa
end
section
/- The walk of AuditChecks. No conditions. -/
set_option maxRecDepth 8000
namespace Go.Proofs.Ytelephoalpphkaa
open Go.ChangeShapes Go.WideShapes Go.ChangeAt Go.RowKit
set_option linter.unusedVariables false
set_option linter.unusedSimpArgs false
theorem neq_vcR (a b : Vec.Vc) (w : World) : (binOp .neq 33 (.agg (Vec.vcCells a).toArray) (.agg (Vec.vcCells b).toArray)).run Try.prog w = .ok (.bool (!Vec.eqVc a b)) w := by
  have h := eqIn_vec 33 31 Try.underlying33 Try.underlying31 (by kernel_rfl) (by kernel_rfl) 9997 a b w
  rw [run_neq_struct]
  show ((Op.equalIn 10000 33 (Vec.V a) (Vec.V b)).run Try.prog w).andThen _ = _
  rw [h]
  rfl
set_option maxHeartbeats 2000000 in
theorem eqIn_resR (d : Nat) (r : Au.Rs) (w : World) :
    (Op.equalIn (d + 5) 48 (.agg (Au.rsCells r).toArray) (.agg (Au.rsCells r).toArray)).run Try.prog w = .ok true w := by
  have hv := eqIn_vec 33 31 Try.underlying33 Try.underlying31 (by kernel_rfl) (by kernel_rfl) d r.e.deps r.e.deps w
  rw [Vec.eqVc_iff.2 rfl] at hv
  unfold Au.rsCells Vec.entCells
  simp [go_sem, hv]
theorem neq_resR (r : Au.Rs) (w : World) : (binOp .neq 48 (.agg (Au.rsCells r).toArray) (.agg (Au.rsCells r).toArray)).run Try.prog w = .ok (.bool false) w := by
  rw [run_neq_struct, eqIn_resR 9995]
  rfl
namespace Au
def eX : Vec.Ent := ⟨0, 0, 0, ⟨0, 0, 0⟩, ⟨#[]⟩, ⟨#[]⟩, false, Vec.vc0, 0, -77⟩
theorem Tw.later {w : World} {h : List Ev} {k : Nat} {X : Option Addr} {c : Nat} {hs : List Ev} {wr w' : World} (t : Tw w h k X c hs wr) (hb : Below wr.heap.size wr w') : Tw w h k X c hs w' :=
  ⟨t.b, t.o.below hb (fun q hq => t.o.lt hq), t.f, fun e he => (t.e e he).below hb, t.p, t.bl.trans (hb.mono t.bl.size)⟩
structure ChRel (n : Nat) (w9 : World) (vi : Value) (wr : World) : Prop where
  out : ∃ k : Nat, k ≤ n ∧ vi = .int .i64 k ∧ Hid (Below w9.heap.size w9 wr)
structure Ch4Rel (n : Nat) (X : Option Addr) (c : Nat) (w9 : World) (vi : Value) (wr : World) : Prop where
  out : ∃ (k : Nat) (zs : List Value), k ≤ n ∧ vi = .int .i64 k ∧ Hid (Mem.Own wr 50 2 X n c zs) ∧ Hid (Mem.Keeps (fun q => Mem.blk X = some q) w9 wr)
end Au
namespace auditChecksOpen
open Au
open Vec (entCells ent0 entCells_length ent_one)
set_option maxRecDepth 20000 in
set_option maxHeartbeats 8000000 in
theorem walk (A : Option Addr) (c : Nat) (h : List Ev) (A2 : Option Addr) (c2 : Nat) (ws : List Vec.Ent) (w : World) (hr : Mem.Rd w w.heap.size A (h.flatMap evCells)) (hr2 : Mem.Rd w w.heap.size A2 (ws.flatMap Vec.entCells)) (hc : h.length ≤ 8796093022208) (hn2 : ws.length ≤ 8796093022208) (hd : ∀ e ∈ h, EvIn w e) (hd2 : ∀ e ∈ ws, Vec.EntIn e) :
    Calls Try.prog 3 #[.slice A h.length c, .slice A2 ws.length c2] w fun e w' => e = .returned (.bool true) ∧ Below w.heap.size w w' := by
  go_enter Try.func3, Try.ntmps3
  have HR := Lib.hid hr
  have HD := Lib.hid hd
  have HR2 := Lib.hid hr2
  have HD2 := Lib.hid hd2
  clear hr hd hr2 hd2
  go_wp2_with fail
  refine (auditAble_any w).mono ?_
  rintro x w1 ⟨rfl, hb1⟩
  have HB1 := Lib.hid hb1
  clear hb1
  go_wp2_with fail
  refine (muchA_any A c h A2 c2 ws w w1 HR.out HR2.out (by omega) (by omega) HD.out HD2.out HB1.out).mono ?_
  rintro x w2 ⟨b, rfl, hbn, hb2⟩
  have HB2 := Lib.hid (HB1.out.trans (hb2.mono HB1.out.size))
  clear hb2 HB1
  by_cases hyes : b = true
  · subst hyes
    go_wp2
    go_ret
    exact ⟨rfl, HB2.out⟩
  · obtain rfl : b = false := by cases b; rfl; exact absurd rfl hyes
    have hn3 : h.length + ws.length ≤ 360 := hbn rfl
    clear hyes hbn
    have hol := Vec.ents_len ws
    have hoo := Vec.ents_one ws
    have HIN : Hid (∀ e ∈ h, okI e.cl ∧ e.res.length ≤ 703687441776) := fun e he => ⟨(HD.out e he).cl, (HD.out e he).rn⟩
    have HTK : Hid (∀ e ∈ h, EvOk w w.heap.size e ∧ e.keys.length ≤ 8796093022208 ∧ e.res.length ≤ 703687441776) := fun e he => ⟨(HD.out e he).ok, (HD.out e he).kn, (HD.out e he).rn⟩
    obtain ⟨l, hl0⟩ : ∃ l, findL h ws = l := ⟨_, rfl⟩
    have HLD := Lib.hid hl0
    have hl9 : l.length ≤ 8000 := by
      rw [← hl0, findL_eq]
      have := stC_le (kOf h ws) h.length
      omega
    clear hl0
    have hn63 : ws.length + 1 ≤ maxLen := by unfold maxLen; omega
    go_upto_region 7 with (first
      | (go_at_call 11; (refine (twin_any A c h w.heap.size w w2 HR.out HTK.out (by omega) HB2.out HB2.out.size).mono ?_); rintro x w3 ⟨X3, c3, hs3, rfl, ht3⟩; have HT3 := Lib.hid ht3; have HB3 := Lib.hid (HB2.out.trans (ht3.bl.mono HB2.out.size)); clear ht3)
      | (at_builtin; refine Mem.wpList_clone _ rfl (.tmp 20) (.tmp 21) _ rfl entries_elem _ rfl w3 w3.heap.size A2 ws.length c2 (ws.flatMap Vec.entCells) rfl ?_ rfl (Below.refl _ _) (Nat.le_refl _) ((HR2.out.below HB3.out).more HB3.out.size) hol hoo (by unfold maxLen; omega) (by omega); intro A4 c4 w4 hown hb4 hs4 hf4; have HO4 := Lib.hid hown; have HB4 := Lib.hid hb4; have HF4 := Lib.hid hf4; clear hown hb4 hs4 hf4)
      | ((with_reducible refine Mem.build1_agg _ _ 20 _ Try.underlying23 entry_zero (by decide) (by decide) (entCells eX) ?hra (entCells_length _) ?_); (case hra => exact rfl))
      | (at_builtin; refine Mem.wpList_app _ rfl (.tmp 22) (.tmp 24) _ rfl entries_elem A4 ws.length c4 (ws.flatMap Vec.entCells) rfl (w4.heap.size + 1) (some ⟨w4.heap.size, 0, none⟩) 1 1 (entCells eX) rfl ?_ (HO4.out.alloc _) (Mem.Rd.alloc_new w4 _ _ _ rfl) rfl (ent_one eX) hn63 (by omega); intro A6 c6 w6 hown hg4 hat6; have HO6 := Lib.hid hown; have HG6 := Lib.hid hg4; have HAT6 := Lib.hid hat6; clear hown hg4 hat6))
    have hk6 : Mem.Keeps (fun q => Mem.blk A4 = some q) w4 w6 := ((Mem.Keeps.refl (fun q => Mem.blk A4 = some q) w4).alloc _).grown HG6.out (fun k hk _ => hk)
    have HB36 : Hid (Below w3.heap.size w3 w6) := HB4.out.trans (hk6.below (fun q hq => HF4.out.blk q hq) HB4.out.size)
    have HB6 : Hid (Below w.heap.size w w6) := HB3.out.trans (HB36.out.mono HB3.out.size)
    have HR6 : Hid (Mem.Rd w6 w6.heap.size A6 (ws.flatMap Vec.entCells)) := HO6.out.rd.left
    have HL6 := Lib.hid HO6.out.le
    have HC6 := Lib.hid HO6.out.cap
    have s5 := fun s => sliced_front (A := A6) (c := c6) s ws.length
    have hwc : ws.length ≤ c6 := by have := HL6.out; omega
    have HCK : Hid (∀ W, Below w6.heap.size w6 W → Calls Try.prog 12 #[.slice X3 h.length c3, .slice A6 ws.length c6] W fun x w' => ∃ Y cy, x = .returned (.slice Y l.length cy) ∧ Mem.Own w' 50 2 Y l.length cy (l.flatMap fiCells) ∧ Mem.From W.heap.size Y ∧ Below W.heap.size W w') := fun W hW => by
      have h1 := twCheck_any HT3.out (HB36.out.trans (hW.mono HB36.out.size)) ((HR6.out.below hW).more hW.size) (by have := HL6.out; omega : ws.length ≤ c6) HC6.out (by omega) HIN.out
      rw [HLD.out] at h1
      exact h1
    clear hk6 HO4 HB4 HF4 HG6
    go_upto_region 9 with (go_at_call 12; (first
      | (refine (HCK.out w6 (Below.refl _ _)).mono ?_; rintro x w7 ⟨X7, c7, rfl, ho7, hf7, hb7⟩; have HO7 := Lib.hid ho7; have HF7 := Lib.hid hf7; have HB67 := Lib.hid hb7; clear ho7 hf7 hb7)
      | (refine (HCK.out w7 HB67.out).mono ?_; rintro x w8 ⟨X8, c8, rfl, ho8, hf8, hb8⟩; have HO8 := Lib.hid ho8; have HF8 := Lib.hid hf8; have HB78 := Lib.hid hb8; clear ho8 hf8 hb8)))
    have hb68 : Below w6.heap.size w6 w8 := HB67.out.trans (HB78.out.mono HB67.out.size)
    have HB8 : Hid (Below w.heap.size w w8) := HB6.out.trans (hb68.mono HB6.out.size)
    have HT8 : Hid (Tw w2 h h.length X3 c3 hs3 w8) := HT3.out.later (HB36.out.trans (hb68.mono HB36.out.size))
    have HG8 : Hid (Mem.Own w8 35 20 A6 (ws.length + 1) c6 (ws.flatMap Vec.entCells ++ entCells eX)) := HO6.out.below hb68 (fun q hq => HO6.out.lt hq)
    have HL8 : Hid (Mem.Own w8 50 2 X7 l.length c7 (l.flatMap fiCells)) := HO7.out.below HB78.out (fun q hq => HO7.out.lt hq)
    have HX78 : Hid (∀ q, Mem.blk X7 = some q → Mem.blk X8 ≠ some q) := fun q h1 h2 => by
      have h3 := HO7.out.lt h1
      have h4 := HF8.out.blk q h2
      omega
    have HF7W : Hid (Mem.From w.heap.size X7) := HF7.out.mono HB6.out.size
    have HF8W : Hid (Mem.From w.heap.size X8) := HF8.out.mono (Nat.le_trans HB6.out.size HB67.out.size)
    obtain ⟨gG, oG, rfl⟩ := HG8.out.form (by omega)
    have hgl := HG8.out.lt rfl
    have HREF : Hid (∀ W, Below w.heap.size w W → Calls Try.prog 14 #[.slice A h.length c, .slice A2 ws.length c2] W fun x w' => ∃ X c, x = .returned (.slice X l.length c) ∧ Mem.Own w' 50 2 X l.length c (l.flatMap fiCells) ∧ Mem.From W.heap.size X ∧ Below W.heap.size W w') := fun W hW => by
      have h1 := refCheck_any (c := c) (c2 := c2) (⟨HR.out.below hW, HR2.out.below hW, fun e he => ((HTK.out e he).1.below hW (Nat.le_refl _)), hW.size, by omega, by omega⟩ : Dx W w.heap.size A h A2 ws)
      rw [HLD.out] at h1
      exact h1
    clear HB67 HB78 HB36 HT3 HB3 HB6 HR6 HO6 HO7 HCK hb68 HAT6 s5 hwc hn63 HF7 HF8
    go_upto_region 11 with (first
      | (go_at_call 14; (refine (HREF.out w8 HB8.out).mono ?_; rintro x w9 ⟨X9, c9, rfl, ho9, hf9, hb9⟩; have HO9 := Lib.hid ho9; have HB89 := Lib.hid hb9; have hcell : w9.cell? ⟨gG, oG + ws.length * 20 + 19, none⟩ = some (.int .i64 (-77)) := (hb9.cell (p := ⟨gG, oG + ws.length * 20 + 19, none⟩) hgl).trans (by have h1 := HG8.out.cell (j := ws.length * 20 + 19) (u := .int .i64 (-77)) (by rw [List.getElem?_append_right (by rw [hol]; omega), hol, Nat.add_sub_cancel_left]; rfl); rw [← Nat.add_assoc] at h1; exact h1); clear ho9 hf9 hb9))
      | (go_at_call 13; (first
        | (refine (findings_any X7 c7 l X9 c9 l w9.heap.size w9 ((HL8.out.rd.below HB89.out).more HB89.out.size) HO9.out.rd (Nat.le_refl _) (by omega) (by omega)).mono ?_; rintro x w10 ⟨bb, rfl, hbb, hb10⟩; obtain rfl : bb = true := hbb.2 rfl; have HB910 := Lib.hid hb10; have hcell2 := (hb10.cell (p := ⟨gG, oG + ws.length * 20 + 19, none⟩) (Nat.lt_of_lt_of_le hgl HB89.out.size)).trans hcell; clear hbb hb10 HO9)
        | (refine (findings_any X7 c7 l X8 c8 l w10.heap.size w10 ((HL8.out.rd.below (HB89.out.trans (HB910.out.mono HB89.out.size))).more (Nat.le_trans HB89.out.size HB910.out.size)) ((HO8.out.rd.below (HB89.out.trans (HB910.out.mono HB89.out.size))).more (Nat.le_trans HB89.out.size HB910.out.size)) (Nat.le_refl _) (by omega) (by omega)).mono ?_; rintro x w11 ⟨bb, rfl, hbb, hb11⟩; obtain rfl : bb = true := hbb.2 rfl; have HB1011 := Lib.hid hb11; have hcell3 := (hb11.cell (p := ⟨gG, oG + ws.length * 20 + 19, none⟩) (Nat.lt_of_lt_of_le hgl (Nat.le_trans HB89.out.size HB910.out.size))).trans hcell2; clear hbb hb11))))
    have hb811 : Below w8.heap.size w8 w11 := HB89.out.trans ((HB910.out.trans (HB1011.out.mono HB910.out.size)).mono HB89.out.size)
    have HB11 : Hid (Below w.heap.size w w11) := HB8.out.trans (hb811.mono HB8.out.size)
    have HT11 := Lib.hid (HT8.out.later hb811)
    have HG11 : Hid (Mem.Rd w11 w11.heap.size (some ⟨gG, oG, none⟩) (ws.flatMap Vec.entCells)) := ((HG8.out.rd.left).below hb811).more hb811.size
    have HL11 := Lib.hid (HL8.out.below hb811 (fun q hq => HL8.out.lt hq))
    have HK11 := Lib.hid (HO8.out.below hb811 (fun q hq => HO8.out.lt hq))
    clear hb811 HB89 HB910 HB1011 HT8 HG8 HL8 HO8 HB8 hcell hcell2 hcell3 hgl
    have HAW : Hid (∀ W, Below w11.heap.size w11 W → Below w.heap.size w W) := fun W hW => HB11.out.trans (hW.mono HB11.out.size)
    have hsl : hs3.length = h.length := HT11.out.len
    have HSL := Lib.hid hsl
    clear hsl
    go_wp2
    go_loopw [9] (ChRel ws.length w11) (fun t _ => ws.length - (intOf t).toNat)
    case atStart => exact ⟨⟨0, by omega, rfl, Below.refl _ _⟩⟩
    case round =>
      obtain ⟨k, hk, rfl, HB⟩ := hrel.out
      clear hrel
      by_cases hlt : k < ws.length
      · obtain ⟨b1, o1, e, hA1, hb1, he, hat⟩ := Vec.ent_elem HG11.out hlt
        obtain ⟨rfl, rfl⟩ : gG = b1 ∧ oG = o1 := by cases hA1; exact ⟨rfl, rfl⟩
        obtain ⟨b2, o2, e2, rfl, hb2, he2, hat2⟩ := Vec.ent_elem HR2.out hlt
        obtain rfl : e2 = e := Option.some.inj (he2.symm.trans he)
        have d0 : decide ((k : Int) < (ws.length : Int)) = true := by simp; omega
        have hk1 : k < ws.length + 1 := by omega
        have hbw := HAW.out wr HB.out
        have HAT := Lib.hid ((hat.below HB.out hb1).c)
        have HAT2 := Lib.hid ((hat2.below hbw hb2).c)
        have hg1 : gG < wr.heap.size := Nat.lt_of_lt_of_le hb1 HB.out.size
        have hg2 : b2 < wr.heap.size := Nat.lt_of_lt_of_le hb2 hbw.size
        have HQ := Lib.hid (fun W => by have h1 := neq_ent e2 e2 W; rw [Vec.eqEnt_iff.2 rfl] at h1; exact h1)
        have HLT := Lib.hid hlt
        clear hat hat2 he he2 hA1 hbw hb1 hb2
        go_upto_region 14 with fail
        refine Reg.wp_region_rel (by kernel_rfl) 161 9 rfl rfl (by kernel_rfl) (Reg.Adds) (Reg.Adds.refl) (Reg.Adds.trans)
          (fun i v u => match i with
            | 0 => v = .slice (some ⟨gG, oG, none⟩) (ws.length + 1) c6
            | 1 => v = .int .i64 k
            | 2 => v = .pointer (some ⟨gG, oG + k * 20, none⟩)
            | 3 => v = .agg (entCells e2).toArray
            | 4 => v = .slice (some ⟨b2, o2, none⟩) ws.length c2
            | 5 => v = .int .i64 k
            | 6 => v = .pointer (some ⟨b2, o2 + k * 20, none⟩)
            | 7 => v = .agg (entCells e2).toArray
            | 8 => v = .bool false
            | _ => True) ?_ ?_
        · refine Reg.Steps.cons ?_ (Reg.Steps.cons ?_ (Reg.Steps.cons ?_ (Reg.Steps.cons ?_ (Reg.Steps.cons ?_ (Reg.Steps.cons ?_ (Reg.Steps.cons ?_ (Reg.Steps.cons ?_ (Reg.Steps.cons ?_ (Reg.Steps.nil _)))))))))
          · intro val ac u hR hp ha K hK
            have e6 : (ac.tmps[6]?).getD undef = .slice (some ⟨gG, oG, none⟩) (ws.length + 1) c6 := ha 6 (by decide); clear ha hp
            refine Reg.Op1.plain rfl ?_
            go_wp2
            exact ⟨rfl, hK _ _ rfl (fun j k _ _ => Reg.Adds.refl _ _ _)⟩
          · intro val ac u hR hp ha K hK
            have e9 : (ac.tmps[9]?).getD undef = .int .i64 k := ha 9 (by decide); clear ha hp
            refine Reg.Op1.plain rfl ?_
            go_wp2
            exact ⟨rfl, hK _ _ rfl (fun j k _ _ => Reg.Adds.refl _ _ _)⟩
          · intro val ac u hR hp ha K hK
            obtain ⟨w65, h65, r65⟩ := hp 0 (by decide); have e65 : (ac.tmps[65]?).getD undef = .slice (some ⟨gG, oG, none⟩) (ws.length + 1) c6 := (ha 65 (by decide)).trans h65; obtain ⟨w66, h66, r66⟩ := hp 1 (by decide); have e66 : (ac.tmps[66]?).getD undef = .int .i64 k := (ha 66 (by decide)).trans h66; clear h65 h66 ha hp
            refine Reg.Op1.plain rfl ?_
            go_wp2
            exact ⟨rfl, hK _ _ rfl (fun j k _ _ => Reg.Adds.refl _ _ _)⟩
          · intro val ac u hR hp ha K hK
            obtain ⟨w67, h67, r67⟩ := hp 2 (by decide); have e67 : (ac.tmps[67]?).getD undef = .pointer (some ⟨gG, oG + k * 20, none⟩) := (ha 67 (by decide)).trans h67; clear h67 ha hp
            refine Reg.Op1.plain rfl ?_
            refine Mem.load_agg _ _ entry_agg gG (oG + k * 20) (entCells e2) (Reg.eval_of e67) (entCells_length _) (fun q u' hu => (hR.cell (p := ⟨gG, oG + k * 20 + q, none⟩) hg1).trans (HAT.out q u' hu)) ?_
            exact ⟨rfl, hK _ _ rfl (fun j k _ _ => Reg.Adds.refl _ _ _)⟩
          · intro val ac u hR hp ha K hK
            have e1 : (ac.tmps[1]?).getD undef = .slice (some ⟨b2, o2, none⟩) ws.length c2 := ha 1 (by decide); clear ha hp
            refine Reg.Op1.plain rfl ?_
            go_wp2
            exact ⟨rfl, hK _ _ rfl (fun j k _ _ => Reg.Adds.refl _ _ _)⟩
          · intro val ac u hR hp ha K hK
            have e9 : (ac.tmps[9]?).getD undef = .int .i64 k := ha 9 (by decide); clear ha hp
            refine Reg.Op1.plain rfl ?_
            go_wp2
            exact ⟨rfl, hK _ _ rfl (fun j k _ _ => Reg.Adds.refl _ _ _)⟩
          · intro val ac u hR hp ha K hK
            obtain ⟨w69, h69, r69⟩ := hp 4 (by decide); have e69 : (ac.tmps[69]?).getD undef = .slice (some ⟨b2, o2, none⟩) ws.length c2 := (ha 69 (by decide)).trans h69; obtain ⟨w70, h70, r70⟩ := hp 5 (by decide); have e70 : (ac.tmps[70]?).getD undef = .int .i64 k := (ha 70 (by decide)).trans h70; clear h69 h70 ha hp
            refine Reg.Op1.plain rfl ?_
            go_wp2
            exact ⟨rfl, hK _ _ rfl (fun j k _ _ => Reg.Adds.refl _ _ _)⟩
          · intro val ac u hR hp ha K hK
            obtain ⟨w71, h71, r71⟩ := hp 6 (by decide); have e71 : (ac.tmps[71]?).getD undef = .pointer (some ⟨b2, o2 + k * 20, none⟩) := (ha 71 (by decide)).trans h71; clear h71 ha hp
            refine Reg.Op1.plain rfl ?_
            refine Mem.load_agg _ _ entry_agg b2 (o2 + k * 20) (entCells e2) (Reg.eval_of e71) (entCells_length _) (fun q u' hu => (hR.cell (p := ⟨b2, o2 + k * 20 + q, none⟩) hg2).trans (HAT2.out q u' hu)) ?_
            exact ⟨rfl, hK _ _ rfl (fun j k _ _ => Reg.Adds.refl _ _ _)⟩
          · intro val ac u hR hp ha K hK
            obtain ⟨w68, h68, r68⟩ := hp 3 (by decide); have e68 : (ac.tmps[68]?).getD undef = .agg (entCells e2).toArray := (ha 68 (by decide)).trans h68; obtain ⟨w72, h72, r72⟩ := hp 7 (by decide); have e72 : (ac.tmps[72]?).getD undef = .agg (entCells e2).toArray := (ha 72 (by decide)).trans h72; clear h68 h72 ha hp
            refine Reg.Op1.plain rfl ?_
            have hqq := HQ.out
            go_wp2
            exact ⟨rfl, hK _ _ rfl (fun j k _ _ => Reg.Adds.refl _ _ _)⟩
        · intro val u hR H
          obtain ⟨_, hv, _⟩ := H 8 (by decide)
          have hv : val 8 = .bool false := hv
          have HKu : Hid (Below wr.heap.size wr u) := (Below.refl _ wr).drew.trans hR
          simp only [List.map_cons, List.map_nil, Reg.lay, Act.put, List.setIfInBounds_toArray, List.set_cons_succ, List.set_cons_zero, Nat.reduceAdd, hv]
          clear hR H hv
          go_wp2
          go_roundw
          case rel => exact ⟨⟨k + 1, HLT.out, by go_num, HB.out.trans (HKu.out.mono HB.out.size)⟩⟩
          case measure => exact Au.meas_lt HLT.out
      · obtain rfl : k = ws.length := by omega
        have d0 : decide ((ws.length : Int) < (ws.length : Int)) = false := by simp
        go_wp2
        rename World => w12
        go_loopw [10] (ChRel h.length w11) (fun t _ => h.length - (intOf t).toNat)
        case atStart => exact ⟨⟨0, by omega, rfl, HB⟩⟩
        case round =>
          clear HB
          obtain ⟨k, hk, rfl, HB⟩ := hrel.out
          clear hrel
          by_cases hlt : k < h.length
          · obtain ⟨b, o, e, rfl, hb, he, hat⟩ := ev_elem HR.out hlt
            obtain ⟨b3, o3, e3, rfl, hb3, he3, hat3⟩ := ev_elem HT11.out.o.rd (show k < hs3.length by have := HSL.out; omega)
            have hbe : bare e3 = bare e := by
              have h1 := HT11.out.b
              rw [List.take_length] at h1
              have h2 := congrArg (fun l : List Ev => l[k]?) h1
              rw [List.getElem?_map, List.getElem?_map, he3, he] at h2
              exact Option.some.inj h2
            have hbw := HAW.out wr HB.out
            have hrs := bare_res hbe
            have hop := bare_op hbe
            have hct := bare_cut hbe
            have HAT := Lib.hid ((hat.below hbw hb).c)
            have HAT3 := Lib.hid ((hat3.below HB.out hb3).c)
            have HAT0 := Lib.hid hat.c
            have HAT30 := Lib.hid hat3.c
            have HBL := Lib.hid hb
            have HBL3 := Lib.hid hb3
            have d0 : decide ((k : Int) < (h.length : Int)) = true := by simp; omega
            have hg1 : b < wr.heap.size := Nat.lt_of_lt_of_le hb hbw.size
            have hg3 : b3 < wr.heap.size := Nat.lt_of_lt_of_le hb3 HB.out.size
            have x10 : wr.cell? ⟨b3, o3 + k * 20 + 10, none⟩ = some (.slice e3.rA e.res.length e3.rc) := by rw [← hrs]; exact HAT3.out 10 _ rfl
            have x1 : wr.cell? ⟨b3, o3 + k * 20 + 1, none⟩ = some (.int .i64 e.op) := by rw [← hop]; exact HAT3.out 1 _ rfl
            have HC3 : Hid (∀ j u, (Vec.vcCells e.cut)[j]? = some u → wr.cell? ⟨b3, o3 + k * 20 + 11 + j, none⟩ = some u) := fun j u hu => by rw [← hct] at hu; have h1 := HAT3.out (11 + j) u (evcut_at e3 hu); rw [← Nat.add_assoc] at h1; exact h1
            have HC1 : Hid (∀ j u, (Vec.vcCells e.cut)[j]? = some u → wr.cell? ⟨b, o + k * 20 + 11 + j, none⟩ = some u) := fun j u hu => by have h1 := HAT.out (11 + j) u (evcut_at e hu); rw [← Nat.add_assoc] at h1; exact h1
            have y10 : wr.cell? ⟨b, o + k * 20 + 10, none⟩ = some (.slice e.rA e.res.length e.rc) := HAT.out 10 _ rfl
            have y1 : wr.cell? ⟨b, o + k * 20 + 1, none⟩ = some (.int .i64 e.op) := HAT.out 1 _ rfl
            have HQ := Lib.hid (fun W => by have h1 := neq_vcR e.cut e.cut W; rw [Vec.eqVc_iff.2 rfl] at h1; exact h1)
            have HLT := Lib.hid hlt
            have HEK := Lib.hid (HTK.out e (List.mem_of_getElem? he)).1
            have HE3 := Lib.hid (HT11.out.e e3 (List.mem_of_getElem? he3))
            have HRS := Lib.hid hrs
            have hrm : e.res.length ≤ 9223372036854775807 := by have h1 := HEK.out; exact Nat.le_trans h1.rl h1.rn
            clear hat hat3 he he3 hb hb3 hbw hop hct hbe hrs
            go_upto_region 19 with fail
            go_cut [118] (fun v wx => v = .bool false ∧ Below wr.heap.size wr wx)
            case first =>
              refine Reg.wp_region_rel (by kernel_rfl) 161 39 rfl rfl (by kernel_rfl) (Reg.Adds) (Reg.Adds.refl) (Reg.Adds.trans)
                (fun i v u => match i with
                  | 0 => v = .slice (some ⟨b3, o3, none⟩) h.length c3
                  | 1 => v = .int .i64 k
                  | 2 => v = .pointer (some ⟨b3, o3 + k * 20, none⟩)
                  | 3 => v = .pointer (some ⟨b3, o3 + k * 20 + 10, none⟩)
                  | 4 => v = .slice e3.rA e.res.length e3.rc
                  | 5 => v = .int .i64 ((e.res.length : Nat) : Int)
                  | 6 => v = .slice (some ⟨b, o, none⟩) h.length c
                  | 7 => v = .int .i64 k
                  | 8 => v = .pointer (some ⟨b, o + k * 20, none⟩)
                  | 9 => v = .pointer (some ⟨b, o + k * 20 + 10, none⟩)
                  | 10 => v = .slice e.rA e.res.length e.rc
                  | 11 => v = .int .i64 ((e.res.length : Nat) : Int)
                  | 12 => v = .bool false
                  | 13 => v = .bool false
                  | 14 => v = .slice (some ⟨b3, o3, none⟩) h.length c3
                  | 15 => v = .int .i64 k
                  | 16 => v = .pointer (some ⟨b3, o3 + k * 20, none⟩)
                  | 17 => v = .pointer (some ⟨b3, o3 + k * 20 + 11, none⟩)
                  | 18 => v = .agg (Vec.vcCells e.cut).toArray
                  | 19 => v = .slice (some ⟨b, o, none⟩) h.length c
                  | 20 => v = .int .i64 k
                  | 21 => v = .pointer (some ⟨b, o + k * 20, none⟩)
                  | 22 => v = .pointer (some ⟨b, o + k * 20 + 11, none⟩)
                  | 23 => v = .agg (Vec.vcCells e.cut).toArray
                  | 24 => v = .bool false
                  | 25 => v = .bool false
                  | 26 => v = .bool false
                  | 27 => v = .slice (some ⟨b3, o3, none⟩) h.length c3
                  | 28 => v = .int .i64 k
                  | 29 => v = .pointer (some ⟨b3, o3 + k * 20, none⟩)
                  | 30 => v = .pointer (some ⟨b3, o3 + k * 20 + 1, none⟩)
                  | 31 => v = .int .i64 e.op
                  | 32 => v = .slice (some ⟨b, o, none⟩) h.length c
                  | 33 => v = .int .i64 k
                  | 34 => v = .pointer (some ⟨b, o + k * 20, none⟩)
                  | 35 => v = .pointer (some ⟨b, o + k * 20 + 1, none⟩)
                  | 36 => v = .int .i64 e.op
                  | 37 => v = .bool false
                  | 38 => v = .bool false
                  | _ => True) ?_ ?_
              · refine Reg.Steps.cons ?_ (Reg.Steps.cons ?_ (Reg.Steps.cons ?_ (Reg.Steps.cons ?_ (Reg.Steps.cons ?_ (Reg.Steps.cons ?_ (Reg.Steps.cons ?_ (Reg.Steps.cons ?_ (Reg.Steps.cons ?_ (Reg.Steps.cons ?_ (Reg.Steps.cons ?_ (Reg.Steps.cons ?_ (Reg.Steps.cons ?_ (Reg.Steps.cons ?_ (Reg.Steps.cons ?_ (Reg.Steps.cons ?_ (Reg.Steps.cons ?_ (Reg.Steps.cons ?_ (Reg.Steps.cons ?_ (Reg.Steps.cons ?_ (Reg.Steps.cons ?_ (Reg.Steps.cons ?_ (Reg.Steps.cons ?_ (Reg.Steps.cons ?_ (Reg.Steps.cons ?_ (Reg.Steps.cons ?_ (Reg.Steps.cons ?_ (Reg.Steps.cons ?_ (Reg.Steps.cons ?_ (Reg.Steps.cons ?_ (Reg.Steps.cons ?_ (Reg.Steps.cons ?_ (Reg.Steps.cons ?_ (Reg.Steps.cons ?_ (Reg.Steps.cons ?_ (Reg.Steps.cons ?_ (Reg.Steps.cons ?_ (Reg.Steps.cons ?_ (Reg.Steps.cons ?_ (Reg.Steps.nil _)))))))))))))))))))))))))))))))))))))))
                · intro val ac u hR hp ha K hK
                  have e5 : (ac.tmps[5]?).getD undef = .slice (some ⟨b3, o3, none⟩) h.length c3 := ha 5 (by decide); clear ha hp
                  refine Reg.Op1.plain rfl ?_
                  go_wp2
                  exact ⟨rfl, hK _ _ rfl (fun j k _ _ => Reg.Adds.refl _ _ _)⟩
                · intro val ac u hR hp ha K hK
                  have e10 : (ac.tmps[10]?).getD undef = .int .i64 k := ha 10 (by decide); clear ha hp
                  refine Reg.Op1.plain rfl ?_
                  go_wp2
                  exact ⟨rfl, hK _ _ rfl (fun j k _ _ => Reg.Adds.refl _ _ _)⟩
                · intro val ac u hR hp ha K hK
                  obtain ⟨w80, h80, r80⟩ := hp 0 (by decide); have e80 : (ac.tmps[80]?).getD undef = .slice (some ⟨b3, o3, none⟩) h.length c3 := (ha 80 (by decide)).trans h80; obtain ⟨w81, h81, r81⟩ := hp 1 (by decide); have e81 : (ac.tmps[81]?).getD undef = .int .i64 k := (ha 81 (by decide)).trans h81; clear h80 h81 ha hp
                  refine Reg.Op1.plain rfl ?_
                  go_wp2
                  exact ⟨rfl, hK _ _ rfl (fun j k _ _ => Reg.Adds.refl _ _ _)⟩
                · intro val ac u hR hp ha K hK
                  obtain ⟨w82, h82, r82⟩ := hp 2 (by decide); have e82 : (ac.tmps[82]?).getD undef = .pointer (some ⟨b3, o3 + k * 20, none⟩) := (ha 82 (by decide)).trans h82; clear h82 ha hp
                  refine Reg.Op1.plain rfl ?_
                  go_wp2
                  exact ⟨rfl, hK _ _ rfl (fun j k _ _ => Reg.Adds.refl _ _ _)⟩
                · intro val ac u hR hp ha K hK
                  obtain ⟨w83, h83, r83⟩ := hp 3 (by decide); have e83 : (ac.tmps[83]?).getD undef = .pointer (some ⟨b3, o3 + k * 20 + 10, none⟩) := (ha 83 (by decide)).trans h83; clear h83 ha hp
                  refine Reg.Op1.plain rfl ?_
                  have z0 := (hR.cell (p := ⟨b3, o3 + k * 20 + 10, none⟩) hg3).trans x10
                  go_wp2
                  exact ⟨rfl, hK _ _ rfl (fun j k _ _ => Reg.Adds.refl _ _ _)⟩
                · intro val ac u hR hp ha K hK
                  obtain ⟨w84, h84, r84⟩ := hp 4 (by decide); have e84 : (ac.tmps[84]?).getD undef = .slice e3.rA e.res.length e3.rc := (ha 84 (by decide)).trans h84; clear h84 ha hp
                  refine Reg.Op1.plain rfl ?_
                  go_wp2
                  exact ⟨rfl, hK _ _ rfl (fun j k _ _ => Reg.Adds.refl _ _ _)⟩
                · intro val ac u hR hp ha K hK
                  have e0 : (ac.tmps[0]?).getD undef = .slice (some ⟨b, o, none⟩) h.length c := ha 0 (by decide); clear ha hp
                  refine Reg.Op1.plain rfl ?_
                  go_wp2
                  exact ⟨rfl, hK _ _ rfl (fun j k _ _ => Reg.Adds.refl _ _ _)⟩
                · intro val ac u hR hp ha K hK
                  have e10 : (ac.tmps[10]?).getD undef = .int .i64 k := ha 10 (by decide); clear ha hp
                  refine Reg.Op1.plain rfl ?_
                  go_wp2
                  exact ⟨rfl, hK _ _ rfl (fun j k _ _ => Reg.Adds.refl _ _ _)⟩
                · intro val ac u hR hp ha K hK
                  obtain ⟨w86, h86, r86⟩ := hp 6 (by decide); have e86 : (ac.tmps[86]?).getD undef = .slice (some ⟨b, o, none⟩) h.length c := (ha 86 (by decide)).trans h86; obtain ⟨w87, h87, r87⟩ := hp 7 (by decide); have e87 : (ac.tmps[87]?).getD undef = .int .i64 k := (ha 87 (by decide)).trans h87; clear h86 h87 ha hp
                  refine Reg.Op1.plain rfl ?_
                  go_wp2
                  exact ⟨rfl, hK _ _ rfl (fun j k _ _ => Reg.Adds.refl _ _ _)⟩
                · intro val ac u hR hp ha K hK
                  obtain ⟨w88, h88, r88⟩ := hp 8 (by decide); have e88 : (ac.tmps[88]?).getD undef = .pointer (some ⟨b, o + k * 20, none⟩) := (ha 88 (by decide)).trans h88; clear h88 ha hp
                  refine Reg.Op1.plain rfl ?_
                  go_wp2
                  exact ⟨rfl, hK _ _ rfl (fun j k _ _ => Reg.Adds.refl _ _ _)⟩
                · intro val ac u hR hp ha K hK
                  obtain ⟨w89, h89, r89⟩ := hp 9 (by decide); have e89 : (ac.tmps[89]?).getD undef = .pointer (some ⟨b, o + k * 20 + 10, none⟩) := (ha 89 (by decide)).trans h89; clear h89 ha hp
                  refine Reg.Op1.plain rfl ?_
                  have z0 := (hR.cell (p := ⟨b, o + k * 20 + 10, none⟩) hg1).trans y10
                  go_wp2
                  exact ⟨rfl, hK _ _ rfl (fun j k _ _ => Reg.Adds.refl _ _ _)⟩
                · intro val ac u hR hp ha K hK
                  obtain ⟨w90, h90, r90⟩ := hp 10 (by decide); have e90 : (ac.tmps[90]?).getD undef = .slice e.rA e.res.length e.rc := (ha 90 (by decide)).trans h90; clear h90 ha hp
                  refine Reg.Op1.plain rfl ?_
                  go_wp2
                  exact ⟨rfl, hK _ _ rfl (fun j k _ _ => Reg.Adds.refl _ _ _)⟩
                · intro val ac u hR hp ha K hK
                  obtain ⟨w85, h85, r85⟩ := hp 5 (by decide); have e85 : (ac.tmps[85]?).getD undef = .int .i64 ((e.res.length : Nat) : Int) := (ha 85 (by decide)).trans h85; obtain ⟨w91, h91, r91⟩ := hp 11 (by decide); have e91 : (ac.tmps[91]?).getD undef = .int .i64 ((e.res.length : Nat) : Int) := (ha 91 (by decide)).trans h91; clear h85 h91 ha hp
                  refine Reg.Op1.plain rfl ?_
                  go_wp2
                  exact ⟨rfl, hK _ _ rfl (fun j k _ _ => Reg.Adds.refl _ _ _)⟩
                · intro val ac u hR hp ha K hK
                  obtain ⟨w92, h92, r92⟩ := hp 12 (by decide); have e92 : (ac.tmps[92]?).getD undef = .bool false := (ha 92 (by decide)).trans h92; clear h92 ha hp
                  refine Reg.Op1.plain rfl ?_
                  go_wp2
                  exact ⟨rfl, hK _ _ rfl (fun j k _ _ => Reg.Adds.refl _ _ _)⟩
                · intro val ac u hR hp ha K hK
                  have e5 : (ac.tmps[5]?).getD undef = .slice (some ⟨b3, o3, none⟩) h.length c3 := ha 5 (by decide); obtain ⟨w93, h93, r93⟩ := hp 13 (by decide); have e93 : (ac.tmps[93]?).getD undef = .bool false := (ha 93 (by decide)).trans h93; clear h93 ha hp
                  refine Reg.Op1.guarded rfl rfl e93 (fun _ => Reg.Op1.plain rfl ?_) (fun h => absurd rfl h)
                  go_wp2
                  exact ⟨rfl, hK _ _ rfl (fun j k _ _ => Reg.Adds.refl _ _ _)⟩
                · intro val ac u hR hp ha K hK
                  have e10 : (ac.tmps[10]?).getD undef = .int .i64 k := ha 10 (by decide); obtain ⟨w93, h93, r93⟩ := hp 13 (by decide); have e93 : (ac.tmps[93]?).getD undef = .bool false := (ha 93 (by decide)).trans h93; clear h93 ha hp
                  refine Reg.Op1.guarded rfl rfl e93 (fun _ => Reg.Op1.plain rfl ?_) (fun h => absurd rfl h)
                  go_wp2
                  exact ⟨rfl, hK _ _ rfl (fun j k _ _ => Reg.Adds.refl _ _ _)⟩
                · intro val ac u hR hp ha K hK
                  obtain ⟨w94, h94, r94⟩ := hp 14 (by decide); have e94 : (ac.tmps[94]?).getD undef = .slice (some ⟨b3, o3, none⟩) h.length c3 := (ha 94 (by decide)).trans h94; obtain ⟨w95, h95, r95⟩ := hp 15 (by decide); have e95 : (ac.tmps[95]?).getD undef = .int .i64 k := (ha 95 (by decide)).trans h95; obtain ⟨w93, h93, r93⟩ := hp 13 (by decide); have e93 : (ac.tmps[93]?).getD undef = .bool false := (ha 93 (by decide)).trans h93; clear h94 h95 h93 ha hp
                  refine Reg.Op1.guarded rfl rfl e93 (fun _ => Reg.Op1.plain rfl ?_) (fun h => absurd rfl h)
                  go_wp2
                  exact ⟨rfl, hK _ _ rfl (fun j k _ _ => Reg.Adds.refl _ _ _)⟩
                · intro val ac u hR hp ha K hK
                  obtain ⟨w96, h96, r96⟩ := hp 16 (by decide); have e96 : (ac.tmps[96]?).getD undef = .pointer (some ⟨b3, o3 + k * 20, none⟩) := (ha 96 (by decide)).trans h96; obtain ⟨w93, h93, r93⟩ := hp 13 (by decide); have e93 : (ac.tmps[93]?).getD undef = .bool false := (ha 93 (by decide)).trans h93; clear h96 h93 ha hp
                  refine Reg.Op1.guarded rfl rfl e93 (fun _ => Reg.Op1.plain rfl ?_) (fun h => absurd rfl h)
                  go_wp2
                  exact ⟨rfl, hK _ _ rfl (fun j k _ _ => Reg.Adds.refl _ _ _)⟩
                · intro val ac u hR hp ha K hK
                  obtain ⟨w97, h97, r97⟩ := hp 17 (by decide); have e97 : (ac.tmps[97]?).getD undef = .pointer (some ⟨b3, o3 + k * 20 + 11, none⟩) := (ha 97 (by decide)).trans h97; obtain ⟨w93, h93, r93⟩ := hp 13 (by decide); have e93 : (ac.tmps[93]?).getD undef = .bool false := (ha 93 (by decide)).trans h93; clear h97 h93 ha hp
                  refine Reg.Op1.guarded rfl rfl e93 (fun _ => Reg.Op1.plain rfl ?_) (fun h => absurd rfl h)
                  refine Mem.load_aggG _ _ vec_agg b3 (o3 + k * 20 + 11) (Vec.vcCells e.cut) (by simp [Region.wanted]) (Reg.eval_of e97) (Vec.vcCells_length _) (fun q u' hu => (hR.cell (p := ⟨b3, o3 + k * 20 + 11 + q, none⟩) hg3).trans (HC3.out q u' hu)) ?_
                  exact ⟨rfl, hK _ _ rfl (fun j k _ _ => Reg.Adds.refl _ _ _)⟩
                · intro val ac u hR hp ha K hK
                  have e0 : (ac.tmps[0]?).getD undef = .slice (some ⟨b, o, none⟩) h.length c := ha 0 (by decide); obtain ⟨w93, h93, r93⟩ := hp 13 (by decide); have e93 : (ac.tmps[93]?).getD undef = .bool false := (ha 93 (by decide)).trans h93; clear h93 ha hp
                  refine Reg.Op1.guarded rfl rfl e93 (fun _ => Reg.Op1.plain rfl ?_) (fun h => absurd rfl h)
                  go_wp2
                  exact ⟨rfl, hK _ _ rfl (fun j k _ _ => Reg.Adds.refl _ _ _)⟩
                · intro val ac u hR hp ha K hK
                  have e10 : (ac.tmps[10]?).getD undef = .int .i64 k := ha 10 (by decide); obtain ⟨w93, h93, r93⟩ := hp 13 (by decide); have e93 : (ac.tmps[93]?).getD undef = .bool false := (ha 93 (by decide)).trans h93; clear h93 ha hp
                  refine Reg.Op1.guarded rfl rfl e93 (fun _ => Reg.Op1.plain rfl ?_) (fun h => absurd rfl h)
                  go_wp2
                  exact ⟨rfl, hK _ _ rfl (fun j k _ _ => Reg.Adds.refl _ _ _)⟩
                · intro val ac u hR hp ha K hK
                  obtain ⟨w99, h99, r99⟩ := hp 19 (by decide); have e99 : (ac.tmps[99]?).getD undef = .slice (some ⟨b, o, none⟩) h.length c := (ha 99 (by decide)).trans h99; obtain ⟨w100, h100, r100⟩ := hp 20 (by decide); have e100 : (ac.tmps[100]?).getD undef = .int .i64 k := (ha 100 (by decide)).trans h100; obtain ⟨w93, h93, r93⟩ := hp 13 (by decide); have e93 : (ac.tmps[93]?).getD undef = .bool false := (ha 93 (by decide)).trans h93; clear h99 h100 h93 ha hp
                  refine Reg.Op1.guarded rfl rfl e93 (fun _ => Reg.Op1.plain rfl ?_) (fun h => absurd rfl h)
                  go_wp2
                  exact ⟨rfl, hK _ _ rfl (fun j k _ _ => Reg.Adds.refl _ _ _)⟩
                · intro val ac u hR hp ha K hK
                  obtain ⟨w101, h101, r101⟩ := hp 21 (by decide); have e101 : (ac.tmps[101]?).getD undef = .pointer (some ⟨b, o + k * 20, none⟩) := (ha 101 (by decide)).trans h101; obtain ⟨w93, h93, r93⟩ := hp 13 (by decide); have e93 : (ac.tmps[93]?).getD undef = .bool false := (ha 93 (by decide)).trans h93; clear h101 h93 ha hp
                  refine Reg.Op1.guarded rfl rfl e93 (fun _ => Reg.Op1.plain rfl ?_) (fun h => absurd rfl h)
                  go_wp2
                  exact ⟨rfl, hK _ _ rfl (fun j k _ _ => Reg.Adds.refl _ _ _)⟩
                · intro val ac u hR hp ha K hK
                  obtain ⟨w102, h102, r102⟩ := hp 22 (by decide); have e102 : (ac.tmps[102]?).getD undef = .pointer (some ⟨b, o + k * 20 + 11, none⟩) := (ha 102 (by decide)).trans h102; obtain ⟨w93, h93, r93⟩ := hp 13 (by decide); have e93 : (ac.tmps[93]?).getD undef = .bool false := (ha 93 (by decide)).trans h93; clear h102 h93 ha hp
                  refine Reg.Op1.guarded rfl rfl e93 (fun _ => Reg.Op1.plain rfl ?_) (fun h => absurd rfl h)
                  refine Mem.load_aggG _ _ vec_agg b (o + k * 20 + 11) (Vec.vcCells e.cut) (by simp [Region.wanted]) (Reg.eval_of e102) (Vec.vcCells_length _) (fun q u' hu => (hR.cell (p := ⟨b, o + k * 20 + 11 + q, none⟩) hg1).trans (HC1.out q u' hu)) ?_
                  exact ⟨rfl, hK _ _ rfl (fun j k _ _ => Reg.Adds.refl _ _ _)⟩
                · intro val ac u hR hp ha K hK
                  obtain ⟨w98, h98, r98⟩ := hp 18 (by decide); have e98 : (ac.tmps[98]?).getD undef = .agg (Vec.vcCells e.cut).toArray := (ha 98 (by decide)).trans h98; obtain ⟨w103, h103, r103⟩ := hp 23 (by decide); have e103 : (ac.tmps[103]?).getD undef = .agg (Vec.vcCells e.cut).toArray := (ha 103 (by decide)).trans h103; obtain ⟨w93, h93, r93⟩ := hp 13 (by decide); have e93 : (ac.tmps[93]?).getD undef = .bool false := (ha 93 (by decide)).trans h93; clear h98 h103 h93 ha hp
                  refine Reg.Op1.guarded rfl rfl e93 (fun _ => Reg.Op1.plain rfl ?_) (fun h => absurd rfl h)
                  have hqq := HQ.out
                  go_wp2
                  exact ⟨rfl, hK _ _ rfl (fun j k _ _ => Reg.Adds.refl _ _ _)⟩
                · intro val ac u hR hp ha K hK
                  obtain ⟨w93, h93, r93⟩ := hp 13 (by decide); have e93 : (ac.tmps[93]?).getD undef = .bool false := (ha 93 (by decide)).trans h93; obtain ⟨w104, h104, r104⟩ := hp 24 (by decide); have e104 : (ac.tmps[104]?).getD undef = .bool false := (ha 104 (by decide)).trans h104; clear h93 h104 ha hp
                  refine Reg.Op1.plain rfl ?_
                  go_wp2
                  exact ⟨rfl, hK _ _ rfl (fun j k _ _ => Reg.Adds.refl _ _ _)⟩
                · intro val ac u hR hp ha K hK
                  obtain ⟨w105, h105, r105⟩ := hp 25 (by decide); have e105 : (ac.tmps[105]?).getD undef = .bool false := (ha 105 (by decide)).trans h105; clear h105 ha hp
                  refine Reg.Op1.plain rfl ?_
                  go_wp2
                  exact ⟨rfl, hK _ _ rfl (fun j k _ _ => Reg.Adds.refl _ _ _)⟩
                · intro val ac u hR hp ha K hK
                  have e5 : (ac.tmps[5]?).getD undef = .slice (some ⟨b3, o3, none⟩) h.length c3 := ha 5 (by decide); obtain ⟨w106, h106, r106⟩ := hp 26 (by decide); have e106 : (ac.tmps[106]?).getD undef = .bool false := (ha 106 (by decide)).trans h106; clear h106 ha hp
                  refine Reg.Op1.guarded rfl rfl e106 (fun _ => Reg.Op1.plain rfl ?_) (fun h => absurd rfl h)
                  go_wp2
                  exact ⟨rfl, hK _ _ rfl (fun j k _ _ => Reg.Adds.refl _ _ _)⟩
                · intro val ac u hR hp ha K hK
                  have e10 : (ac.tmps[10]?).getD undef = .int .i64 k := ha 10 (by decide); obtain ⟨w106, h106, r106⟩ := hp 26 (by decide); have e106 : (ac.tmps[106]?).getD undef = .bool false := (ha 106 (by decide)).trans h106; clear h106 ha hp
                  refine Reg.Op1.guarded rfl rfl e106 (fun _ => Reg.Op1.plain rfl ?_) (fun h => absurd rfl h)
                  go_wp2
                  exact ⟨rfl, hK _ _ rfl (fun j k _ _ => Reg.Adds.refl _ _ _)⟩
                · intro val ac u hR hp ha K hK
                  obtain ⟨w107, h107, r107⟩ := hp 27 (by decide); have e107 : (ac.tmps[107]?).getD undef = .slice (some ⟨b3, o3, none⟩) h.length c3 := (ha 107 (by decide)).trans h107; obtain ⟨w108, h108, r108⟩ := hp 28 (by decide); have e108 : (ac.tmps[108]?).getD undef = .int .i64 k := (ha 108 (by decide)).trans h108; obtain ⟨w106, h106, r106⟩ := hp 26 (by decide); have e106 : (ac.tmps[106]?).getD undef = .bool false := (ha 106 (by decide)).trans h106; clear h107 h108 h106 ha hp
                  refine Reg.Op1.guarded rfl rfl e106 (fun _ => Reg.Op1.plain rfl ?_) (fun h => absurd rfl h)
                  go_wp2
                  exact ⟨rfl, hK _ _ rfl (fun j k _ _ => Reg.Adds.refl _ _ _)⟩
                · intro val ac u hR hp ha K hK
                  obtain ⟨w109, h109, r109⟩ := hp 29 (by decide); have e109 : (ac.tmps[109]?).getD undef = .pointer (some ⟨b3, o3 + k * 20, none⟩) := (ha 109 (by decide)).trans h109; obtain ⟨w106, h106, r106⟩ := hp 26 (by decide); have e106 : (ac.tmps[106]?).getD undef = .bool false := (ha 106 (by decide)).trans h106; clear h109 h106 ha hp
                  refine Reg.Op1.guarded rfl rfl e106 (fun _ => Reg.Op1.plain rfl ?_) (fun h => absurd rfl h)
                  go_wp2
                  exact ⟨rfl, hK _ _ rfl (fun j k _ _ => Reg.Adds.refl _ _ _)⟩
                · intro val ac u hR hp ha K hK
                  obtain ⟨w110, h110, r110⟩ := hp 30 (by decide); have e110 : (ac.tmps[110]?).getD undef = .pointer (some ⟨b3, o3 + k * 20 + 1, none⟩) := (ha 110 (by decide)).trans h110; obtain ⟨w106, h106, r106⟩ := hp 26 (by decide); have e106 : (ac.tmps[106]?).getD undef = .bool false := (ha 106 (by decide)).trans h106; clear h110 h106 ha hp
                  refine Reg.Op1.guarded rfl rfl e106 (fun _ => Reg.Op1.plain rfl ?_) (fun h => absurd rfl h)
                  have z0 := (hR.cell (p := ⟨b3, o3 + k * 20 + 1, none⟩) hg3).trans x1
                  go_wp2
                  exact ⟨rfl, hK _ _ rfl (fun j k _ _ => Reg.Adds.refl _ _ _)⟩
                · intro val ac u hR hp ha K hK
                  have e0 : (ac.tmps[0]?).getD undef = .slice (some ⟨b, o, none⟩) h.length c := ha 0 (by decide); obtain ⟨w106, h106, r106⟩ := hp 26 (by decide); have e106 : (ac.tmps[106]?).getD undef = .bool false := (ha 106 (by decide)).trans h106; clear h106 ha hp
                  refine Reg.Op1.guarded rfl rfl e106 (fun _ => Reg.Op1.plain rfl ?_) (fun h => absurd rfl h)
                  go_wp2
                  exact ⟨rfl, hK _ _ rfl (fun j k _ _ => Reg.Adds.refl _ _ _)⟩
                · intro val ac u hR hp ha K hK
                  have e10 : (ac.tmps[10]?).getD undef = .int .i64 k := ha 10 (by decide); obtain ⟨w106, h106, r106⟩ := hp 26 (by decide); have e106 : (ac.tmps[106]?).getD undef = .bool false := (ha 106 (by decide)).trans h106; clear h106 ha hp
                  refine Reg.Op1.guarded rfl rfl e106 (fun _ => Reg.Op1.plain rfl ?_) (fun h => absurd rfl h)
                  go_wp2
                  exact ⟨rfl, hK _ _ rfl (fun j k _ _ => Reg.Adds.refl _ _ _)⟩
                · intro val ac u hR hp ha K hK
                  obtain ⟨w112, h112, r112⟩ := hp 32 (by decide); have e112 : (ac.tmps[112]?).getD undef = .slice (some ⟨b, o, none⟩) h.length c := (ha 112 (by decide)).trans h112; obtain ⟨w113, h113, r113⟩ := hp 33 (by decide); have e113 : (ac.tmps[113]?).getD undef = .int .i64 k := (ha 113 (by decide)).trans h113; obtain ⟨w106, h106, r106⟩ := hp 26 (by decide); have e106 : (ac.tmps[106]?).getD undef = .bool false := (ha 106 (by decide)).trans h106; clear h112 h113 h106 ha hp
                  refine Reg.Op1.guarded rfl rfl e106 (fun _ => Reg.Op1.plain rfl ?_) (fun h => absurd rfl h)
                  go_wp2
                  exact ⟨rfl, hK _ _ rfl (fun j k _ _ => Reg.Adds.refl _ _ _)⟩
                · intro val ac u hR hp ha K hK
                  obtain ⟨w114, h114, r114⟩ := hp 34 (by decide); have e114 : (ac.tmps[114]?).getD undef = .pointer (some ⟨b, o + k * 20, none⟩) := (ha 114 (by decide)).trans h114; obtain ⟨w106, h106, r106⟩ := hp 26 (by decide); have e106 : (ac.tmps[106]?).getD undef = .bool false := (ha 106 (by decide)).trans h106; clear h114 h106 ha hp
                  refine Reg.Op1.guarded rfl rfl e106 (fun _ => Reg.Op1.plain rfl ?_) (fun h => absurd rfl h)
                  go_wp2
                  exact ⟨rfl, hK _ _ rfl (fun j k _ _ => Reg.Adds.refl _ _ _)⟩
                · intro val ac u hR hp ha K hK
                  obtain ⟨w115, h115, r115⟩ := hp 35 (by decide); have e115 : (ac.tmps[115]?).getD undef = .pointer (some ⟨b, o + k * 20 + 1, none⟩) := (ha 115 (by decide)).trans h115; obtain ⟨w106, h106, r106⟩ := hp 26 (by decide); have e106 : (ac.tmps[106]?).getD undef = .bool false := (ha 106 (by decide)).trans h106; clear h115 h106 ha hp
                  refine Reg.Op1.guarded rfl rfl e106 (fun _ => Reg.Op1.plain rfl ?_) (fun h => absurd rfl h)
                  have z0 := (hR.cell (p := ⟨b, o + k * 20 + 1, none⟩) hg1).trans y1
                  go_wp2
                  exact ⟨rfl, hK _ _ rfl (fun j k _ _ => Reg.Adds.refl _ _ _)⟩
                · intro val ac u hR hp ha K hK
                  obtain ⟨w111, h111, r111⟩ := hp 31 (by decide); have e111 : (ac.tmps[111]?).getD undef = .int .i64 e.op := (ha 111 (by decide)).trans h111; obtain ⟨w116, h116, r116⟩ := hp 36 (by decide); have e116 : (ac.tmps[116]?).getD undef = .int .i64 e.op := (ha 116 (by decide)).trans h116; obtain ⟨w106, h106, r106⟩ := hp 26 (by decide); have e106 : (ac.tmps[106]?).getD undef = .bool false := (ha 106 (by decide)).trans h106; clear h111 h116 h106 ha hp
                  refine Reg.Op1.guarded rfl rfl e106 (fun _ => Reg.Op1.plain rfl ?_) (fun h => absurd rfl h)
                  go_wp2
                  exact ⟨rfl, hK _ _ rfl (fun j k _ _ => Reg.Adds.refl _ _ _)⟩
                · intro val ac u hR hp ha K hK
                  obtain ⟨w106, h106, r106⟩ := hp 26 (by decide); have e106 : (ac.tmps[106]?).getD undef = .bool false := (ha 106 (by decide)).trans h106; obtain ⟨w117, h117, r117⟩ := hp 37 (by decide); have e117 : (ac.tmps[117]?).getD undef = .bool false := (ha 117 (by decide)).trans h117; clear h106 h117 ha hp
                  refine Reg.Op1.plain rfl ?_
                  go_wp2
                  exact ⟨rfl, hK _ _ rfl (fun j k _ _ => Reg.Adds.refl _ _ _)⟩
              · intro val u hR H
                obtain ⟨_, hv, _⟩ := H 38 (by decide)
                have hv : val 38 = .bool false := hv
                have HKu : Hid (Below wr.heap.size wr u) := (Below.refl _ wr).drew.trans hR
                simp only [List.map_cons, List.map_nil, Reg.lay, Act.put, List.setIfInBounds_toArray, List.set_cons_succ, List.set_cons_zero, Nat.reduceAdd, hv]
                clear hR H hv
                go_wp2
                go_meet
                case rel => exact ⟨rfl, HKu.out⟩
            case rest =>
              obtain ⟨rfl, hbc⟩ := hcut
              rename World => wy
              have HBY : Hid (Below w11.heap.size w11 wy) := HB.out.trans (hbc.mono HB.out.size)
              clear hbc x10 x1 y10 y1 HC3 HC1 HQ HB hg1 hg3
              go_wp2
              go_loopw [11] (ChRel e.res.length w11) (fun t _ => e.res.length - (intOf t).toNat)
              case atStart => exact ⟨⟨0, by omega, rfl, HBY⟩⟩
              case round =>
                obtain ⟨j, hj, rfl, HB⟩ := hrel.out
                clear hrel
                have hbw := HAW.out wr HB.out
                have y10 : wr.cell? ⟨b, o + k * 20 + 10, none⟩ = some (.slice e.rA e.res.length e.rc) := (hbw.cell (p := ⟨b, o + k * 20 + 10, none⟩) HBL.out).trans (HAT0.out 10 _ rfl)
                have x10 : wr.cell? ⟨b3, o3 + k * 20 + 10, none⟩ = some (.slice e3.rA e.res.length e3.rc) := (HB.out.cell (p := ⟨b3, o3 + k * 20 + 10, none⟩) HBL3.out).trans (by rw [← HRS.out]; exact HAT30.out 10 _ rfl)
                have hkl : k < h.length := HLT.out
                by_cases hlj : j < e.res.length
                · obtain ⟨b6, o6, r, hA6, hb6, hr6, hat6⟩ := rs_elemR HEK.out.r hlj
                  obtain ⟨b5, o5, r', hA5, hb5, hr5, hat5⟩ := rs_elemR HE3.out.r.rd (show j < e3.res.length by rw [HRS.out]; exact hlj)
                  rw [HRS.out, hr6] at hr5
                  obtain rfl : r = r' := Option.some.inj hr5
                  rw [hA6] at y10
                  rw [hA5] at x10
                  have HR6 : Hid (∀ q u, (rsCells r)[q]? = some u → wr.cell? ⟨b6, o6 + j * 22 + q, none⟩ = some u) := fun q u hu => (hbw.cell (p := ⟨b6, o6 + j * 22 + q, none⟩) hb6).trans (hat6 q u hu)
                  have HR5 : Hid (∀ q u, (rsCells r)[q]? = some u → wr.cell? ⟨b5, o5 + j * 22 + q, none⟩ = some u) := fun q u hu => (HB.out.cell (p := ⟨b5, o5 + j * 22 + q, none⟩) hb5).trans (hat5 q u hu)
                  have hg1 : b < wr.heap.size := Nat.lt_of_lt_of_le HBL.out hbw.size
                  have hg3 : b3 < wr.heap.size := Nat.lt_of_lt_of_le HBL3.out HB.out.size
                  have hg5 : b5 < wr.heap.size := Nat.lt_of_lt_of_le hb5 HB.out.size
                  have hg6 : b6 < wr.heap.size := Nat.lt_of_lt_of_le hb6 hbw.size
                  have d3 : decide ((j : Int) < (e.res.length : Int)) = true := by simp; omega
                  have HLJ := Lib.hid hlj
                  have HQ := Lib.hid (fun W => neq_resR r W)
                  clear hA6 hb6 hr6 hat6 hA5 hb5 hr5 hat5 hbw
                  go_upto_region 24 with fail
                  refine Reg.wp_region_rel (by kernel_rfl) 161 17 rfl rfl (by kernel_rfl) (Reg.Adds) (Reg.Adds.refl) (Reg.Adds.trans)
                    (fun i v u => match i with
                      | 0 => v = .slice (some ⟨b3, o3, none⟩) h.length c3
                      | 1 => v = .int .i64 k
                      | 2 => v = .pointer (some ⟨b3, o3 + k * 20, none⟩)
                      | 3 => v = .pointer (some ⟨b3, o3 + k * 20 + 10, none⟩)
                      | 4 => v = .slice (some ⟨b5, o5, none⟩) e.res.length e3.rc
                      | 5 => v = .int .i64 j
                      | 6 => v = .pointer (some ⟨b5, o5 + j * 22, none⟩)
                      | 7 => v = .agg (rsCells r).toArray
                      | 8 => v = .slice (some ⟨b, o, none⟩) h.length c
                      | 9 => v = .int .i64 k
                      | 10 => v = .pointer (some ⟨b, o + k * 20, none⟩)
                      | 11 => v = .pointer (some ⟨b, o + k * 20 + 10, none⟩)
                      | 12 => v = .slice (some ⟨b6, o6, none⟩) e.res.length e.rc
                      | 13 => v = .int .i64 j
                      | 14 => v = .pointer (some ⟨b6, o6 + j * 22, none⟩)
                      | 15 => v = .agg (rsCells r).toArray
                      | 16 => v = .bool false
                      | _ => True) ?_ ?_
                  · refine Reg.Steps.cons ?_ (Reg.Steps.cons ?_ (Reg.Steps.cons ?_ (Reg.Steps.cons ?_ (Reg.Steps.cons ?_ (Reg.Steps.cons ?_ (Reg.Steps.cons ?_ (Reg.Steps.cons ?_ (Reg.Steps.cons ?_ (Reg.Steps.cons ?_ (Reg.Steps.cons ?_ (Reg.Steps.cons ?_ (Reg.Steps.cons ?_ (Reg.Steps.cons ?_ (Reg.Steps.cons ?_ (Reg.Steps.cons ?_ (Reg.Steps.cons ?_ (Reg.Steps.nil _)))))))))))))))))
                    · intro val ac u hR hp ha K hK
                      have e5 : (ac.tmps[5]?).getD undef = .slice (some ⟨b3, o3, none⟩) h.length c3 := ha 5 (by decide); clear ha hp
                      refine Reg.Op1.plain rfl ?_
                      go_wp2
                      exact ⟨rfl, hK _ _ rfl (fun j k _ _ => Reg.Adds.refl _ _ _)⟩
                    · intro val ac u hR hp ha K hK
                      have e10 : (ac.tmps[10]?).getD undef = .int .i64 k := ha 10 (by decide); clear ha hp
                      refine Reg.Op1.plain rfl ?_
                      go_wp2
                      exact ⟨rfl, hK _ _ rfl (fun j k _ _ => Reg.Adds.refl _ _ _)⟩
                    · intro val ac u hR hp ha K hK
                      obtain ⟨w129, h129, r129⟩ := hp 0 (by decide); have e129 : (ac.tmps[129]?).getD undef = .slice (some ⟨b3, o3, none⟩) h.length c3 := (ha 129 (by decide)).trans h129; obtain ⟨w130, h130, r130⟩ := hp 1 (by decide); have e130 : (ac.tmps[130]?).getD undef = .int .i64 k := (ha 130 (by decide)).trans h130; clear h129 h130 ha hp
                      refine Reg.Op1.plain rfl ?_
                      go_wp2
                      exact ⟨rfl, hK _ _ rfl (fun j k _ _ => Reg.Adds.refl _ _ _)⟩
                    · intro val ac u hR hp ha K hK
                      obtain ⟨w131, h131, r131⟩ := hp 2 (by decide); have e131 : (ac.tmps[131]?).getD undef = .pointer (some ⟨b3, o3 + k * 20, none⟩) := (ha 131 (by decide)).trans h131; clear h131 ha hp
                      refine Reg.Op1.plain rfl ?_
                      go_wp2
                      exact ⟨rfl, hK _ _ rfl (fun j k _ _ => Reg.Adds.refl _ _ _)⟩
                    · intro val ac u hR hp ha K hK
                      obtain ⟨w132, h132, r132⟩ := hp 3 (by decide); have e132 : (ac.tmps[132]?).getD undef = .pointer (some ⟨b3, o3 + k * 20 + 10, none⟩) := (ha 132 (by decide)).trans h132; clear h132 ha hp
                      refine Reg.Op1.plain rfl ?_
                      have z0 := (hR.cell (p := ⟨b3, o3 + k * 20 + 10, none⟩) hg3).trans x10
                      go_wp2
                      exact ⟨rfl, hK _ _ rfl (fun j k _ _ => Reg.Adds.refl _ _ _)⟩
                    · intro val ac u hR hp ha K hK
                      have e11 : (ac.tmps[11]?).getD undef = .int .i64 j := ha 11 (by decide); clear ha hp
                      refine Reg.Op1.plain rfl ?_
                      go_wp2
                      exact ⟨rfl, hK _ _ rfl (fun j k _ _ => Reg.Adds.refl _ _ _)⟩
                    · intro val ac u hR hp ha K hK
                      obtain ⟨w133, h133, r133⟩ := hp 4 (by decide); have e133 : (ac.tmps[133]?).getD undef = .slice (some ⟨b5, o5, none⟩) e.res.length e3.rc := (ha 133 (by decide)).trans h133; obtain ⟨w134, h134, r134⟩ := hp 5 (by decide); have e134 : (ac.tmps[134]?).getD undef = .int .i64 j := (ha 134 (by decide)).trans h134; clear h133 h134 ha hp
                      refine Reg.Op1.plain rfl ?_
                      go_wp2
                      exact ⟨rfl, hK _ _ rfl (fun j k _ _ => Reg.Adds.refl _ _ _)⟩
                    · intro val ac u hR hp ha K hK
                      obtain ⟨w135, h135, r135⟩ := hp 6 (by decide); have e135 : (ac.tmps[135]?).getD undef = .pointer (some ⟨b5, o5 + j * 22, none⟩) := (ha 135 (by decide)).trans h135; clear h135 ha hp
                      refine Reg.Op1.plain rfl ?_
                      refine Mem.load_agg _ _ result_agg b5 (o5 + j * 22) (rsCells r) (Reg.eval_of e135) (rsCells_length _) (fun q u' hu => (hR.cell (p := ⟨b5, o5 + j * 22 + q, none⟩) hg5).trans (HR5.out q u' hu)) ?_
                      exact ⟨rfl, hK _ _ rfl (fun j k _ _ => Reg.Adds.refl _ _ _)⟩
                    · intro val ac u hR hp ha K hK
                      have e0 : (ac.tmps[0]?).getD undef = .slice (some ⟨b, o, none⟩) h.length c := ha 0 (by decide); clear ha hp
                      refine Reg.Op1.plain rfl ?_
                      go_wp2
                      exact ⟨rfl, hK _ _ rfl (fun j k _ _ => Reg.Adds.refl _ _ _)⟩
                    · intro val ac u hR hp ha K hK
                      have e10 : (ac.tmps[10]?).getD undef = .int .i64 k := ha 10 (by decide); clear ha hp
                      refine Reg.Op1.plain rfl ?_
                      go_wp2
                      exact ⟨rfl, hK _ _ rfl (fun j k _ _ => Reg.Adds.refl _ _ _)⟩
                    · intro val ac u hR hp ha K hK
                      obtain ⟨w137, h137, r137⟩ := hp 8 (by decide); have e137 : (ac.tmps[137]?).getD undef = .slice (some ⟨b, o, none⟩) h.length c := (ha 137 (by decide)).trans h137; obtain ⟨w138, h138, r138⟩ := hp 9 (by decide); have e138 : (ac.tmps[138]?).getD undef = .int .i64 k := (ha 138 (by decide)).trans h138; clear h137 h138 ha hp
                      refine Reg.Op1.plain rfl ?_
                      go_wp2
                      exact ⟨rfl, hK _ _ rfl (fun j k _ _ => Reg.Adds.refl _ _ _)⟩
                    · intro val ac u hR hp ha K hK
                      obtain ⟨w139, h139, r139⟩ := hp 10 (by decide); have e139 : (ac.tmps[139]?).getD undef = .pointer (some ⟨b, o + k * 20, none⟩) := (ha 139 (by decide)).trans h139; clear h139 ha hp
                      refine Reg.Op1.plain rfl ?_
                      go_wp2
                      exact ⟨rfl, hK _ _ rfl (fun j k _ _ => Reg.Adds.refl _ _ _)⟩
                    · intro val ac u hR hp ha K hK
                      obtain ⟨w140, h140, r140⟩ := hp 11 (by decide); have e140 : (ac.tmps[140]?).getD undef = .pointer (some ⟨b, o + k * 20 + 10, none⟩) := (ha 140 (by decide)).trans h140; clear h140 ha hp
                      refine Reg.Op1.plain rfl ?_
                      have z0 := (hR.cell (p := ⟨b, o + k * 20 + 10, none⟩) hg1).trans y10
                      go_wp2
                      exact ⟨rfl, hK _ _ rfl (fun j k _ _ => Reg.Adds.refl _ _ _)⟩
                    · intro val ac u hR hp ha K hK
                      have e11 : (ac.tmps[11]?).getD undef = .int .i64 j := ha 11 (by decide); clear ha hp
                      refine Reg.Op1.plain rfl ?_
                      go_wp2
                      exact ⟨rfl, hK _ _ rfl (fun j k _ _ => Reg.Adds.refl _ _ _)⟩
                    · intro val ac u hR hp ha K hK
                      obtain ⟨w141, h141, r141⟩ := hp 12 (by decide); have e141 : (ac.tmps[141]?).getD undef = .slice (some ⟨b6, o6, none⟩) e.res.length e.rc := (ha 141 (by decide)).trans h141; obtain ⟨w142, h142, r142⟩ := hp 13 (by decide); have e142 : (ac.tmps[142]?).getD undef = .int .i64 j := (ha 142 (by decide)).trans h142; clear h141 h142 ha hp
                      refine Reg.Op1.plain rfl ?_
                      go_wp2
                      exact ⟨rfl, hK _ _ rfl (fun j k _ _ => Reg.Adds.refl _ _ _)⟩
                    · intro val ac u hR hp ha K hK
                      obtain ⟨w143, h143, r143⟩ := hp 14 (by decide); have e143 : (ac.tmps[143]?).getD undef = .pointer (some ⟨b6, o6 + j * 22, none⟩) := (ha 143 (by decide)).trans h143; clear h143 ha hp
                      refine Reg.Op1.plain rfl ?_
                      refine Mem.load_agg _ _ result_agg b6 (o6 + j * 22) (rsCells r) (Reg.eval_of e143) (rsCells_length _) (fun q u' hu => (hR.cell (p := ⟨b6, o6 + j * 22 + q, none⟩) hg6).trans (HR6.out q u' hu)) ?_
                      exact ⟨rfl, hK _ _ rfl (fun j k _ _ => Reg.Adds.refl _ _ _)⟩
                    · intro val ac u hR hp ha K hK
                      obtain ⟨w136, h136, r136⟩ := hp 7 (by decide); have e136 : (ac.tmps[136]?).getD undef = .agg (rsCells r).toArray := (ha 136 (by decide)).trans h136; obtain ⟨w144, h144, r144⟩ := hp 15 (by decide); have e144 : (ac.tmps[144]?).getD undef = .agg (rsCells r).toArray := (ha 144 (by decide)).trans h144; clear h136 h144 ha hp
                      refine Reg.Op1.plain rfl ?_
                      have hqq := HQ.out
                      go_wp2
                      exact ⟨rfl, hK _ _ rfl (fun j k _ _ => Reg.Adds.refl _ _ _)⟩
                  · intro val u hR H
                    obtain ⟨_, hv, _⟩ := H 16 (by decide)
                    have hv : val 16 = .bool false := hv
                    have HKu : Hid (Below wr.heap.size wr u) := (Below.refl _ wr).drew.trans hR
                    simp only [List.map_cons, List.map_nil, Reg.lay, Act.put, List.setIfInBounds_toArray, List.set_cons_succ, List.set_cons_zero, Nat.reduceAdd, hv]
                    clear hR H hv
                    go_wp2
                    go_roundw
                    case rel => exact ⟨⟨j + 1, HLJ.out, by go_num, HB.out.trans (HKu.out.mono HB.out.size)⟩⟩
                    case measure => exact Au.meas_lt HLJ.out
                · obtain rfl : j = e.res.length := by omega
                  have d3 : decide ((e.res.length : Int) < (e.res.length : Int)) = false := by simp
                  clear hbw x10
                  go_wp2
                  go_roundw
                  case rel => exact ⟨⟨k + 1, HLT.out, by go_num, HB⟩⟩
                  case measure => exact Au.meas_lt HLT.out
          · obtain rfl : k = h.length := by omega
            have d0 : decide ((h.length : Int) < (h.length : Int)) = false := by simp
            go_wp2
            rename World => w13
            have HB13 := Lib.hid (HAW.out _ HB.out)
            have HL13 := Lib.hid (HL11.out.below HB.out (fun q hq => HL11.out.lt hq))
            have HK13 := Lib.hid (HK11.out.below HB.out (fun q hq => HK11.out.lt hq))
            go_loopw [12] (Ch4Rel l.length X7 c7 w13) (fun t _ => l.length - (intOf t).toNat)
            case atStart => exact ⟨⟨0, _, by omega, rfl, HL13, Mem.Keeps.refl _ _⟩⟩
            case round =>
              clear HB
              obtain ⟨k, zs, hk, rfl, HO, HKP⟩ := hrel.out
              clear hrel d0
              by_cases hlt : k < l.length
              · obtain ⟨g7, o7, rfl⟩ := HO.out.form (by omega)
                have d0 : decide ((k : Int) < (l.length : Int)) = true := by simp; omega
                have HLT := Lib.hid hlt
                have ho := fi_one ⟨0, 0⟩
                go_wp2_with ((with_reducible refine Mem.store_elem _ 2 finding_agg _ l.length c7 g7 o7 k zs (fiCells ⟨0, 0⟩) ?hxz ?hyz HO.out (fiCells_length _) hlt ho ?_); ((case hxz => exact rfl); (case hyz => exact rfl); intro w14 ho14 hk14 hs14; have HO14 := Lib.hid ho14; have HK14 := Lib.hid hk14; clear ho14 hk14 hs14))
                go_roundw
                case rel => exact ⟨⟨k + 1, _, HLT.out, by go_num, HO14, HKP.out.trans HK14.out (fun q hq _ => by subst hq; rfl)⟩⟩
                case measure => exact Au.meas_lt HLT.out
              · obtain rfl : k = l.length := by omega
                have d0 : decide ((l.length : Int) < (l.length : Int)) = false := by simp
                have hbw : Below w.heap.size w wr := HB13.out.trans (HKP.out.below (fun q hq => HF7W.out.blk q hq) HB13.out.size)
                have HBW := Lib.hid hbw
                have HKR : Hid (Mem.Rd wr wr.heap.size X8 (l.flatMap fiCells)) := (HK13.out.keeps HKP.out (fun q hq h => HX78.out q h hq)).rd
                clear hbw
                go_wp2_with (first
                  | (go_at_call 14; (refine (HREF.out wr HBW.out).mono ?_; rintro x w15 ⟨X15, c15, rfl, ho15, hf15, hb15⟩; have HO15 := Lib.hid ho15; have HB15 := Lib.hid hb15; clear ho15 hf15 hb15))
                  | (go_at_call 13; (refine (findings_any X8 c8 l X15 c15 l w15.heap.size w15 ((HKR.out.below HB15.out).more HB15.out.size) HO15.out.rd (Nat.le_refl _) (by omega) (by omega)).mono ?_; rintro x w16 ⟨bb, rfl, hbb, hb16⟩; obtain rfl : bb = true := hbb.2 rfl; have HB16 := Lib.hid hb16; clear hbb hb16)))
                go_ret
                exact ⟨rfl, HBW.out.trans ((HB15.out.trans (HB16.out.mono HB15.out.size)).mono HBW.out.size)⟩
set_option maxRecDepth 20000 in
theorem opened {H : Type} (enc : TypeId × Value → H) (W : World) (base : Nat) (v0 v1 : Value) {d0 d1 : DataW H} {p0 p1 : List MemPlace}
    (o0 : Value.okWide Try.prog W .any base 22 v0) (o1 : Value.okWide Try.prog W .any base 23 v1)
    (k0 : DataW.Trod enc Try.prog W 0 (fun _ => true) true 22 v0 d0 p0) (k1 : DataW.Trod enc Try.prog W 0 (fun _ => true) true 23 v1 d1 p1)
    (z0 : (d0.weights Try.prog 22).all (· ≤ reachBytes) = true) (z1 : (d1.weights Try.prog 23).all (· ≤ reachBytes) = true) :
    Calls Try.prog 3 #[v0, v1] W fun e w' => e = .returned (.bool true) ∧ Below W.heap.size W w' := by
  obtain ⟨A, c, h, rfl, h1, h2, h3, h4⟩ := open_events o0 k0 z0
  obtain ⟨A2, c2, ws, rfl, g1, g2, g3, g4⟩ := open_ents o1 k1 z1
  exact walk A c h A2 c2 ws W h3 g3 (by omega) (by omega) h4 g4
end auditChecksOpen
end Go.Proofs.Ytelephoalpphkaa
end
section
/- 'causewaylaw24.AuditChecks' returns true for every input and leaves what it was handed as it was: the given statement, by the walk of the text that is imported. No conditions. -/
namespace Go.Proofs.Ytelephoalpphkaa.auditChecks
open Go.ChangeShapes Go.WideShapes Go.ChangeAt Go.RowKit
set_option linter.unusedVariables false
set_option linter.unusedSimpArgs false
theorem own : ownKnob Try.prog.godebug = none := by kernel_rfl
theorem laidOut : laidOutB Try.prog = true := by kernel_rfl
set_option maxRecDepth 100000 in
theorem lifted (os : Os) (started : os.Started) (H : Type) (enc : TypeId × Value → H) :
    ReturnsInHanded {} Try.checked os 3 .any (Rows.auditChecksSpec.pre6 enc Try.prog Try.f3 Rows.auditChecksRow.domain false) (Rows.auditChecksSpec.post enc Try.prog Try.f3 false true false false) := by
  refine returnsInHanded_of_change_sized (C := Try.checked) own started (by kernel_rfl) Try.func3
    (ChangeSpec.witness6 (enc := enc) (C := Try.checked) false ⟨#[], #[.slice none 0 0, .slice none 0 0], []⟩ 8 (by kernel_rfl) (by kernel_rfl) (by kernel_rfl) (by kernel_rfl)) ?_
  intro W base args ds gs before hval0 hW hcnd hsz _
  have hval : ∀ (j : Nat) t v, Try.f3.params[j]? = some t → args[j]? = some v → Value.okWide Try.prog W .any base t v := hval0
  have hW' := hW
  obtain ⟨p, q, hA0, hV, rfl, hfz, hnd⟩ := hW
  have hA : DataW.TrodAll enc Try.prog W 0 (fun _ => true) true Try.f3.params.toList args.toList ds p := hA0
  rw [Try.params3] at hA hval
  obtain ⟨v0, vs0, d0, ds0, p0, q0, hargs, rfl, rfl, h0, r0⟩ := trodAll_cons hA
  obtain ⟨v1, vs1, d1, ds1, p1, q1, rfl, rfl, rfl, h1, r1⟩ := trodAll_cons r0
  obtain ⟨rfl, rfl, rfl⟩ := trodAll_nil r1
  obtain rfl : args = #[v0, v1] := by cases args; simp_all
  obtain ⟨rfl, rfl⟩ := trodVars_none hV
  have lt0 : ∀ x ∈ p0, x.block < W.heap.size := by obtain ⟨m, hm⟩ := h0; exact DataW.trod_lt m _ _ _ hm
  have lt1 : ∀ x ∈ p1, x.block < W.heap.size := by obtain ⟨m, hm⟩ := h1; exact DataW.trod_lt m _ _ _ hm
  have z0 : (d0.weights Try.prog 22).all (· ≤ reachBytes) = true := by rw [List.all_eq_true]; intro n hn; exact List.all_eq_true.1 hsz n (DataW.weights_mem_each (j := 0) (by kernel_rfl) rfl n hn)
  have z1 : (d1.weights Try.prog 23).all (· ≤ reachBytes) = true := by rw [List.all_eq_true]; intro n hn; exact List.all_eq_true.1 hsz n (DataW.weights_mem_each (j := 1) (by kernel_rfl) rfl n hn)
  clear hA0
  refine (auditChecksOpen.opened enc W base v0 v1 (hval 0 22 v0 rfl rfl) (hval 1 23 v1 rfl rfl) h0 h1 z0 z1).mono fun e W' ⟨he, bel⟩ => ?_
  subst he
  exact ⟨_, rfl, _, _, _, [], _, [], hW', trodAll_mk1 (shut_bool Try.underlying4 _), (trodAll_cons_mk (Below.trod laidOut (by kernel_rfl) (of_decide_eq_true (by kernel_rfl)) h0 bel lt0) (trodAll_cons_mk (Below.trod laidOut (by kernel_rfl) (of_decide_eq_true (by kernel_rfl)) h1 bel lt1) trodAll_mk0)), rfl, bel.frame _, fun h => by cases h⟩
theorem over : Rows.auditChecksRow.holds Try.pinned (OpenSpec.ofChange Rows.auditChecksSpec) :=
  OpenClaim.holds_of_wide 3 Try.f3 rfl rfl rfl rfl rfl rfl rfl ⟨rfl, rfl, rfl, rfl, rfl⟩ rfl rfl rfl rfl rfl (by kernel_rfl) Try.func3 (by kernel_rfl)
    (of_decide_eq_true (by kernel_rfl)) (by unfold Func.isWrapper; first | (rw [if_pos (by decide +kernel)]; kernel_rfl) | (rw [if_neg (by decide +kernel)]; exact ⟨rfl, rfl⟩))
    (fun os started H enc _ => lifted os started H enc)
/-- THE STATEMENT -/
theorem proved : Rows.AuditChecksSaid := over
#print axioms proved
end Go.Proofs.Ytelephoalpphkaa.auditChecks
end
