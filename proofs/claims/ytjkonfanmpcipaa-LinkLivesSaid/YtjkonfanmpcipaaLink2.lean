/- The walk of an end's Out. No conditions but that numbers fit. -/
import Derived.Test.YtjkonfanmpcipaaLink1
namespace Go.Proofs.Ytjkonfanmpcipaa
open Go.RowKit
set_option linter.unusedVariables false

namespace Link
/-- a packet -/
structure Pk where
  life : Int
  seq : Int
  ack : Int
  has : Bool
  data : ByteArray
abbrev P (p : Pk) : Value := .agg #[.int .i64 p.life, .int .i64 p.seq, .int .i64 p.ack, .bool p.has, .string p.data]
def pkCells (p : Pk) : List Value := [.int .i64 p.life, .int .i64 p.seq, .int .i64 p.ack, .bool p.has, .string p.data]
theorem pkCells_length (p : Pk) : (pkCells p).length = 5 := rfl
/-- pieces as packets, numbered from q on -/
def pks (life got : Int) : Int → List ByteArray → List Pk
  | _, [] => []
  | q, s :: l => ⟨life, q, got, true, s⟩ :: pks life got (q + 1) l
theorem pks_snoc (life got : Int) (s : ByteArray) : ∀ (l : List ByteArray) (q : Int), pks life got q (l ++ [s]) = pks life got q l ++ [⟨life, q + l.length, got, true, s⟩]
  | [], q => by simp [pks]
  | x :: l, q => by simp only [List.cons_append, pks, pks_snoc life got s l (q + 1), List.length_cons]; congr 3; simp; omega
theorem pks_length (life got : Int) : ∀ (l : List ByteArray) (q : Int), (pks life got q l).length = l.length
  | [], _ => rfl
  | _ :: l, q => by simp [pks, pks_length life got l (q + 1)]
/-- what goes out -/
def out (e : E) : List Pk := if e.opn.length = 0 then [⟨e.life, 0, e.got, false, ByteArray.empty⟩] else pks e.life e.got (e.sent - e.opn.length + 1) e.opn
def OutEnd (w : World) (e : E) (x : Ending) (w' : World) : Prop :=
  ∃ O oc, x = .returned (.slice O (out e).length oc) ∧ Mem.Own w' 52 5 O (out e).length oc ((out e).flatMap pkCells) ∧ Below w.heap.size w w' ∧ Mem.From w.heap.size O
def OutRel (w : World) (e : E) (vo vi : Value) (wr : World) : Prop :=
  ∃ (k : Nat) (O : Option Addr) (oc : Nat), k ≤ e.opn.length ∧ vo = .slice O k oc ∧ vi = .int .i64 k ∧ Hid (Mem.Own wr 52 5 O k oc ((pks e.life e.got (e.sent - e.opn.length + 1) (e.opn.take k)).flatMap pkCells)) ∧ Hid (Mem.From w.heap.size O) ∧ Hid (Below w.heap.size w wr)
end Link
theorem packets_elem : Mem.Elem Try.prog 28 52 5 48 := Mem.elem_of Try.underlying28 (z := .agg #[.int .i64 0, .int .i64 0, .int .i64 0, .bool false, .string ByteArray.empty]) (by kernel_rfl) rfl (by omega)

set_option maxHeartbeats 4000000 in
theorem out_any {w : World} {g : Nat} {e : Link.E} {A : Option Addr} {c : Nat} (h : Link.At w g A c e) (hs : 0 ≤ e.sent) (hs2 : e.sent ≤ 4611686018427387904) (ho : e.opn.length ≤ 1000000) :
    Calls Try.prog 13 #[.pointer (some ⟨g, 0, none⟩)] w (Link.OutEnd w e) := by
  have HA := Lib.hid h
  have b0 := h.box.c0
  have b2 := h.box.c2
  have b3 := h.box.c3
  have hgl := h.box.lt
  clear h
  rcases Nat.eq_zero_or_pos e.opn.length with h0 | h0
  · rw [h0] at b3
    have HO := Lib.hid (show Link.out e = [⟨e.life, 0, e.got, false, ByteArray.empty⟩] from if_pos h0)
    clear h0 ho
    go_enter Try.func13, Try.ntmps13
    have hown := fun u : World => Mem.Own.lit u 52 5 #[.int .i64 e.life, .int .i64 0, .int .i64 e.got, .bool false, .string ByteArray.empty] 1 rfl rfl (by simp [maxLen])
    go_wp2
    refine Reg.wp_region_rel (by kernel_rfl) 60 11 rfl rfl (by kernel_rfl) (Reg.Adds) (Reg.Adds.refl) (Reg.Adds.trans)
      (fun i v u => match i with
        | 0 => v = .pointer (some ⟨g, 0, none⟩)
        | 1 => v = .pointer (some ⟨g, 0, none⟩)
        | 2 => v = .pointer (some ⟨g, 0, none⟩)
        | 3 => v = .int .i64 e.life
        | 4 => v = .pointer (some ⟨g, 0, none⟩)
        | 5 => v = .pointer (some ⟨g, 0, none⟩)
        | 6 => v = .pointer (some ⟨g, 2, none⟩)
        | 7 => v = .int .i64 e.got
        | 8 => v = Link.P ⟨e.life, 0, e.got, false, ByteArray.empty⟩
        | 9 => ∃ s, v = .slice (some ⟨s, 0, none⟩) 1 1 ∧ w.heap.size ≤ s ∧ Mem.Own u 52 5 (some ⟨s, 0, none⟩) 1 1 (Link.pkCells ⟨e.life, 0, e.got, false, ByteArray.empty⟩)
        | 10 => ∃ s, v = .slice (some ⟨s, 0, none⟩) 1 1 ∧ w.heap.size ≤ s ∧ Mem.Own u 52 5 (some ⟨s, 0, none⟩) 1 1 (Link.pkCells ⟨e.life, 0, e.got, false, ByteArray.empty⟩)
        | _ => True) ?_ ?_
    · refine Reg.Steps.cons ?_ (Reg.Steps.cons ?_ (Reg.Steps.cons ?_ (Reg.Steps.cons ?_ (Reg.Steps.cons ?_ (Reg.Steps.cons ?_ (Reg.Steps.cons ?_ (Reg.Steps.cons ?_ (Reg.Steps.cons ?_ (Reg.Steps.cons ?_ (Reg.Steps.cons ?_ (Reg.Steps.nil _)))))))))))
      · intro val ac u hR hp ha K hK      -- 0: t12 := Op.move t0
        have e0 : (ac.tmps[0]?).getD undef = .pointer (some ⟨g, 0, none⟩) := ha 0 (by decide)
        clear ha hp
        refine Reg.Op1.plain rfl ?_
        go_wp2
        exact ⟨rfl, hK _ _ rfl (fun j k _ _ => Reg.Adds.refl _ _ _)⟩
      · intro val ac u hR hp ha K hK      -- 1: t13 := Op.nilCheck t12
        obtain ⟨w12, h12, r12⟩ := hp 0 (by decide)
        have e12 : (ac.tmps[12]?).getD undef = .pointer (some ⟨g, 0, none⟩) := (ha 12 (by decide)).trans h12
        clear h12
        clear ha hp
        refine Reg.Op1.plain rfl ?_
        go_wp2
        exact ⟨rfl, hK _ _ rfl (fun j k _ _ => Reg.Adds.refl _ _ _)⟩
      · intro val ac u hR hp ha K hK      -- 2: t14 := Op.fieldAddr 59 t13 0
        obtain ⟨w13, h13, r13⟩ := hp 1 (by decide)
        have e13 : (ac.tmps[13]?).getD undef = .pointer (some ⟨g, 0, none⟩) := (ha 13 (by decide)).trans h13
        clear h13
        clear ha hp
        refine Reg.Op1.plain rfl ?_
        go_wp2
        exact ⟨rfl, hK _ _ rfl (fun j k _ _ => Reg.Adds.refl _ _ _)⟩
      · intro val ac u hR hp ha K hK      -- 3: t15 := Op.load 3 t14
        obtain ⟨w14, h14, r14⟩ := hp 2 (by decide)
        have e14 : (ac.tmps[14]?).getD undef = .pointer (some ⟨g, 0, none⟩) := (ha 14 (by decide)).trans h14
        clear h14
        clear ha hp
        refine Reg.Op1.plain rfl ?_
        have x0 := (((Below.refl _ _).drew.trans (Below.mono hR (Nat.le_refl _))).cell (p := ⟨g, 0, none⟩) hgl).trans b0
        go_wp2
        exact ⟨rfl, hK _ _ rfl (fun j k _ _ => Reg.Adds.refl _ _ _)⟩
      · intro val ac u hR hp ha K hK      -- 4: t16 := Op.move t0
        have e0 : (ac.tmps[0]?).getD undef = .pointer (some ⟨g, 0, none⟩) := ha 0 (by decide)
        clear ha hp
        refine Reg.Op1.plain rfl ?_
        go_wp2
        exact ⟨rfl, hK _ _ rfl (fun j k _ _ => Reg.Adds.refl _ _ _)⟩
      · intro val ac u hR hp ha K hK      -- 5: t17 := Op.nilCheck t16
        obtain ⟨w16, h16, r16⟩ := hp 4 (by decide)
        have e16 : (ac.tmps[16]?).getD undef = .pointer (some ⟨g, 0, none⟩) := (ha 16 (by decide)).trans h16
        clear h16
        clear ha hp
        refine Reg.Op1.plain rfl ?_
        go_wp2
        exact ⟨rfl, hK _ _ rfl (fun j k _ _ => Reg.Adds.refl _ _ _)⟩
      · intro val ac u hR hp ha K hK      -- 6: t18 := Op.fieldAddr 59 t17 2
        obtain ⟨w17, h17, r17⟩ := hp 5 (by decide)
        have e17 : (ac.tmps[17]?).getD undef = .pointer (some ⟨g, 0, none⟩) := (ha 17 (by decide)).trans h17
        clear h17
        clear ha hp
        refine Reg.Op1.plain rfl ?_
        go_wp2
        exact ⟨rfl, hK _ _ rfl (fun j k _ _ => Reg.Adds.refl _ _ _)⟩
      · intro val ac u hR hp ha K hK      -- 7: t19 := Op.load 3 t18
        obtain ⟨w18, h18, r18⟩ := hp 6 (by decide)
        have e18 : (ac.tmps[18]?).getD undef = .pointer (some ⟨g, 2, none⟩) := (ha 18 (by decide)).trans h18
        clear h18
        clear ha hp
        refine Reg.Op1.plain rfl ?_
        have x0 := (((Below.refl _ _).drew.trans (Below.mono hR (Nat.le_refl _))).cell (p := ⟨g, 2, none⟩) hgl).trans b2
        go_wp2
        exact ⟨rfl, hK _ _ rfl (fun j k _ _ => Reg.Adds.refl _ _ _)⟩
      · intro val ac u hR hp ha K hK      -- 8: t20 := Op.build 52 #[(0, t15), (2, t19)]
        obtain ⟨w15, h15, r15⟩ := hp 3 (by decide)
        have e15 : (ac.tmps[15]?).getD undef = .int .i64 e.life := (ha 15 (by decide)).trans h15
        clear h15
        obtain ⟨w19, h19, r19⟩ := hp 7 (by decide)
        have e19 : (ac.tmps[19]?).getD undef = .int .i64 e.got := (ha 19 (by decide)).trans h19
        clear h19
        clear ha hp
        refine Reg.Op1.plain rfl ?_
        go_wp2
        exact ⟨rfl, hK _ _ rfl (fun j k _ _ => Reg.Adds.refl _ _ _)⟩
      · intro val ac u hR hp ha K hK      -- 9: t21 := Op.buildSlice 28 1 #[(0, t20)]
        obtain ⟨w20, h20, r20⟩ := hp 8 (by decide)
        have e20 : (ac.tmps[20]?).getD undef = Link.P ⟨e.life, 0, e.got, false, ByteArray.empty⟩ := (ha 20 (by decide)).trans h20
        clear h20
        clear ha hp
        refine Reg.Op1.plain rfl ?_
        have hbu := (Below.mono hR (Nat.le_refl _)).size
        go_wp2
        exact ⟨rfl, hK _ _ ⟨u.heap.size, rfl, hbu, hown u⟩ (fun j k _ _ => Reg.below_new _ _)⟩
      · intro val ac u hR hp ha K hK      -- 10: t2 := Op.assign t21
        obtain ⟨w21, h21, r21⟩ := hp 9 (by decide)
        have e21 : (ac.tmps[21]?).getD undef = val 9 := ha 21 (by decide)
        clear ha hp
        refine Reg.Op1.plain rfl ?_
        obtain ⟨s, hv, hsz, hw⟩ := h21
        rw [hv] at e21
        go_wp2
        exact ⟨rfl, hK _ _ ⟨s, rfl, hsz, hw.below r21 (fun _ hq => hw.lt hq)⟩ (fun j k _ _ => Reg.Adds.refl _ _ _)⟩
    · intro val u hR H
      obtain ⟨w10, ⟨s, hv, hsz, hw⟩, hr⟩ := H 10 (by decide)
      have hw := hw.below hr (fun _ hq => hw.lt hq)
      simp only [List.map_cons, List.map_nil, Reg.lay, Act.put, List.setIfInBounds_toArray, List.set_cons_succ, List.set_cons_zero, Nat.reduceAdd, hv]
      have HBu := Lib.hid ((Below.refl w.heap.size w).drew.trans (Below.mono hR (Nat.le_refl _)))
      have HW := Lib.hid hw
      clear hv hr H hR hw hown
      go_wp2
      go_ret
      exact ⟨some ⟨s, 0, none⟩, 1, by rw [HO.out]; rfl, by rw [HO.out]; exact HW.out, HBu.out, Mem.From.some_ hsz⟩
  · have h0d : ((e.opn.length : Int) == 0) = false := by rw [beq_eq_false_iff_ne]; omega
    have HO := Lib.hid (show Link.out e = Link.pks e.life e.got (e.sent - e.opn.length + 1) e.opn from if_neg (by omega))
    have b1 := HA.out.box.c1
    go_enter Try.func13, Try.ntmps13
    go_wp2
    go_loopw [3, 27] (Link.OutRel w e) (fun _ t _ => e.opn.length - (intOf t).toNat)
    case atStart => exact ⟨0, none, 0, by omega, rfl, rfl, Mem.Own.nil _ _ _, Mem.From.none_ _, Below.refl _ _⟩
    case round =>
      obtain ⟨k, O, oc, hk, rfl, rfl, HW, HF, HB⟩ := hrel
      by_cases hlt : k < e.opn.length
      · obtain ⟨b, o, hD, hb, hc⟩ := HA.out.opn.rd.at (k := k) (by simpa using hlt)
        obtain rfl := hD
        simp only [List.getElem_map] at hc
        have hts := Lib.hid (Mem.take_snoc (List.getElem?_eq_getElem hlt))
        obtain ⟨x, hx⟩ : ∃ x, e.opn[k] = x := ⟨_, rfl⟩
        rw [hx] at hc hts
        clear hx
        have hc1 := (HB.out.cell (p := ⟨b, o + k, none⟩) hb).trans hc
        have hq : (e.opn.take k).length = k := by rw [List.length_take]; omega
        have hbig : e.sent - e.opn.length + 1 + k ≤ 4611686018427387905 ∧ -1000000 ≤ e.sent - e.opn.length := by omega
        clear hc h0
        go_wp2
        refine Reg.wp_region_rel (by kernel_rfl) 60 27 rfl rfl (by kernel_rfl) (Reg.One 25 27 w.heap.size) (Reg.One.refl _ _ _) (Reg.One.trans _ _ _)
          (fun i v u => match i with
            | 0 => v = .slice O k oc
            | 1 => v = .pointer (some ⟨g, 0, none⟩)
            | 2 => v = .pointer (some ⟨g, 0, none⟩)
            | 3 => v = .pointer (some ⟨g, 0, none⟩)
            | 4 => v = .int .i64 e.life
            | 5 => v = .pointer (some ⟨g, 0, none⟩)
            | 6 => v = .pointer (some ⟨g, 0, none⟩)
            | 7 => v = .pointer (some ⟨g, 1, none⟩)
            | 8 => v = .int .i64 e.sent
            | 9 => v = .pointer (some ⟨g, 0, none⟩)
            | 10 => v = .pointer (some ⟨g, 0, none⟩)
            | 11 => v = .pointer (some ⟨g, 3, none⟩)
            | 12 => v = .slice (some ⟨b, o, none⟩) e.opn.length c
            | 13 => v = .int .i64 ((e.opn.length : Nat) : Int)
            | 14 => v = .int .i64 (e.sent - e.opn.length)
            | 15 => v = .int .i64 (e.sent - e.opn.length + 1)
            | 16 => v = .int .i64 k
            | 17 => v = .int .i64 (e.sent - e.opn.length + 1 + k)
            | 18 => v = .pointer (some ⟨g, 0, none⟩)
            | 19 => v = .pointer (some ⟨g, 0, none⟩)
            | 20 => v = .pointer (some ⟨g, 2, none⟩)
            | 21 => v = .int .i64 e.got
            | 22 => v = .string x
            | 23 => v = Link.P ⟨e.life, e.sent - e.opn.length + 1 + k, e.got, true, x⟩
            | 24 => ∃ s, v = .slice (some ⟨s, 0, none⟩) 1 1 ∧ Mem.Rd u (s + 1) (some ⟨s, 0, none⟩) (Link.pkCells ⟨e.life, e.sent - e.opn.length + 1 + k, e.got, true, x⟩) ∧ s + 1 ≤ u.heap.size
            | 25 => ∃ O' oc', v = .slice O' (k + 1) oc' ∧ Mem.Own u 52 5 O' (k + 1) oc' ((Link.pks e.life e.got (e.sent - e.opn.length + 1) (e.opn.take (k + 1))).flatMap Link.pkCells) ∧ Mem.From w.heap.size O'
            | 26 => ∃ O' oc', v = .slice O' (k + 1) oc' ∧ Mem.Own u 52 5 O' (k + 1) oc' ((Link.pks e.life e.got (e.sent - e.opn.length + 1) (e.opn.take (k + 1))).flatMap Link.pkCells) ∧ Mem.From w.heap.size O'
            | _ => True) ?_ ?_
        · refine Reg.Steps.cons ?_ (Reg.Steps.cons ?_ (Reg.Steps.cons ?_ (Reg.Steps.cons ?_ (Reg.Steps.cons ?_ (Reg.Steps.cons ?_ (Reg.Steps.cons ?_ (Reg.Steps.cons ?_ (Reg.Steps.cons ?_ (Reg.Steps.cons ?_ (Reg.Steps.cons ?_ (Reg.Steps.cons ?_ (Reg.Steps.cons ?_ (Reg.Steps.cons ?_ (Reg.Steps.cons ?_ (Reg.Steps.cons ?_ (Reg.Steps.cons ?_ (Reg.Steps.cons ?_ (Reg.Steps.cons ?_ (Reg.Steps.cons ?_ (Reg.Steps.cons ?_ (Reg.Steps.cons ?_ (Reg.Steps.cons ?_ (Reg.Steps.cons ?_ (Reg.Steps.cons ?_ (Reg.Steps.cons ?_ (Reg.Steps.cons ?_ (Reg.Steps.nil _)))))))))))))))))))))))))))
          · intro val ac u hR hp ha K hK      -- 0: t32 := Op.move t3
            have e3 : (ac.tmps[3]?).getD undef = .slice O k oc := ha 3 (by decide)
            clear ha hp
            refine Reg.Op1.plain rfl ?_
            go_wp2
            exact ⟨rfl, hK _ _ rfl (fun j k _ _ => Reg.One.refl _ _ _ _ _ _)⟩
          · intro val ac u hR hp ha K hK      -- 1: t33 := Op.move t0
            have e0 : (ac.tmps[0]?).getD undef = .pointer (some ⟨g, 0, none⟩) := ha 0 (by decide)
            clear ha hp
            refine Reg.Op1.plain rfl ?_
            go_wp2
            exact ⟨rfl, hK _ _ rfl (fun j k _ _ => Reg.One.refl _ _ _ _ _ _)⟩
          · intro val ac u hR hp ha K hK      -- 2: t34 := Op.nilCheck t33
            obtain ⟨w33, h33, r33⟩ := hp 1 (by decide)
            have e33 : (ac.tmps[33]?).getD undef = .pointer (some ⟨g, 0, none⟩) := (ha 33 (by decide)).trans h33
            clear h33
            clear ha hp
            refine Reg.Op1.plain rfl ?_
            go_wp2
            exact ⟨rfl, hK _ _ rfl (fun j k _ _ => Reg.One.refl _ _ _ _ _ _)⟩
          · intro val ac u hR hp ha K hK      -- 3: t35 := Op.fieldAddr 59 t34 0
            obtain ⟨w34, h34, r34⟩ := hp 2 (by decide)
            have e34 : (ac.tmps[34]?).getD undef = .pointer (some ⟨g, 0, none⟩) := (ha 34 (by decide)).trans h34
            clear h34
            clear ha hp
            refine Reg.Op1.plain rfl ?_
            go_wp2
            exact ⟨rfl, hK _ _ rfl (fun j k _ _ => Reg.One.refl _ _ _ _ _ _)⟩
          · intro val ac u hR hp ha K hK      -- 4: t36 := Op.load 3 t35
            obtain ⟨w35, h35, r35⟩ := hp 3 (by decide)
            have e35 : (ac.tmps[35]?).getD undef = .pointer (some ⟨g, 0, none⟩) := (ha 35 (by decide)).trans h35
            clear h35
            clear ha hp
            refine Reg.Op1.plain rfl ?_
            have x0 := ((HB.out.drew.trans (hR.weak HB.out.size)).cell (p := ⟨g, 0, none⟩) hgl).trans b0
            go_wp2
            exact ⟨rfl, hK _ _ rfl (fun j k _ _ => Reg.One.refl _ _ _ _ _ _)⟩
          · intro val ac u hR hp ha K hK      -- 5: t37 := Op.move t0
            have e0 : (ac.tmps[0]?).getD undef = .pointer (some ⟨g, 0, none⟩) := ha 0 (by decide)
            clear ha hp
            refine Reg.Op1.plain rfl ?_
            go_wp2
            exact ⟨rfl, hK _ _ rfl (fun j k _ _ => Reg.One.refl _ _ _ _ _ _)⟩
          · intro val ac u hR hp ha K hK      -- 6: t38 := Op.nilCheck t37
            obtain ⟨w37, h37, r37⟩ := hp 5 (by decide)
            have e37 : (ac.tmps[37]?).getD undef = .pointer (some ⟨g, 0, none⟩) := (ha 37 (by decide)).trans h37
            clear h37
            clear ha hp
            refine Reg.Op1.plain rfl ?_
            go_wp2
            exact ⟨rfl, hK _ _ rfl (fun j k _ _ => Reg.One.refl _ _ _ _ _ _)⟩
          · intro val ac u hR hp ha K hK      -- 7: t39 := Op.fieldAddr 59 t38 1
            obtain ⟨w38, h38, r38⟩ := hp 6 (by decide)
            have e38 : (ac.tmps[38]?).getD undef = .pointer (some ⟨g, 0, none⟩) := (ha 38 (by decide)).trans h38
            clear h38
            clear ha hp
            refine Reg.Op1.plain rfl ?_
            go_wp2
            exact ⟨rfl, hK _ _ rfl (fun j k _ _ => Reg.One.refl _ _ _ _ _ _)⟩
          · intro val ac u hR hp ha K hK      -- 8: t40 := Op.load 3 t39
            obtain ⟨w39, h39, r39⟩ := hp 7 (by decide)
            have e39 : (ac.tmps[39]?).getD undef = .pointer (some ⟨g, 1, none⟩) := (ha 39 (by decide)).trans h39
            clear h39
            clear ha hp
            refine Reg.Op1.plain rfl ?_
            have x0 := ((HB.out.drew.trans (hR.weak HB.out.size)).cell (p := ⟨g, 1, none⟩) hgl).trans b1
            go_wp2
            exact ⟨rfl, hK _ _ rfl (fun j k _ _ => Reg.One.refl _ _ _ _ _ _)⟩
          · intro val ac u hR hp ha K hK      -- 9: t41 := Op.move t0
            have e0 : (ac.tmps[0]?).getD undef = .pointer (some ⟨g, 0, none⟩) := ha 0 (by decide)
            clear ha hp
            refine Reg.Op1.plain rfl ?_
            go_wp2
            exact ⟨rfl, hK _ _ rfl (fun j k _ _ => Reg.One.refl _ _ _ _ _ _)⟩
          · intro val ac u hR hp ha K hK      -- 10: t42 := Op.nilCheck t41
            obtain ⟨w41, h41, r41⟩ := hp 9 (by decide)
            have e41 : (ac.tmps[41]?).getD undef = .pointer (some ⟨g, 0, none⟩) := (ha 41 (by decide)).trans h41
            clear h41
            clear ha hp
            refine Reg.Op1.plain rfl ?_
            go_wp2
            exact ⟨rfl, hK _ _ rfl (fun j k _ _ => Reg.One.refl _ _ _ _ _ _)⟩
          · intro val ac u hR hp ha K hK      -- 11: t43 := Op.fieldAddr 59 t42 3
            obtain ⟨w42, h42, r42⟩ := hp 10 (by decide)
            have e42 : (ac.tmps[42]?).getD undef = .pointer (some ⟨g, 0, none⟩) := (ha 42 (by decide)).trans h42
            clear h42
            clear ha hp
            refine Reg.Op1.plain rfl ?_
            go_wp2
            exact ⟨rfl, hK _ _ rfl (fun j k _ _ => Reg.One.refl _ _ _ _ _ _)⟩
          · intro val ac u hR hp ha K hK      -- 12: t44 := Op.load 29 t43
            obtain ⟨w43, h43, r43⟩ := hp 11 (by decide)
            have e43 : (ac.tmps[43]?).getD undef = .pointer (some ⟨g, 3, none⟩) := (ha 43 (by decide)).trans h43
            clear h43
            clear ha hp
            refine Reg.Op1.plain rfl ?_
            have x0 := ((HB.out.drew.trans (hR.weak HB.out.size)).cell (p := ⟨g, 3, none⟩) hgl).trans b3
            go_wp2
            exact ⟨rfl, hK _ _ rfl (fun j k _ _ => Reg.One.refl _ _ _ _ _ _)⟩
          · intro val ac u hR hp ha K hK      -- 13: t45 := Op.call { builtin len, args := #[t44], argTypes := #[29] }
            obtain ⟨w44, h44, r44⟩ := hp 12 (by decide)
            have e44 : (ac.tmps[44]?).getD undef = .slice (some ⟨b, o, none⟩) e.opn.length c := (ha 44 (by decide)).trans h44
            clear h44
            clear ha hp
            refine Reg.Op1.plain rfl ?_
            go_wp2
            exact ⟨rfl, hK _ _ rfl (fun j k _ _ => Reg.One.refl _ _ _ _ _ _)⟩
          · intro val ac u hR hp ha K hK      -- 14: t46 := Op.binOp BinOp.sub 3 t40 t45 3
            obtain ⟨w40, h40, r40⟩ := hp 8 (by decide)
            have e40 : (ac.tmps[40]?).getD undef = .int .i64 e.sent := (ha 40 (by decide)).trans h40
            clear h40
            obtain ⟨w45, h45, r45⟩ := hp 13 (by decide)
            have e45 : (ac.tmps[45]?).getD undef = .int .i64 ((e.opn.length : Nat) : Int) := (ha 45 (by decide)).trans h45
            clear h45
            clear ha hp
            refine Reg.Op1.plain rfl ?_
            go_wp2
            exact ⟨rfl, hK _ _ rfl (fun j k _ _ => Reg.One.refl _ _ _ _ _ _)⟩
          · intro val ac u hR hp ha K hK      -- 15: t47 := Op.binOp BinOp.add 3 t46 (const (1:i64)) 3
            obtain ⟨w46, h46, r46⟩ := hp 14 (by decide)
            have e46 : (ac.tmps[46]?).getD undef = .int .i64 (e.sent - e.opn.length) := (ha 46 (by decide)).trans h46
            clear h46
            clear ha hp
            refine Reg.Op1.plain rfl ?_
            go_wp2
            exact ⟨rfl, hK _ _ rfl (fun j k _ _ => Reg.One.refl _ _ _ _ _ _)⟩
          · intro val ac u hR hp ha K hK      -- 16: t48 := Op.move t4
            have e4 : (ac.tmps[4]?).getD undef = .int .i64 k := ha 4 (by decide)
            clear ha hp
            refine Reg.Op1.plain rfl ?_
            go_wp2
            exact ⟨rfl, hK _ _ rfl (fun j k _ _ => Reg.One.refl _ _ _ _ _ _)⟩
          · intro val ac u hR hp ha K hK      -- 17: t49 := Op.binOp BinOp.add 3 t47 t48 3
            obtain ⟨w47, h47, r47⟩ := hp 15 (by decide)
            have e47 : (ac.tmps[47]?).getD undef = .int .i64 (e.sent - e.opn.length + 1) := (ha 47 (by decide)).trans h47
            clear h47
            obtain ⟨w48, h48, r48⟩ := hp 16 (by decide)
            have e48 : (ac.tmps[48]?).getD undef = .int .i64 k := (ha 48 (by decide)).trans h48
            clear h48
            clear ha hp
            refine Reg.Op1.plain rfl ?_
            go_wp2
            exact ⟨rfl, hK _ _ rfl (fun j k _ _ => Reg.One.refl _ _ _ _ _ _)⟩
          · intro val ac u hR hp ha K hK      -- 18: t50 := Op.move t0
            have e0 : (ac.tmps[0]?).getD undef = .pointer (some ⟨g, 0, none⟩) := ha 0 (by decide)
            clear ha hp
            refine Reg.Op1.plain rfl ?_
            go_wp2
            exact ⟨rfl, hK _ _ rfl (fun j k _ _ => Reg.One.refl _ _ _ _ _ _)⟩
          · intro val ac u hR hp ha K hK      -- 19: t51 := Op.nilCheck t50
            obtain ⟨w50, h50, r50⟩ := hp 18 (by decide)
            have e50 : (ac.tmps[50]?).getD undef = .pointer (some ⟨g, 0, none⟩) := (ha 50 (by decide)).trans h50
            clear h50
            clear ha hp
            refine Reg.Op1.plain rfl ?_
            go_wp2
            exact ⟨rfl, hK _ _ rfl (fun j k _ _ => Reg.One.refl _ _ _ _ _ _)⟩
          · intro val ac u hR hp ha K hK      -- 20: t52 := Op.fieldAddr 59 t51 2
            obtain ⟨w51, h51, r51⟩ := hp 19 (by decide)
            have e51 : (ac.tmps[51]?).getD undef = .pointer (some ⟨g, 0, none⟩) := (ha 51 (by decide)).trans h51
            clear h51
            clear ha hp
            refine Reg.Op1.plain rfl ?_
            go_wp2
            exact ⟨rfl, hK _ _ rfl (fun j k _ _ => Reg.One.refl _ _ _ _ _ _)⟩
          · intro val ac u hR hp ha K hK      -- 21: t53 := Op.load 3 t52
            obtain ⟨w52, h52, r52⟩ := hp 20 (by decide)
            have e52 : (ac.tmps[52]?).getD undef = .pointer (some ⟨g, 2, none⟩) := (ha 52 (by decide)).trans h52
            clear h52
            clear ha hp
            refine Reg.Op1.plain rfl ?_
            have x0 := ((HB.out.drew.trans (hR.weak HB.out.size)).cell (p := ⟨g, 2, none⟩) hgl).trans b2
            go_wp2
            exact ⟨rfl, hK _ _ rfl (fun j k _ _ => Reg.One.refl _ _ _ _ _ _)⟩
          · intro val ac u hR hp ha K hK      -- 22: t54 := Op.move t5
            have e5 : (ac.tmps[5]?).getD undef = .string x := ha 5 (by decide)
            clear ha hp
            refine Reg.Op1.plain rfl ?_
            go_wp2
            exact ⟨rfl, hK _ _ rfl (fun j k _ _ => Reg.One.refl _ _ _ _ _ _)⟩
          · intro val ac u hR hp ha K hK      -- 23: t55 := Op.build 52 #[(0, t36), (1, t49), (2, t53), (3, const (Value.bool true)), (4, t54)]
            obtain ⟨w36, h36, r36⟩ := hp 4 (by decide)
            have e36 : (ac.tmps[36]?).getD undef = .int .i64 e.life := (ha 36 (by decide)).trans h36
            clear h36
            obtain ⟨w49, h49, r49⟩ := hp 17 (by decide)
            have e49 : (ac.tmps[49]?).getD undef = .int .i64 (e.sent - e.opn.length + 1 + k) := (ha 49 (by decide)).trans h49
            clear h49
            obtain ⟨w53, h53, r53⟩ := hp 21 (by decide)
            have e53 : (ac.tmps[53]?).getD undef = .int .i64 e.got := (ha 53 (by decide)).trans h53
            clear h53
            obtain ⟨w54, h54, r54⟩ := hp 22 (by decide)
            have e54 : (ac.tmps[54]?).getD undef = .string x := (ha 54 (by decide)).trans h54
            clear h54
            clear ha hp
            refine Reg.Op1.plain rfl ?_
            go_wp2
            exact ⟨rfl, hK _ _ rfl (fun j k _ _ => Reg.One.refl _ _ _ _ _ _)⟩
          · intro val ac u hR hp ha K hK      -- 24: t56 := Op.buildSlice 28 1 #[(0, t55)]
            obtain ⟨w55, h55, r55⟩ := hp 23 (by decide)
            have e55 : (ac.tmps[55]?).getD undef = Link.P ⟨e.life, e.sent - e.opn.length + 1 + k, e.got, true, x⟩ := (ha 55 (by decide)).trans h55
            clear h55
            clear ha hp
            refine Reg.Op1.plain rfl ?_
            have hbu : w.heap.size ≤ u.heap.size := Nat.le_trans HB.out.size (hR.weak HB.out.size).size
            go_wp2
            exact ⟨rfl, hK _ _ ⟨u.heap.size, rfl, Mem.Rd.alloc_new u _ _ _ rfl, by simp⟩ (fun j k _ _ => Reg.One.adds (Reg.below_new _ _) hbu)⟩
          · intro val ac u hR hp ha K hK      -- 25: t57 := Op.call { builtin append, args := #[t32, t56], argTypes := #[28, 28] }
            obtain ⟨w32, h32, r32⟩ := hp 0 (by decide)
            have e32 : (ac.tmps[32]?).getD undef = .slice O k oc := (ha 32 (by decide)).trans h32
            clear h32
            obtain ⟨w56, h56, r56⟩ := hp 24 (by decide)
            have e56 : (ac.tmps[56]?).getD undef = val 24 := ha 56 (by decide)
            clear ha hp
            refine Reg.Op1.plain rfl ?_
            obtain ⟨s, hv, hrd, hs⟩ := h56
            rw [hv] at e56
            have hbu := hR.toM
            have hown := HW.out.drew.below hbu (fun _ => HW.out.lt)
            have hBB : Below w.heap.size w u := HB.out.drew.trans (hR.weak HB.out.size)
            refine Mem.wpList_app u rfl (.tmp 32) (.tmp 56) _ rfl packets_elem O k oc _ (Reg.eval_of e32) (s + 1) (some ⟨s, 0, none⟩) 1 1 (Link.pkCells ⟨e.life, e.sent - e.opn.length + 1 + k, e.got, true, x⟩) (Reg.eval_of e56) ?_ hown (hrd.below (r56.toM.mono hs)) rfl (by simp [Value.oneCell', Link.pkCells]) (by unfold maxLen; omega) (by omega)
            intro X' d' u' hown' hg hat
            refine ⟨rfl, hK _ _ ⟨X', d', rfl, ?_, ?_⟩ (Reg.One.writer ((Below.refl _ _).grown hg hBB.size HF.out.blk) (by decide) (by decide +kernel))⟩
            · rw [hts.out, Link.pks_snoc, List.flatMap_append, hq]; simpa using hown'
            · rcases hat with rfl | rfl
              · exact HF.out
              · exact Mem.From.some_ hBB.size
          · intro val ac u hR hp ha K hK      -- 26: t3 := Op.assign t57
            obtain ⟨w57, h57, r57⟩ := hp 25 (by decide)
            have e57 : (ac.tmps[57]?).getD undef = val 25 := ha 57 (by decide)
            clear ha hp
            refine Reg.Op1.plain rfl ?_
            obtain ⟨X', d', hv, hown, hf⟩ := h57
            rw [hv] at e57
            go_wp2
            exact ⟨rfl, hK _ _ ⟨X', d', rfl, hown.below (r57.fromM (by decide) (by decide)) (fun _ => hown.lt), hf⟩ (fun j k _ _ => Reg.One.refl _ _ _ _ _ _)⟩
        · intro val u hR H
          obtain ⟨w26, ⟨X', d', hv, hown, hf⟩, hr⟩ := H 26 (by decide)
          have hown := Lib.hid (hown.below (hr.fromM (by decide) (by decide)) (fun _ => hown.lt))
          have hBB := Lib.hid (HB.out.drew.trans (hR.weak HB.out.size))
          simp only [List.map_cons, List.map_nil, Reg.lay, Act.put, List.setIfInBounds_toArray, List.set_cons_succ, List.set_cons_zero, Nat.reduceAdd, hv]
          clear hv hr H hR
          go_wp2
          go_roundw
          case rel => exact ⟨k + 1, X', d', by omega, rfl, by go_num, hown, hf, hBB⟩
          case measure => simp [intOf]; omega
      · obtain rfl : k = e.opn.length := by omega
        rw [List.take_length] at HW
        go_wp2
        go_ret
        have hl : (Link.out e).length = e.opn.length := by rw [HO.out, Link.pks_length]
        exact ⟨O, oc, by rw [hl]; rfl, by rw [hl, HO.out]; exact HW.out, HB.out, HF.out⟩
end Go.Proofs.Ytjkonfanmpcipaa
