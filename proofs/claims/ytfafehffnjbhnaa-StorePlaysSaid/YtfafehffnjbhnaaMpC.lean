/- Several texts of this proof in one file, in the order in which they build: Rs0, Rs1. No conditions but those that each theorem names. -/
import Derived.Test.YtfafehffnjbhnaaMpA
import Derived.Test.YtfafehffnjbhnaaRefK
import Derived.Test.YtfafehffnjbhnaaRegZ
import Derived.Test.YtfafehffnjbhnaaRefE
import Derived.Test.YtfafehffnjbhnaaBin
section
/- The document's store: under, Greatest. -/
set_option maxRecDepth 8000
namespace Go.Proofs.Ytfafehffnjbhnaa
open Go.ChangeShapes Go.WideShapes Go.ChangeAt Go.RowKit
set_option linter.unusedVariables false
set_option linter.unusedSimpArgs false
open Vec in
theorem refUnder_any (c : Vec.Col) (e : Vec.Ent) (w : World) (hd : 0 ≤ e.dc ∧ e.dc < 3) :
    Calls Try.prog 46 #[.agg (Vec.entCells e).toArray, Vec.C c] w fun x w' => x = .returned (.bool (Sto.under c e)) ∧ Below w.heap.size w w' := by
  have main : ∀ (k : Nat) (u : Int), (colCells c)[k]? = some (.int .i64 u) → e.dc = (k : Int) → k < 3 → c.at e.dc.toNat = u →
      Calls Try.prog 46 #[.agg (Vec.entCells e).toArray, Vec.C c] w fun x w' => x = .returned (.bool (decide (e.seq ≤ u))) ∧ Below w.heap.size w w' := by
    intro k u hu hk hk3 _
    go_enter Try.func46, Try.ntmps46
    go_upto_region 1 with fail
    refine Reg.wp_gen (fun w0 => EBx w0 w.heap.size e ∧ Sto.CBx w0 (w.heap.size + 1) c ∧ Below w.heap.size w w0) ⟨?_, ?_, ?_⟩ ?_
    · exact (EBx.new w e rfl).below (Reg.below_new _ _) (by simp)
    · exact Mem.Bx.new (w.alloc _) 26 (colCells c).toArray rfl (by simp)
    · exact (Reg.below_new _ _).alloc (by simp) _
    rintro w0 ⟨hE, hC, hb⟩
    have x0 := hE.cell (j := 0) rfl
    have x2 := hE.cell (j := 2) rfl
    have y0 := hC.cell hu
    rw [hk] at x0
    have HB := Lib.hid hb
    clear hC hE hb hu
    go_wp2
    go_quiet (fail)
    go_wp2
    go_ret
    exact ⟨rfl, Mem.below_drewN HB.out _⟩
  have hdc : e.dc = ((0 : Nat) : Int) ∨ e.dc = ((1 : Nat) : Int) ∨ e.dc = ((2 : Nat) : Int) := by omega
  rcases hdc with h | h | h
  · have := main 0 c.a rfl h (by omega) (by rw [h]; rfl)
    unfold Sto.under; rw [h]; exact this
  · have := main 1 c.b rfl h (by omega) (by rw [h]; rfl)
    unfold Sto.under; rw [h]; exact this
  · have := main 2 c.c rfl h (by omega) (by rw [h]; rfl)
    unfold Sto.under; rw [h]; exact this
namespace Sto
open Vec
def gStep (key : ByteArray) (c : Col) (al : Bool) (p : Ent × Bool) (e : Ent) : Ent × Bool := if e.key = key ∧ (al = true ∨ under c e = true) ∧ (p.2 = false ∨ 0 < gtE e p.1) then (e, true) else p
def greatest (key : ByteArray) (c : Col) (al : Bool) (es : List Ent) : Ent × Bool := es.foldl (gStep key c al) (ent0, false)
theorem greatest_snoc (key : ByteArray) (c : Col) (al : Bool) (es : List Ent) (e : Ent) : greatest key c al (es ++ [e]) = gStep key c al (greatest key c al es) e := by unfold greatest; rw [List.foldl_append]; rfl
structure GsRel (w : World) (key : ByteArray) (c : Col) (al : Bool) (es : List Ent) (vf vi : Value) (wr : World) : Prop where
  out : ∃ k : Nat, k ≤ es.length ∧ vf = .bool (greatest key c al (es.take k)).2 ∧ vi = .int .i64 k ∧ Hid (CBx wr w.heap.size c) ∧ Hid (EBx wr (w.heap.size + 1) ent0) ∧ Hid (EBx wr (w.heap.size + 2) (greatest key c al (es.take k)).1) ∧ Hid (Below w.heap.size w wr)
end Sto
open Vec in
set_option maxRecDepth 20000 in
set_option maxHeartbeats 8000000 in
theorem refGreatest_all (key : ByteArray) (c : Vec.Col) (A : Option Addr) (cc : Nat) (es : List Vec.Ent) (w : World) (hr : Mem.Rd w w.heap.size A (es.flatMap Vec.entCells)) (hn : es.length ≤ maxLen) (hdc : ∀ e ∈ es, 0 ≤ e.dc ∧ e.dc < 3) (al : Bool) :
    Calls Try.prog 47 #[.slice A es.length cc, .string key, Vec.C c, .bool al] w fun e w' => e = .returned (.tuple #[Vec.E (Sto.greatest key c al es).1, .bool (Sto.greatest key c al es).2]) ∧ Below w.heap.size w w' := by
  unfold maxLen at hn
  have hm := Lib.hid hr
  have HDCS := Lib.hid hdc
  clear hr hdc
  go_enter Try.func47, Try.ntmps47
  go_wp2
  go_loopw [11, 12] (Sto.GsRel w key c al es) (fun _ t _ => es.length - (intOf t).toNat)
  case atStart =>
    refine ⟨⟨0, by omega, rfl, rfl, ?_, ?_, ?_, ?_⟩⟩
    · exact ((Mem.Bx.new w 26 (colCells c).toArray rfl rfl).below (Reg.below_new _ _) (by simp)).below (Reg.below_new _ _) (by simp; omega)
    · exact (EBx.new (w.alloc _) ent0 (by simp)).below (Reg.below_new _ _) (by simp)
    · exact EBx.new ((w.alloc _).alloc _) ent0 (by simp)
    · exact ((Reg.below_new _ _).alloc (by simp) _).alloc (by simp; omega) _
  case round =>
    obtain ⟨k, hk, rfl, rfl, HC, H0, H1, HB⟩ := hrel.out
    clear hrel
    by_cases hlt : k < es.length
    · obtain ⟨b, o, e, rfl, hb, he, hat⟩ := ent_elem hm.out hlt
      have HAT := Lib.hid (hat.below HB.out hb)
      have hts := Lib.hid (show Sto.greatest key c al (es.take (k + 1)) = Sto.gStep key c al (Sto.greatest key c al (es.take k)) e by rw [Mem.take_snoc he, Sto.greatest_snoc])
      obtain ⟨⟨m, f⟩, hmf⟩ : ∃ mf, Sto.greatest key c al (es.take k) = mf := ⟨_, rfl⟩
      rw [hmf] at H1 hts ⊢
      have hbw := Nat.lt_of_lt_of_le hb HB.out.size
      have d0 : decide ((k : Int) < (es.length : Int)) = true := by simp; omega
      have HDC := Lib.hid (HDCS.out e (List.mem_of_getElem? he))
      clear hat he hmf
      go_upto_region 6 with fail
      by_cases hkey : e.key = key
      · have HKD : Hid ((e.key.toList == key.toList) = true) := str_eq hkey
        cases al with
        | true =>
          have HUN : Hid (Sto.under c e = Sto.under c e) := rfl
          cases f
          case false =>
            have hts : Hid (Sto.greatest key c true (es.take (k + 1)) = (e, true)) := by show _ = _; rw [hts.out, Sto.gStep, if_pos ⟨hkey, .inl rfl, .inl rfl⟩]
            have HGT : Hid (decide (0 < gtE e m) = decide (0 < gtE e m)) := rfl
            clear hkey
            refine Reg.wp_region_rel (by kernel_rfl) 55 30 rfl rfl (by kernel_rfl) (Reg.Adds) (Reg.Adds.refl) (Reg.Adds.trans)
              (fun i v u => match i with
                | 0 => v = .slice (some ⟨b, o, none⟩) es.length cc
                | 1 => v = .int .i64 k
                | 2 => v = .pointer (some ⟨b, o + k * 20, none⟩)
                | 3 => v = .pointer (some ⟨b, o + k * 20 + 6, none⟩)
                | 4 => v = .string e.key
                | 5 => v = .string key
                | 6 => v = .bool true
                | 7 => v = .bool true
                | 8 => v = .bool true
                | 9 => v = .bool true
                | 10 => v = undef
                | 11 => v = undef
                | 12 => v = undef
                | 13 => v = undef
                | 14 => v = undef
                | 15 => v = undef
                | 16 => v = .bool true
                | 17 => v = .bool true
                | 18 => v = .bool true
                | 19 => v = .bool false
                | 20 => v = .bool true
                | 21 => v = .bool true
                | 22 => v = undef
                | 23 => v = undef
                | 24 => v = undef
                | 25 => v = undef
                | 26 => v = undef
                | 27 => v = undef
                | 28 => v = .bool true
                | 29 => v = .bool true
                | _ => True) ?_ ?_
            · refine Reg.Steps.cons ?_ (Reg.Steps.cons ?_ (Reg.Steps.cons ?_ (Reg.Steps.cons ?_ (Reg.Steps.cons ?_ (Reg.Steps.cons ?_ (Reg.Steps.cons ?_ (Reg.Steps.cons ?_ (Reg.Steps.cons ?_ (Reg.Steps.cons ?_ (Reg.Steps.cons ?_ (Reg.Steps.cons ?_ (Reg.Steps.cons ?_ (Reg.Steps.cons ?_ (Reg.Steps.cons ?_ (Reg.Steps.cons ?_ (Reg.Steps.cons ?_ (Reg.Steps.cons ?_ (Reg.Steps.cons ?_ (Reg.Steps.cons ?_ (Reg.Steps.cons ?_ (Reg.Steps.cons ?_ (Reg.Steps.cons ?_ (Reg.Steps.cons ?_ (Reg.Steps.cons ?_ (Reg.Steps.cons ?_ (Reg.Steps.cons ?_ (Reg.Steps.cons ?_ (Reg.Steps.cons ?_ (Reg.Steps.cons ?_ (Reg.Steps.nil _))))))))))))))))))))))))))))))
              · intro val ac u hR hp ha K hK
                have e0 : (ac.tmps[0]?).getD undef = .slice (some ⟨b, o, none⟩) es.length cc := ha 0 (by decide); clear ha hp
                refine Reg.Op1.plain rfl ?_
                go_wp2
                exact ⟨rfl, hK _ _ rfl (fun j k _ _ => Reg.Adds.refl _ _ _)⟩
              · intro val ac u hR hp ha K hK
                have e12 : (ac.tmps[12]?).getD undef = .int .i64 k := ha 12 (by decide); clear ha hp
                refine Reg.Op1.plain rfl ?_
                go_wp2
                exact ⟨rfl, hK _ _ rfl (fun j k _ _ => Reg.Adds.refl _ _ _)⟩
              · intro val ac u hR hp ha K hK
                obtain ⟨w19, h19, r19⟩ := hp 0 (by decide); have e19 : (ac.tmps[19]?).getD undef = .slice (some ⟨b, o, none⟩) es.length cc := (ha 19 (by decide)).trans h19; obtain ⟨w20, h20, r20⟩ := hp 1 (by decide); have e20 : (ac.tmps[20]?).getD undef = .int .i64 k := (ha 20 (by decide)).trans h20; clear h19 h20 ha hp
                refine Reg.Op1.plain rfl ?_
                go_wp2
                exact ⟨rfl, hK _ _ rfl (fun j k _ _ => Reg.Adds.refl _ _ _)⟩
              · intro val ac u hR hp ha K hK
                obtain ⟨w21, h21, r21⟩ := hp 2 (by decide); have e21 : (ac.tmps[21]?).getD undef = .pointer (some ⟨b, o + k * 20, none⟩) := (ha 21 (by decide)).trans h21; clear h21 ha hp
                refine Reg.Op1.plain rfl ?_
                go_wp2
                exact ⟨rfl, hK _ _ rfl (fun j k _ _ => Reg.Adds.refl _ _ _)⟩
              · intro val ac u hR hp ha K hK
                obtain ⟨w22, h22, r22⟩ := hp 3 (by decide); have e22 : (ac.tmps[22]?).getD undef = .pointer (some ⟨b, o + k * 20 + 6, none⟩) := (ha 22 (by decide)).trans h22; clear h22 ha hp
                refine Reg.Op1.plain rfl ?_
                have x6 := (hR.cell (p := ⟨b, o + k * 20 + 6, none⟩) hbw).trans (HAT.out.c 6 _ rfl)
                go_wp2
                exact ⟨rfl, hK _ _ rfl (fun j k _ _ => Reg.Adds.refl _ _ _)⟩
              · intro val ac u hR hp ha K hK
                have e1 : (ac.tmps[1]?).getD undef = .string key := ha 1 (by decide); clear ha hp
                refine Reg.Op1.plain rfl ?_
                go_wp2
                exact ⟨rfl, hK _ _ rfl (fun j k _ _ => Reg.Adds.refl _ _ _)⟩
              · intro val ac u hR hp ha K hK
                obtain ⟨w23, h23, r23⟩ := hp 4 (by decide); have e23 : (ac.tmps[23]?).getD undef = .string e.key := (ha 23 (by decide)).trans h23; obtain ⟨w24, h24, r24⟩ := hp 5 (by decide); have e24 : (ac.tmps[24]?).getD undef = .string key := (ha 24 (by decide)).trans h24; clear h23 h24 ha hp
                have hkd := HKD.out
                refine Reg.Op1.plain rfl ?_
                go_wp2
                exact ⟨rfl, hK _ _ rfl (fun j k _ _ => Reg.Adds.refl _ _ _)⟩
              · intro val ac u hR hp ha K hK
                obtain ⟨w25, h25, r25⟩ := hp 6 (by decide); have e25 : (ac.tmps[25]?).getD undef = .bool true := (ha 25 (by decide)).trans h25; clear h25 ha hp
                refine Reg.Op1.plain rfl ?_
                go_wp2
                exact ⟨rfl, hK _ _ rfl (fun j k _ _ => Reg.Adds.refl _ _ _)⟩
              · intro val ac u hR hp ha K hK
                have e3 : (ac.tmps[3]?).getD undef = .bool true := ha 3 (by decide); obtain ⟨w26, h26, r26⟩ := hp 7 (by decide); have e26 : (ac.tmps[26]?).getD undef = .bool true := (ha 26 (by decide)).trans h26; clear h26 ha hp
                refine Reg.Op1.guarded rfl rfl e26 (fun _ => Reg.Op1.plain rfl ?_) (fun h => absurd rfl h)
                go_wp2
                exact ⟨rfl, hK _ _ rfl (fun j k _ _ => Reg.Adds.refl _ _ _)⟩
              · intro val ac u hR hp ha K hK
                obtain ⟨w27, h27, r27⟩ := hp 8 (by decide); have e27 : (ac.tmps[27]?).getD undef = .bool true := (ha 27 (by decide)).trans h27; obtain ⟨w26, h26, r26⟩ := hp 7 (by decide); have e26 : (ac.tmps[26]?).getD undef = .bool true := (ha 26 (by decide)).trans h26; clear h27 h26 ha hp
                refine Reg.Op1.guarded rfl rfl e26 (fun _ => Reg.Op1.plain rfl ?_) (fun h => absurd rfl h)
                go_wp2
                exact ⟨rfl, hK _ _ rfl (fun j k _ _ => Reg.Adds.refl _ _ _)⟩
              · intro val ac u hR hp ha K hK; obtain ⟨_, h, _⟩ := hp 9 (by decide); exact Reg.Op1.guarded rfl rfl ((ha 28 (by decide)).trans h) (fun h => by cases h) (fun _ => hK _ _ rfl (fun j k _ _ => Reg.Adds.refl _ _ _))
              · intro val ac u hR hp ha K hK; obtain ⟨_, h, _⟩ := hp 9 (by decide); exact Reg.Op1.guarded rfl rfl ((ha 28 (by decide)).trans h) (fun h => by cases h) (fun _ => hK _ _ rfl (fun j k _ _ => Reg.Adds.refl _ _ _))
              · intro val ac u hR hp ha K hK; obtain ⟨_, h, _⟩ := hp 9 (by decide); exact Reg.Op1.guarded rfl rfl ((ha 28 (by decide)).trans h) (fun h => by cases h) (fun _ => hK _ _ rfl (fun j k _ _ => Reg.Adds.refl _ _ _))
              · intro val ac u hR hp ha K hK; obtain ⟨_, h, _⟩ := hp 9 (by decide); exact Reg.Op1.guarded rfl rfl ((ha 28 (by decide)).trans h) (fun h => by cases h) (fun _ => hK _ _ rfl (fun j k _ _ => Reg.Adds.refl _ _ _))
              · intro val ac u hR hp ha K hK; obtain ⟨_, h, _⟩ := hp 9 (by decide); exact Reg.Op1.guarded rfl rfl ((ha 28 (by decide)).trans h) (fun h => by cases h) (fun _ => hK _ _ rfl (fun j k _ _ => Reg.Adds.refl _ _ _))
              · intro val ac u hR hp ha K hK; obtain ⟨_, h, _⟩ := hp 9 (by decide); exact Reg.Op1.guarded rfl rfl ((ha 28 (by decide)).trans h) (fun h => by cases h) (fun _ => hK _ _ rfl (fun j k _ _ => Reg.Adds.refl _ _ _))
              · intro val ac u hR hp ha K hK
                obtain ⟨w28, h28, r28⟩ := hp 9 (by decide); have e28 : (ac.tmps[28]?).getD undef = .bool true := (ha 28 (by decide)).trans h28; obtain ⟨w34, h34, r34⟩ := hp 15 (by decide); have e34 : (ac.tmps[34]?).getD undef = undef := (ha 34 (by decide)).trans h34; obtain ⟨w26, h26, r26⟩ := hp 7 (by decide); have e26 : (ac.tmps[26]?).getD undef = .bool true := (ha 26 (by decide)).trans h26; clear h28 h34 h26 ha hp
                refine Reg.Op1.guarded rfl rfl e26 (fun _ => Reg.Op1.plain rfl ?_) (fun h => absurd rfl h)
                go_wp2
                exact ⟨rfl, hK _ _ rfl (fun j k _ _ => Reg.Adds.refl _ _ _)⟩
              · intro val ac u hR hp ha K hK
                obtain ⟨w26, h26, r26⟩ := hp 7 (by decide); have e26 : (ac.tmps[26]?).getD undef = .bool true := (ha 26 (by decide)).trans h26; obtain ⟨w35, h35, r35⟩ := hp 16 (by decide); have e35 : (ac.tmps[35]?).getD undef = .bool true := (ha 35 (by decide)).trans h35; clear h26 h35 ha hp
                refine Reg.Op1.plain rfl ?_
                go_wp2
                exact ⟨rfl, hK _ _ rfl (fun j k _ _ => Reg.Adds.refl _ _ _)⟩
              · intro val ac u hR hp ha K hK
                obtain ⟨w36, h36, r36⟩ := hp 17 (by decide); have e36 : (ac.tmps[36]?).getD undef = .bool true := (ha 36 (by decide)).trans h36; clear h36 ha hp
                refine Reg.Op1.plain rfl ?_
                go_wp2
                exact ⟨rfl, hK _ _ rfl (fun j k _ _ => Reg.Adds.refl _ _ _)⟩
              · intro val ac u hR hp ha K hK
                have e11 : (ac.tmps[11]?).getD undef = .bool false := ha 11 (by decide); obtain ⟨w37, h37, r37⟩ := hp 18 (by decide); have e37 : (ac.tmps[37]?).getD undef = .bool true := (ha 37 (by decide)).trans h37; clear h37 ha hp
                refine Reg.Op1.guarded rfl rfl e37 (fun _ => Reg.Op1.plain rfl ?_) (fun h => absurd rfl h)
                go_wp2
                exact ⟨rfl, hK _ _ rfl (fun j k _ _ => Reg.Adds.refl _ _ _)⟩
              · intro val ac u hR hp ha K hK
                obtain ⟨w38, h38, r38⟩ := hp 19 (by decide); have e38 : (ac.tmps[38]?).getD undef = .bool false := (ha 38 (by decide)).trans h38; obtain ⟨w37, h37, r37⟩ := hp 18 (by decide); have e37 : (ac.tmps[37]?).getD undef = .bool true := (ha 37 (by decide)).trans h37; clear h38 h37 ha hp
                refine Reg.Op1.guarded rfl rfl e37 (fun _ => Reg.Op1.plain rfl ?_) (fun h => absurd rfl h)
                go_wp2
                exact ⟨rfl, hK _ _ rfl (fun j k _ _ => Reg.Adds.refl _ _ _)⟩
              · intro val ac u hR hp ha K hK
                obtain ⟨w39, h39, r39⟩ := hp 20 (by decide); have e39 : (ac.tmps[39]?).getD undef = .bool true := (ha 39 (by decide)).trans h39; obtain ⟨w37, h37, r37⟩ := hp 18 (by decide); have e37 : (ac.tmps[37]?).getD undef = .bool true := (ha 37 (by decide)).trans h37; clear h39 h37 ha hp
                refine Reg.Op1.guarded rfl rfl e37 (fun _ => Reg.Op1.plain rfl ?_) (fun h => absurd rfl h)
                go_wp2
                exact ⟨rfl, hK _ _ rfl (fun j k _ _ => Reg.Adds.refl _ _ _)⟩
              · intro val ac u hR hp ha K hK; obtain ⟨_, h, _⟩ := hp 21 (by decide); exact Reg.Op1.guarded rfl rfl ((ha 40 (by decide)).trans h) (fun h => by cases h) (fun _ => hK _ _ rfl (fun j k _ _ => Reg.Adds.refl _ _ _))
              · intro val ac u hR hp ha K hK; obtain ⟨_, h, _⟩ := hp 21 (by decide); exact Reg.Op1.guarded rfl rfl ((ha 40 (by decide)).trans h) (fun h => by cases h) (fun _ => hK _ _ rfl (fun j k _ _ => Reg.Adds.refl _ _ _))
              · intro val ac u hR hp ha K hK; obtain ⟨_, h, _⟩ := hp 21 (by decide); exact Reg.Op1.guarded rfl rfl ((ha 40 (by decide)).trans h) (fun h => by cases h) (fun _ => hK _ _ rfl (fun j k _ _ => Reg.Adds.refl _ _ _))
              · intro val ac u hR hp ha K hK; obtain ⟨_, h, _⟩ := hp 21 (by decide); exact Reg.Op1.guarded rfl rfl ((ha 40 (by decide)).trans h) (fun h => by cases h) (fun _ => hK _ _ rfl (fun j k _ _ => Reg.Adds.refl _ _ _))
              · intro val ac u hR hp ha K hK; obtain ⟨_, h, _⟩ := hp 21 (by decide); exact Reg.Op1.guarded rfl rfl ((ha 40 (by decide)).trans h) (fun h => by cases h) (fun _ => hK _ _ rfl (fun j k _ _ => Reg.Adds.refl _ _ _))
              · intro val ac u hR hp ha K hK; obtain ⟨_, h, _⟩ := hp 21 (by decide); exact Reg.Op1.guarded rfl rfl ((ha 40 (by decide)).trans h) (fun h => by cases h) (fun _ => hK _ _ rfl (fun j k _ _ => Reg.Adds.refl _ _ _))
              · intro val ac u hR hp ha K hK
                obtain ⟨w40, h40, r40⟩ := hp 21 (by decide); have e40 : (ac.tmps[40]?).getD undef = .bool true := (ha 40 (by decide)).trans h40; obtain ⟨w46, h46, r46⟩ := hp 27 (by decide); have e46 : (ac.tmps[46]?).getD undef = undef := (ha 46 (by decide)).trans h46; obtain ⟨w37, h37, r37⟩ := hp 18 (by decide); have e37 : (ac.tmps[37]?).getD undef = .bool true := (ha 37 (by decide)).trans h37; clear h40 h46 h37 ha hp
                refine Reg.Op1.guarded rfl rfl e37 (fun _ => Reg.Op1.plain rfl ?_) (fun h => absurd rfl h)
                go_wp2
                exact ⟨rfl, hK _ _ rfl (fun j k _ _ => Reg.Adds.refl _ _ _)⟩
              · intro val ac u hR hp ha K hK
                obtain ⟨w37, h37, r37⟩ := hp 18 (by decide); have e37 : (ac.tmps[37]?).getD undef = .bool true := (ha 37 (by decide)).trans h37; obtain ⟨w47, h47, r47⟩ := hp 28 (by decide); have e47 : (ac.tmps[47]?).getD undef = .bool true := (ha 47 (by decide)).trans h47; clear h37 h47 ha hp
                refine Reg.Op1.plain rfl ?_
                go_wp2
                exact ⟨rfl, hK _ _ rfl (fun j k _ _ => Reg.Adds.refl _ _ _)⟩
            intro val u hR H
            obtain ⟨wB, hv, rB⟩ := H 29 (by decide)
            have hv : val 29 = .bool true := hv
            have HKu : Hid (Below wr.heap.size wr u) := (Below.refl _ wr).drew.trans hR
            simp only [List.map_cons, List.map_nil, Reg.lay, Act.put, List.setIfInBounds_toArray, List.set_cons_succ, List.set_cons_zero, Nat.reduceAdd, hv]
            clear hR H hv rB
            obtain ⟨wy, hwy⟩ : ∃ z, z = u := ⟨_, rfl⟩
            subst hwy
            have HM2 : Hid (EBx wy (w.heap.size + 2) m) := H1.out.below HKu.out H1.out.lt
            have H02 : Hid (EBx wy (w.heap.size + 1) ent0) := H0.out.below HKu.out H0.out.lt
            have HC2 : Hid (Sto.CBx wy w.heap.size c) := HC.out.below HKu.out HC.out.lt
            have HB2 : Hid (Below w.heap.size w wy) := HB.out.trans (HKu.out.mono HB.out.size)
            have HATS : Hid (∀ j u, (entCells e)[j]? = some u → wy.cell? ⟨b, o + k * 20 + j, none⟩ = some u) := (HAT.out.below HKu.out hbw).c
            clear H1 H0 HB HKu HAT hbw HC
            go_wp2_with (first | ((with_reducible refine Mem.load_agg _ _ entry_agg b (o + k * 20) (entCells e) ?hx (entCells_length e) HATS.out ?_); (case hx => exact rfl)) | ((with_reducible refine Mem.store_agg _ _ entry_agg (w.heap.size + 2) (entCells m) (entCells e) ?hxs ?hys HM2.out (entCells_length e) (ent_one e) ?_); ((case hxs => exact rfl); (case hys => exact rfl); intro w3 hb3 hk3 hs3)))
            go_roundw
            case rel => exact ⟨⟨k + 1, by omega, by rw [hts.out], by go_num, Lib.hid (HC2.out.keeps hk3 (by omega)), Lib.hid (H02.out.keeps hk3 (by omega)), Lib.hid (by rw [hts.out]; exact hb3), Lib.hid (HB2.out.trans (hk3.below (fun k h => by omega) HB2.out.size))⟩⟩
            case measure => simp [intOf]; omega
          case true =>
            cases hg : decide (0 < gtE e m)
            · have hts : Hid (Sto.greatest key c true (es.take (k + 1)) = (m, true)) := by
                show _ = _
                rw [hts.out, Sto.gStep, if_neg]
                rintro ⟨_, _, h | h⟩
                · cases h
                · exact of_decide_eq_false hg h
              have HGT := Lib.hid hg
              clear hkey hg
              refine Reg.wp_region_rel (by kernel_rfl) 55 30 rfl rfl (by kernel_rfl) (Reg.Adds) (Reg.Adds.refl) (Reg.Adds.trans)
                (fun i v u => match i with
                  | 0 => v = .slice (some ⟨b, o, none⟩) es.length cc
                  | 1 => v = .int .i64 k
                  | 2 => v = .pointer (some ⟨b, o + k * 20, none⟩)
                  | 3 => v = .pointer (some ⟨b, o + k * 20 + 6, none⟩)
                  | 4 => v = .string e.key
                  | 5 => v = .string key
                  | 6 => v = .bool true
                  | 7 => v = .bool true
                  | 8 => v = .bool true
                  | 9 => v = .bool true
                  | 10 => v = undef
                  | 11 => v = undef
                  | 12 => v = undef
                  | 13 => v = undef
                  | 14 => v = undef
                  | 15 => v = undef
                  | 16 => v = .bool true
                  | 17 => v = .bool true
                  | 18 => v = .bool true
                  | 19 => v = .bool true
                  | 20 => v = .bool false
                  | 21 => v = .bool false
                  | 22 => v = .slice (some ⟨b, o, none⟩) es.length cc
                  | 23 => v = .int .i64 k
                  | 24 => v = .pointer (some ⟨b, o + k * 20, none⟩)
                  | 25 => v = .agg (entCells e).toArray
                  | 26 => v = .agg (entCells m).toArray
                  | 27 => v = .bool false
                  | 28 => v = .bool false
                  | 29 => v = .bool false
                  | _ => True) ?_ ?_
              · refine Reg.Steps.cons ?_ (Reg.Steps.cons ?_ (Reg.Steps.cons ?_ (Reg.Steps.cons ?_ (Reg.Steps.cons ?_ (Reg.Steps.cons ?_ (Reg.Steps.cons ?_ (Reg.Steps.cons ?_ (Reg.Steps.cons ?_ (Reg.Steps.cons ?_ (Reg.Steps.cons ?_ (Reg.Steps.cons ?_ (Reg.Steps.cons ?_ (Reg.Steps.cons ?_ (Reg.Steps.cons ?_ (Reg.Steps.cons ?_ (Reg.Steps.cons ?_ (Reg.Steps.cons ?_ (Reg.Steps.cons ?_ (Reg.Steps.cons ?_ (Reg.Steps.cons ?_ (Reg.Steps.cons ?_ (Reg.Steps.cons ?_ (Reg.Steps.cons ?_ (Reg.Steps.cons ?_ (Reg.Steps.cons ?_ (Reg.Steps.cons ?_ (Reg.Steps.cons ?_ (Reg.Steps.cons ?_ (Reg.Steps.cons ?_ (Reg.Steps.nil _))))))))))))))))))))))))))))))
                · intro val ac u hR hp ha K hK
                  have e0 : (ac.tmps[0]?).getD undef = .slice (some ⟨b, o, none⟩) es.length cc := ha 0 (by decide); clear ha hp
                  refine Reg.Op1.plain rfl ?_
                  go_wp2
                  exact ⟨rfl, hK _ _ rfl (fun j k _ _ => Reg.Adds.refl _ _ _)⟩
                · intro val ac u hR hp ha K hK
                  have e12 : (ac.tmps[12]?).getD undef = .int .i64 k := ha 12 (by decide); clear ha hp
                  refine Reg.Op1.plain rfl ?_
                  go_wp2
                  exact ⟨rfl, hK _ _ rfl (fun j k _ _ => Reg.Adds.refl _ _ _)⟩
                · intro val ac u hR hp ha K hK
                  obtain ⟨w19, h19, r19⟩ := hp 0 (by decide); have e19 : (ac.tmps[19]?).getD undef = .slice (some ⟨b, o, none⟩) es.length cc := (ha 19 (by decide)).trans h19; obtain ⟨w20, h20, r20⟩ := hp 1 (by decide); have e20 : (ac.tmps[20]?).getD undef = .int .i64 k := (ha 20 (by decide)).trans h20; clear h19 h20 ha hp
                  refine Reg.Op1.plain rfl ?_
                  go_wp2
                  exact ⟨rfl, hK _ _ rfl (fun j k _ _ => Reg.Adds.refl _ _ _)⟩
                · intro val ac u hR hp ha K hK
                  obtain ⟨w21, h21, r21⟩ := hp 2 (by decide); have e21 : (ac.tmps[21]?).getD undef = .pointer (some ⟨b, o + k * 20, none⟩) := (ha 21 (by decide)).trans h21; clear h21 ha hp
                  refine Reg.Op1.plain rfl ?_
                  go_wp2
                  exact ⟨rfl, hK _ _ rfl (fun j k _ _ => Reg.Adds.refl _ _ _)⟩
                · intro val ac u hR hp ha K hK
                  obtain ⟨w22, h22, r22⟩ := hp 3 (by decide); have e22 : (ac.tmps[22]?).getD undef = .pointer (some ⟨b, o + k * 20 + 6, none⟩) := (ha 22 (by decide)).trans h22; clear h22 ha hp
                  refine Reg.Op1.plain rfl ?_
                  have x6 := (hR.cell (p := ⟨b, o + k * 20 + 6, none⟩) hbw).trans (HAT.out.c 6 _ rfl)
                  go_wp2
                  exact ⟨rfl, hK _ _ rfl (fun j k _ _ => Reg.Adds.refl _ _ _)⟩
                · intro val ac u hR hp ha K hK
                  have e1 : (ac.tmps[1]?).getD undef = .string key := ha 1 (by decide); clear ha hp
                  refine Reg.Op1.plain rfl ?_
                  go_wp2
                  exact ⟨rfl, hK _ _ rfl (fun j k _ _ => Reg.Adds.refl _ _ _)⟩
                · intro val ac u hR hp ha K hK
                  obtain ⟨w23, h23, r23⟩ := hp 4 (by decide); have e23 : (ac.tmps[23]?).getD undef = .string e.key := (ha 23 (by decide)).trans h23; obtain ⟨w24, h24, r24⟩ := hp 5 (by decide); have e24 : (ac.tmps[24]?).getD undef = .string key := (ha 24 (by decide)).trans h24; clear h23 h24 ha hp
                  have hkd := HKD.out
                  refine Reg.Op1.plain rfl ?_
                  go_wp2
                  exact ⟨rfl, hK _ _ rfl (fun j k _ _ => Reg.Adds.refl _ _ _)⟩
                · intro val ac u hR hp ha K hK
                  obtain ⟨w25, h25, r25⟩ := hp 6 (by decide); have e25 : (ac.tmps[25]?).getD undef = .bool true := (ha 25 (by decide)).trans h25; clear h25 ha hp
                  refine Reg.Op1.plain rfl ?_
                  go_wp2
                  exact ⟨rfl, hK _ _ rfl (fun j k _ _ => Reg.Adds.refl _ _ _)⟩
                · intro val ac u hR hp ha K hK
                  have e3 : (ac.tmps[3]?).getD undef = .bool true := ha 3 (by decide); obtain ⟨w26, h26, r26⟩ := hp 7 (by decide); have e26 : (ac.tmps[26]?).getD undef = .bool true := (ha 26 (by decide)).trans h26; clear h26 ha hp
                  refine Reg.Op1.guarded rfl rfl e26 (fun _ => Reg.Op1.plain rfl ?_) (fun h => absurd rfl h)
                  go_wp2
                  exact ⟨rfl, hK _ _ rfl (fun j k _ _ => Reg.Adds.refl _ _ _)⟩
                · intro val ac u hR hp ha K hK
                  obtain ⟨w27, h27, r27⟩ := hp 8 (by decide); have e27 : (ac.tmps[27]?).getD undef = .bool true := (ha 27 (by decide)).trans h27; obtain ⟨w26, h26, r26⟩ := hp 7 (by decide); have e26 : (ac.tmps[26]?).getD undef = .bool true := (ha 26 (by decide)).trans h26; clear h27 h26 ha hp
                  refine Reg.Op1.guarded rfl rfl e26 (fun _ => Reg.Op1.plain rfl ?_) (fun h => absurd rfl h)
                  go_wp2
                  exact ⟨rfl, hK _ _ rfl (fun j k _ _ => Reg.Adds.refl _ _ _)⟩
                · intro val ac u hR hp ha K hK; obtain ⟨_, h, _⟩ := hp 9 (by decide); exact Reg.Op1.guarded rfl rfl ((ha 28 (by decide)).trans h) (fun h => by cases h) (fun _ => hK _ _ rfl (fun j k _ _ => Reg.Adds.refl _ _ _))
                · intro val ac u hR hp ha K hK; obtain ⟨_, h, _⟩ := hp 9 (by decide); exact Reg.Op1.guarded rfl rfl ((ha 28 (by decide)).trans h) (fun h => by cases h) (fun _ => hK _ _ rfl (fun j k _ _ => Reg.Adds.refl _ _ _))
                · intro val ac u hR hp ha K hK; obtain ⟨_, h, _⟩ := hp 9 (by decide); exact Reg.Op1.guarded rfl rfl ((ha 28 (by decide)).trans h) (fun h => by cases h) (fun _ => hK _ _ rfl (fun j k _ _ => Reg.Adds.refl _ _ _))
                · intro val ac u hR hp ha K hK; obtain ⟨_, h, _⟩ := hp 9 (by decide); exact Reg.Op1.guarded rfl rfl ((ha 28 (by decide)).trans h) (fun h => by cases h) (fun _ => hK _ _ rfl (fun j k _ _ => Reg.Adds.refl _ _ _))
                · intro val ac u hR hp ha K hK; obtain ⟨_, h, _⟩ := hp 9 (by decide); exact Reg.Op1.guarded rfl rfl ((ha 28 (by decide)).trans h) (fun h => by cases h) (fun _ => hK _ _ rfl (fun j k _ _ => Reg.Adds.refl _ _ _))
                · intro val ac u hR hp ha K hK; obtain ⟨_, h, _⟩ := hp 9 (by decide); exact Reg.Op1.guarded rfl rfl ((ha 28 (by decide)).trans h) (fun h => by cases h) (fun _ => hK _ _ rfl (fun j k _ _ => Reg.Adds.refl _ _ _))
                · intro val ac u hR hp ha K hK
                  obtain ⟨w28, h28, r28⟩ := hp 9 (by decide); have e28 : (ac.tmps[28]?).getD undef = .bool true := (ha 28 (by decide)).trans h28; obtain ⟨w34, h34, r34⟩ := hp 15 (by decide); have e34 : (ac.tmps[34]?).getD undef = undef := (ha 34 (by decide)).trans h34; obtain ⟨w26, h26, r26⟩ := hp 7 (by decide); have e26 : (ac.tmps[26]?).getD undef = .bool true := (ha 26 (by decide)).trans h26; clear h28 h34 h26 ha hp
                  refine Reg.Op1.guarded rfl rfl e26 (fun _ => Reg.Op1.plain rfl ?_) (fun h => absurd rfl h)
                  go_wp2
                  exact ⟨rfl, hK _ _ rfl (fun j k _ _ => Reg.Adds.refl _ _ _)⟩
                · intro val ac u hR hp ha K hK
                  obtain ⟨w26, h26, r26⟩ := hp 7 (by decide); have e26 : (ac.tmps[26]?).getD undef = .bool true := (ha 26 (by decide)).trans h26; obtain ⟨w35, h35, r35⟩ := hp 16 (by decide); have e35 : (ac.tmps[35]?).getD undef = .bool true := (ha 35 (by decide)).trans h35; clear h26 h35 ha hp
                  refine Reg.Op1.plain rfl ?_
                  go_wp2
                  exact ⟨rfl, hK _ _ rfl (fun j k _ _ => Reg.Adds.refl _ _ _)⟩
                · intro val ac u hR hp ha K hK
                  obtain ⟨w36, h36, r36⟩ := hp 17 (by decide); have e36 : (ac.tmps[36]?).getD undef = .bool true := (ha 36 (by decide)).trans h36; clear h36 ha hp
                  refine Reg.Op1.plain rfl ?_
                  go_wp2
                  exact ⟨rfl, hK _ _ rfl (fun j k _ _ => Reg.Adds.refl _ _ _)⟩
                · intro val ac u hR hp ha K hK
                  have e11 : (ac.tmps[11]?).getD undef = .bool true := ha 11 (by decide); obtain ⟨w37, h37, r37⟩ := hp 18 (by decide); have e37 : (ac.tmps[37]?).getD undef = .bool true := (ha 37 (by decide)).trans h37; clear h37 ha hp
                  refine Reg.Op1.guarded rfl rfl e37 (fun _ => Reg.Op1.plain rfl ?_) (fun h => absurd rfl h)
                  go_wp2
                  exact ⟨rfl, hK _ _ rfl (fun j k _ _ => Reg.Adds.refl _ _ _)⟩
                · intro val ac u hR hp ha K hK
                  obtain ⟨w38, h38, r38⟩ := hp 19 (by decide); have e38 : (ac.tmps[38]?).getD undef = .bool true := (ha 38 (by decide)).trans h38; obtain ⟨w37, h37, r37⟩ := hp 18 (by decide); have e37 : (ac.tmps[37]?).getD undef = .bool true := (ha 37 (by decide)).trans h37; clear h38 h37 ha hp
                  refine Reg.Op1.guarded rfl rfl e37 (fun _ => Reg.Op1.plain rfl ?_) (fun h => absurd rfl h)
                  go_wp2
                  exact ⟨rfl, hK _ _ rfl (fun j k _ _ => Reg.Adds.refl _ _ _)⟩
                · intro val ac u hR hp ha K hK
                  obtain ⟨w39, h39, r39⟩ := hp 20 (by decide); have e39 : (ac.tmps[39]?).getD undef = .bool false := (ha 39 (by decide)).trans h39; obtain ⟨w37, h37, r37⟩ := hp 18 (by decide); have e37 : (ac.tmps[37]?).getD undef = .bool true := (ha 37 (by decide)).trans h37; clear h39 h37 ha hp
                  refine Reg.Op1.guarded rfl rfl e37 (fun _ => Reg.Op1.plain rfl ?_) (fun h => absurd rfl h)
                  go_wp2
                  exact ⟨rfl, hK _ _ rfl (fun j k _ _ => Reg.Adds.refl _ _ _)⟩
                · intro val ac u hR hp ha K hK
                  have e0 : (ac.tmps[0]?).getD undef = .slice (some ⟨b, o, none⟩) es.length cc := ha 0 (by decide); obtain ⟨w40, h40, r40⟩ := hp 21 (by decide); have e40 : (ac.tmps[40]?).getD undef = .bool false := (ha 40 (by decide)).trans h40; clear h40 ha hp
                  refine Reg.Op1.guarded rfl rfl e40 (fun _ => Reg.Op1.plain rfl ?_) (fun h => absurd rfl h)
                  go_wp2
                  exact ⟨rfl, hK _ _ rfl (fun j k _ _ => Reg.Adds.refl _ _ _)⟩
                · intro val ac u hR hp ha K hK
                  have e12 : (ac.tmps[12]?).getD undef = .int .i64 k := ha 12 (by decide); obtain ⟨w40, h40, r40⟩ := hp 21 (by decide); have e40 : (ac.tmps[40]?).getD undef = .bool false := (ha 40 (by decide)).trans h40; clear h40 ha hp
                  refine Reg.Op1.guarded rfl rfl e40 (fun _ => Reg.Op1.plain rfl ?_) (fun h => absurd rfl h)
                  go_wp2
                  exact ⟨rfl, hK _ _ rfl (fun j k _ _ => Reg.Adds.refl _ _ _)⟩
                · intro val ac u hR hp ha K hK
                  obtain ⟨w41, h41, r41⟩ := hp 22 (by decide); have e41 : (ac.tmps[41]?).getD undef = .slice (some ⟨b, o, none⟩) es.length cc := (ha 41 (by decide)).trans h41; obtain ⟨w42, h42, r42⟩ := hp 23 (by decide); have e42 : (ac.tmps[42]?).getD undef = .int .i64 k := (ha 42 (by decide)).trans h42; obtain ⟨w40, h40, r40⟩ := hp 21 (by decide); have e40 : (ac.tmps[40]?).getD undef = .bool false := (ha 40 (by decide)).trans h40; clear h41 h42 h40 ha hp
                  refine Reg.Op1.guarded rfl rfl e40 (fun _ => Reg.Op1.plain rfl ?_) (fun h => absurd rfl h)
                  go_wp2
                  exact ⟨rfl, hK _ _ rfl (fun j k _ _ => Reg.Adds.refl _ _ _)⟩
                · intro val ac u hR hp ha K hK
                  obtain ⟨w43, h43, r43⟩ := hp 24 (by decide); have e43 : (ac.tmps[43]?).getD undef = .pointer (some ⟨b, o + k * 20, none⟩) := (ha 43 (by decide)).trans h43; obtain ⟨w40, h40, r40⟩ := hp 21 (by decide); have e40 : (ac.tmps[40]?).getD undef = .bool false := (ha 40 (by decide)).trans h40; clear h43 h40 ha hp
                  refine Reg.Op1.guarded rfl rfl e40 (fun _ => Reg.Op1.plain rfl ?_) (fun h => absurd rfl h)
                  refine Mem.load_aggG _ _ entry_agg b (o + k * 20) (entCells e) (by simp [Region.wanted]) (Reg.eval_of e43) (entCells_length _) (fun q u' hu => (hR.cell (p := ⟨b, o + k * 20 + q, none⟩) hbw).trans (HAT.out.c q u' hu)) ?_
                  exact ⟨rfl, hK _ _ rfl (fun j k _ _ => Reg.Adds.refl _ _ _)⟩
                · intro val ac u hR hp ha K hK
                  have e10 : (ac.tmps[10]?).getD undef = .pointer (some ⟨w.heap.size + 2, 0, none⟩) := ha 10 (by decide); obtain ⟨w40, h40, r40⟩ := hp 21 (by decide); have e40 : (ac.tmps[40]?).getD undef = .bool false := (ha 40 (by decide)).trans h40; clear h40 ha hp
                  refine Reg.Op1.guarded rfl rfl e40 (fun _ => Reg.Op1.plain rfl ?_) (fun h => absurd rfl h)
                  have hMu : EBx u (w.heap.size + 2) m := Mem.Bx.below (w := wr.drew) H1.out hR H1.out.lt
                  refine Mem.load_aggG _ _ entry_agg (w.heap.size + 2) 0 (entCells m) (by simp [Region.wanted]) (Reg.eval_of e10) (entCells_length _) (fun j u' hu => by rw [Nat.zero_add]; exact hMu.cell hu) ?_
                  exact ⟨rfl, hK _ _ rfl (fun j k _ _ => Reg.Adds.refl _ _ _)⟩
                · intro val ac u hR hp ha K hK
                  obtain ⟨w44, h44, r44⟩ := hp 25 (by decide); have e44 : (ac.tmps[44]?).getD undef = .agg (entCells e).toArray := (ha 44 (by decide)).trans h44; obtain ⟨w45, h45, r45⟩ := hp 26 (by decide); have e45 : (ac.tmps[45]?).getD undef = .agg (entCells m).toArray := (ha 45 (by decide)).trans h45; obtain ⟨w40, h40, r40⟩ := hp 21 (by decide); have e40 : (ac.tmps[40]?).getD undef = .bool false := (ha 40 (by decide)).trans h40; clear h44 h45 h40 ha hp
                  refine Reg.Op1.guarded rfl rfl e40 (fun _ => Reg.Op1.plain rfl ?_) (fun h => absurd rfl h)
                  go_wp2_with fail
                  refine (refGreater_any e m u).mono ?_
                  rintro x w' ⟨rfl, hbw⟩
                  rw [HGT.out]
                  go_wp2_with fail
                  exact ⟨rfl, hK _ _ rfl (fun j k _ _ => hbw)⟩
                · intro val ac u hR hp ha K hK
                  obtain ⟨w40, h40, r40⟩ := hp 21 (by decide); have e40 : (ac.tmps[40]?).getD undef = .bool false := (ha 40 (by decide)).trans h40; obtain ⟨w46, h46, r46⟩ := hp 27 (by decide); have e46 : (ac.tmps[46]?).getD undef = .bool false := (ha 46 (by decide)).trans h46; obtain ⟨w37, h37, r37⟩ := hp 18 (by decide); have e37 : (ac.tmps[37]?).getD undef = .bool true := (ha 37 (by decide)).trans h37; clear h40 h46 h37 ha hp
                  refine Reg.Op1.guarded rfl rfl e37 (fun _ => Reg.Op1.plain rfl ?_) (fun h => absurd rfl h)
                  go_wp2
                  exact ⟨rfl, hK _ _ rfl (fun j k _ _ => Reg.Adds.refl _ _ _)⟩
                · intro val ac u hR hp ha K hK
                  obtain ⟨w37, h37, r37⟩ := hp 18 (by decide); have e37 : (ac.tmps[37]?).getD undef = .bool true := (ha 37 (by decide)).trans h37; obtain ⟨w47, h47, r47⟩ := hp 28 (by decide); have e47 : (ac.tmps[47]?).getD undef = .bool false := (ha 47 (by decide)).trans h47; clear h37 h47 ha hp
                  refine Reg.Op1.plain rfl ?_
                  go_wp2
                  exact ⟨rfl, hK _ _ rfl (fun j k _ _ => Reg.Adds.refl _ _ _)⟩
              intro val u hR H
              obtain ⟨wB, hv, rB⟩ := H 29 (by decide)
              have hv : val 29 = .bool false := hv
              have HKu : Hid (Below wr.heap.size wr u) := (Below.refl _ wr).drew.trans hR
              simp only [List.map_cons, List.map_nil, Reg.lay, Act.put, List.setIfInBounds_toArray, List.set_cons_succ, List.set_cons_zero, Nat.reduceAdd, hv]
              clear hR H hv rB
              obtain ⟨wy, hwy⟩ : ∃ z, z = u := ⟨_, rfl⟩
              subst hwy
              have HM2 : Hid (EBx wy (w.heap.size + 2) m) := H1.out.below HKu.out H1.out.lt
              have H02 : Hid (EBx wy (w.heap.size + 1) ent0) := H0.out.below HKu.out H0.out.lt
              have HC2 : Hid (Sto.CBx wy w.heap.size c) := HC.out.below HKu.out HC.out.lt
              have HB2 : Hid (Below w.heap.size w wy) := HB.out.trans (HKu.out.mono HB.out.size)
              have HATS : Hid (∀ j u, (entCells e)[j]? = some u → wy.cell? ⟨b, o + k * 20 + j, none⟩ = some u) := (HAT.out.below HKu.out hbw).c
              clear H1 H0 HB HKu HAT hbw HC
              go_wp2
              go_roundw
              case rel => exact ⟨⟨k + 1, by omega, by rw [hts.out], by go_num, HC2, H02, Lib.hid (by rw [hts.out]; exact HM2.out), HB2⟩⟩
              case measure => simp [intOf]; omega
            · have hts : Hid (Sto.greatest key c true (es.take (k + 1)) = (e, true)) := by show _ = _; rw [hts.out, Sto.gStep, if_pos ⟨hkey, .inl rfl, .inr (of_decide_eq_true hg)⟩]
              have HGT := Lib.hid hg
              clear hkey hg
              refine Reg.wp_region_rel (by kernel_rfl) 55 30 rfl rfl (by kernel_rfl) (Reg.Adds) (Reg.Adds.refl) (Reg.Adds.trans)
                (fun i v u => match i with
                  | 0 => v = .slice (some ⟨b, o, none⟩) es.length cc
                  | 1 => v = .int .i64 k
                  | 2 => v = .pointer (some ⟨b, o + k * 20, none⟩)
                  | 3 => v = .pointer (some ⟨b, o + k * 20 + 6, none⟩)
                  | 4 => v = .string e.key
                  | 5 => v = .string key
                  | 6 => v = .bool true
                  | 7 => v = .bool true
                  | 8 => v = .bool true
                  | 9 => v = .bool true
                  | 10 => v = undef
                  | 11 => v = undef
                  | 12 => v = undef
                  | 13 => v = undef
                  | 14 => v = undef
                  | 15 => v = undef
                  | 16 => v = .bool true
                  | 17 => v = .bool true
                  | 18 => v = .bool true
                  | 19 => v = .bool true
                  | 20 => v = .bool false
                  | 21 => v = .bool false
                  | 22 => v = .slice (some ⟨b, o, none⟩) es.length cc
                  | 23 => v = .int .i64 k
                  | 24 => v = .pointer (some ⟨b, o + k * 20, none⟩)
                  | 25 => v = .agg (entCells e).toArray
                  | 26 => v = .agg (entCells m).toArray
                  | 27 => v = .bool true
                  | 28 => v = .bool true
                  | 29 => v = .bool true
                  | _ => True) ?_ ?_
              · refine Reg.Steps.cons ?_ (Reg.Steps.cons ?_ (Reg.Steps.cons ?_ (Reg.Steps.cons ?_ (Reg.Steps.cons ?_ (Reg.Steps.cons ?_ (Reg.Steps.cons ?_ (Reg.Steps.cons ?_ (Reg.Steps.cons ?_ (Reg.Steps.cons ?_ (Reg.Steps.cons ?_ (Reg.Steps.cons ?_ (Reg.Steps.cons ?_ (Reg.Steps.cons ?_ (Reg.Steps.cons ?_ (Reg.Steps.cons ?_ (Reg.Steps.cons ?_ (Reg.Steps.cons ?_ (Reg.Steps.cons ?_ (Reg.Steps.cons ?_ (Reg.Steps.cons ?_ (Reg.Steps.cons ?_ (Reg.Steps.cons ?_ (Reg.Steps.cons ?_ (Reg.Steps.cons ?_ (Reg.Steps.cons ?_ (Reg.Steps.cons ?_ (Reg.Steps.cons ?_ (Reg.Steps.cons ?_ (Reg.Steps.cons ?_ (Reg.Steps.nil _))))))))))))))))))))))))))))))
                · intro val ac u hR hp ha K hK
                  have e0 : (ac.tmps[0]?).getD undef = .slice (some ⟨b, o, none⟩) es.length cc := ha 0 (by decide); clear ha hp
                  refine Reg.Op1.plain rfl ?_
                  go_wp2
                  exact ⟨rfl, hK _ _ rfl (fun j k _ _ => Reg.Adds.refl _ _ _)⟩
                · intro val ac u hR hp ha K hK
                  have e12 : (ac.tmps[12]?).getD undef = .int .i64 k := ha 12 (by decide); clear ha hp
                  refine Reg.Op1.plain rfl ?_
                  go_wp2
                  exact ⟨rfl, hK _ _ rfl (fun j k _ _ => Reg.Adds.refl _ _ _)⟩
                · intro val ac u hR hp ha K hK
                  obtain ⟨w19, h19, r19⟩ := hp 0 (by decide); have e19 : (ac.tmps[19]?).getD undef = .slice (some ⟨b, o, none⟩) es.length cc := (ha 19 (by decide)).trans h19; obtain ⟨w20, h20, r20⟩ := hp 1 (by decide); have e20 : (ac.tmps[20]?).getD undef = .int .i64 k := (ha 20 (by decide)).trans h20; clear h19 h20 ha hp
                  refine Reg.Op1.plain rfl ?_
                  go_wp2
                  exact ⟨rfl, hK _ _ rfl (fun j k _ _ => Reg.Adds.refl _ _ _)⟩
                · intro val ac u hR hp ha K hK
                  obtain ⟨w21, h21, r21⟩ := hp 2 (by decide); have e21 : (ac.tmps[21]?).getD undef = .pointer (some ⟨b, o + k * 20, none⟩) := (ha 21 (by decide)).trans h21; clear h21 ha hp
                  refine Reg.Op1.plain rfl ?_
                  go_wp2
                  exact ⟨rfl, hK _ _ rfl (fun j k _ _ => Reg.Adds.refl _ _ _)⟩
                · intro val ac u hR hp ha K hK
                  obtain ⟨w22, h22, r22⟩ := hp 3 (by decide); have e22 : (ac.tmps[22]?).getD undef = .pointer (some ⟨b, o + k * 20 + 6, none⟩) := (ha 22 (by decide)).trans h22; clear h22 ha hp
                  refine Reg.Op1.plain rfl ?_
                  have x6 := (hR.cell (p := ⟨b, o + k * 20 + 6, none⟩) hbw).trans (HAT.out.c 6 _ rfl)
                  go_wp2
                  exact ⟨rfl, hK _ _ rfl (fun j k _ _ => Reg.Adds.refl _ _ _)⟩
                · intro val ac u hR hp ha K hK
                  have e1 : (ac.tmps[1]?).getD undef = .string key := ha 1 (by decide); clear ha hp
                  refine Reg.Op1.plain rfl ?_
                  go_wp2
                  exact ⟨rfl, hK _ _ rfl (fun j k _ _ => Reg.Adds.refl _ _ _)⟩
                · intro val ac u hR hp ha K hK
                  obtain ⟨w23, h23, r23⟩ := hp 4 (by decide); have e23 : (ac.tmps[23]?).getD undef = .string e.key := (ha 23 (by decide)).trans h23; obtain ⟨w24, h24, r24⟩ := hp 5 (by decide); have e24 : (ac.tmps[24]?).getD undef = .string key := (ha 24 (by decide)).trans h24; clear h23 h24 ha hp
                  have hkd := HKD.out
                  refine Reg.Op1.plain rfl ?_
                  go_wp2
                  exact ⟨rfl, hK _ _ rfl (fun j k _ _ => Reg.Adds.refl _ _ _)⟩
                · intro val ac u hR hp ha K hK
                  obtain ⟨w25, h25, r25⟩ := hp 6 (by decide); have e25 : (ac.tmps[25]?).getD undef = .bool true := (ha 25 (by decide)).trans h25; clear h25 ha hp
                  refine Reg.Op1.plain rfl ?_
                  go_wp2
                  exact ⟨rfl, hK _ _ rfl (fun j k _ _ => Reg.Adds.refl _ _ _)⟩
                · intro val ac u hR hp ha K hK
                  have e3 : (ac.tmps[3]?).getD undef = .bool true := ha 3 (by decide); obtain ⟨w26, h26, r26⟩ := hp 7 (by decide); have e26 : (ac.tmps[26]?).getD undef = .bool true := (ha 26 (by decide)).trans h26; clear h26 ha hp
                  refine Reg.Op1.guarded rfl rfl e26 (fun _ => Reg.Op1.plain rfl ?_) (fun h => absurd rfl h)
                  go_wp2
                  exact ⟨rfl, hK _ _ rfl (fun j k _ _ => Reg.Adds.refl _ _ _)⟩
                · intro val ac u hR hp ha K hK
                  obtain ⟨w27, h27, r27⟩ := hp 8 (by decide); have e27 : (ac.tmps[27]?).getD undef = .bool true := (ha 27 (by decide)).trans h27; obtain ⟨w26, h26, r26⟩ := hp 7 (by decide); have e26 : (ac.tmps[26]?).getD undef = .bool true := (ha 26 (by decide)).trans h26; clear h27 h26 ha hp
                  refine Reg.Op1.guarded rfl rfl e26 (fun _ => Reg.Op1.plain rfl ?_) (fun h => absurd rfl h)
                  go_wp2
                  exact ⟨rfl, hK _ _ rfl (fun j k _ _ => Reg.Adds.refl _ _ _)⟩
                · intro val ac u hR hp ha K hK; obtain ⟨_, h, _⟩ := hp 9 (by decide); exact Reg.Op1.guarded rfl rfl ((ha 28 (by decide)).trans h) (fun h => by cases h) (fun _ => hK _ _ rfl (fun j k _ _ => Reg.Adds.refl _ _ _))
                · intro val ac u hR hp ha K hK; obtain ⟨_, h, _⟩ := hp 9 (by decide); exact Reg.Op1.guarded rfl rfl ((ha 28 (by decide)).trans h) (fun h => by cases h) (fun _ => hK _ _ rfl (fun j k _ _ => Reg.Adds.refl _ _ _))
                · intro val ac u hR hp ha K hK; obtain ⟨_, h, _⟩ := hp 9 (by decide); exact Reg.Op1.guarded rfl rfl ((ha 28 (by decide)).trans h) (fun h => by cases h) (fun _ => hK _ _ rfl (fun j k _ _ => Reg.Adds.refl _ _ _))
                · intro val ac u hR hp ha K hK; obtain ⟨_, h, _⟩ := hp 9 (by decide); exact Reg.Op1.guarded rfl rfl ((ha 28 (by decide)).trans h) (fun h => by cases h) (fun _ => hK _ _ rfl (fun j k _ _ => Reg.Adds.refl _ _ _))
                · intro val ac u hR hp ha K hK; obtain ⟨_, h, _⟩ := hp 9 (by decide); exact Reg.Op1.guarded rfl rfl ((ha 28 (by decide)).trans h) (fun h => by cases h) (fun _ => hK _ _ rfl (fun j k _ _ => Reg.Adds.refl _ _ _))
                · intro val ac u hR hp ha K hK; obtain ⟨_, h, _⟩ := hp 9 (by decide); exact Reg.Op1.guarded rfl rfl ((ha 28 (by decide)).trans h) (fun h => by cases h) (fun _ => hK _ _ rfl (fun j k _ _ => Reg.Adds.refl _ _ _))
                · intro val ac u hR hp ha K hK
                  obtain ⟨w28, h28, r28⟩ := hp 9 (by decide); have e28 : (ac.tmps[28]?).getD undef = .bool true := (ha 28 (by decide)).trans h28; obtain ⟨w34, h34, r34⟩ := hp 15 (by decide); have e34 : (ac.tmps[34]?).getD undef = undef := (ha 34 (by decide)).trans h34; obtain ⟨w26, h26, r26⟩ := hp 7 (by decide); have e26 : (ac.tmps[26]?).getD undef = .bool true := (ha 26 (by decide)).trans h26; clear h28 h34 h26 ha hp
                  refine Reg.Op1.guarded rfl rfl e26 (fun _ => Reg.Op1.plain rfl ?_) (fun h => absurd rfl h)
                  go_wp2
                  exact ⟨rfl, hK _ _ rfl (fun j k _ _ => Reg.Adds.refl _ _ _)⟩
                · intro val ac u hR hp ha K hK
                  obtain ⟨w26, h26, r26⟩ := hp 7 (by decide); have e26 : (ac.tmps[26]?).getD undef = .bool true := (ha 26 (by decide)).trans h26; obtain ⟨w35, h35, r35⟩ := hp 16 (by decide); have e35 : (ac.tmps[35]?).getD undef = .bool true := (ha 35 (by decide)).trans h35; clear h26 h35 ha hp
                  refine Reg.Op1.plain rfl ?_
                  go_wp2
                  exact ⟨rfl, hK _ _ rfl (fun j k _ _ => Reg.Adds.refl _ _ _)⟩
                · intro val ac u hR hp ha K hK
                  obtain ⟨w36, h36, r36⟩ := hp 17 (by decide); have e36 : (ac.tmps[36]?).getD undef = .bool true := (ha 36 (by decide)).trans h36; clear h36 ha hp
                  refine Reg.Op1.plain rfl ?_
                  go_wp2
                  exact ⟨rfl, hK _ _ rfl (fun j k _ _ => Reg.Adds.refl _ _ _)⟩
                · intro val ac u hR hp ha K hK
                  have e11 : (ac.tmps[11]?).getD undef = .bool true := ha 11 (by decide); obtain ⟨w37, h37, r37⟩ := hp 18 (by decide); have e37 : (ac.tmps[37]?).getD undef = .bool true := (ha 37 (by decide)).trans h37; clear h37 ha hp
                  refine Reg.Op1.guarded rfl rfl e37 (fun _ => Reg.Op1.plain rfl ?_) (fun h => absurd rfl h)
                  go_wp2
                  exact ⟨rfl, hK _ _ rfl (fun j k _ _ => Reg.Adds.refl _ _ _)⟩
                · intro val ac u hR hp ha K hK
                  obtain ⟨w38, h38, r38⟩ := hp 19 (by decide); have e38 : (ac.tmps[38]?).getD undef = .bool true := (ha 38 (by decide)).trans h38; obtain ⟨w37, h37, r37⟩ := hp 18 (by decide); have e37 : (ac.tmps[37]?).getD undef = .bool true := (ha 37 (by decide)).trans h37; clear h38 h37 ha hp
                  refine Reg.Op1.guarded rfl rfl e37 (fun _ => Reg.Op1.plain rfl ?_) (fun h => absurd rfl h)
                  go_wp2
                  exact ⟨rfl, hK _ _ rfl (fun j k _ _ => Reg.Adds.refl _ _ _)⟩
                · intro val ac u hR hp ha K hK
                  obtain ⟨w39, h39, r39⟩ := hp 20 (by decide); have e39 : (ac.tmps[39]?).getD undef = .bool false := (ha 39 (by decide)).trans h39; obtain ⟨w37, h37, r37⟩ := hp 18 (by decide); have e37 : (ac.tmps[37]?).getD undef = .bool true := (ha 37 (by decide)).trans h37; clear h39 h37 ha hp
                  refine Reg.Op1.guarded rfl rfl e37 (fun _ => Reg.Op1.plain rfl ?_) (fun h => absurd rfl h)
                  go_wp2
                  exact ⟨rfl, hK _ _ rfl (fun j k _ _ => Reg.Adds.refl _ _ _)⟩
                · intro val ac u hR hp ha K hK
                  have e0 : (ac.tmps[0]?).getD undef = .slice (some ⟨b, o, none⟩) es.length cc := ha 0 (by decide); obtain ⟨w40, h40, r40⟩ := hp 21 (by decide); have e40 : (ac.tmps[40]?).getD undef = .bool false := (ha 40 (by decide)).trans h40; clear h40 ha hp
                  refine Reg.Op1.guarded rfl rfl e40 (fun _ => Reg.Op1.plain rfl ?_) (fun h => absurd rfl h)
                  go_wp2
                  exact ⟨rfl, hK _ _ rfl (fun j k _ _ => Reg.Adds.refl _ _ _)⟩
                · intro val ac u hR hp ha K hK
                  have e12 : (ac.tmps[12]?).getD undef = .int .i64 k := ha 12 (by decide); obtain ⟨w40, h40, r40⟩ := hp 21 (by decide); have e40 : (ac.tmps[40]?).getD undef = .bool false := (ha 40 (by decide)).trans h40; clear h40 ha hp
                  refine Reg.Op1.guarded rfl rfl e40 (fun _ => Reg.Op1.plain rfl ?_) (fun h => absurd rfl h)
                  go_wp2
                  exact ⟨rfl, hK _ _ rfl (fun j k _ _ => Reg.Adds.refl _ _ _)⟩
                · intro val ac u hR hp ha K hK
                  obtain ⟨w41, h41, r41⟩ := hp 22 (by decide); have e41 : (ac.tmps[41]?).getD undef = .slice (some ⟨b, o, none⟩) es.length cc := (ha 41 (by decide)).trans h41; obtain ⟨w42, h42, r42⟩ := hp 23 (by decide); have e42 : (ac.tmps[42]?).getD undef = .int .i64 k := (ha 42 (by decide)).trans h42; obtain ⟨w40, h40, r40⟩ := hp 21 (by decide); have e40 : (ac.tmps[40]?).getD undef = .bool false := (ha 40 (by decide)).trans h40; clear h41 h42 h40 ha hp
                  refine Reg.Op1.guarded rfl rfl e40 (fun _ => Reg.Op1.plain rfl ?_) (fun h => absurd rfl h)
                  go_wp2
                  exact ⟨rfl, hK _ _ rfl (fun j k _ _ => Reg.Adds.refl _ _ _)⟩
                · intro val ac u hR hp ha K hK
                  obtain ⟨w43, h43, r43⟩ := hp 24 (by decide); have e43 : (ac.tmps[43]?).getD undef = .pointer (some ⟨b, o + k * 20, none⟩) := (ha 43 (by decide)).trans h43; obtain ⟨w40, h40, r40⟩ := hp 21 (by decide); have e40 : (ac.tmps[40]?).getD undef = .bool false := (ha 40 (by decide)).trans h40; clear h43 h40 ha hp
                  refine Reg.Op1.guarded rfl rfl e40 (fun _ => Reg.Op1.plain rfl ?_) (fun h => absurd rfl h)
                  refine Mem.load_aggG _ _ entry_agg b (o + k * 20) (entCells e) (by simp [Region.wanted]) (Reg.eval_of e43) (entCells_length _) (fun q u' hu => (hR.cell (p := ⟨b, o + k * 20 + q, none⟩) hbw).trans (HAT.out.c q u' hu)) ?_
                  exact ⟨rfl, hK _ _ rfl (fun j k _ _ => Reg.Adds.refl _ _ _)⟩
                · intro val ac u hR hp ha K hK
                  have e10 : (ac.tmps[10]?).getD undef = .pointer (some ⟨w.heap.size + 2, 0, none⟩) := ha 10 (by decide); obtain ⟨w40, h40, r40⟩ := hp 21 (by decide); have e40 : (ac.tmps[40]?).getD undef = .bool false := (ha 40 (by decide)).trans h40; clear h40 ha hp
                  refine Reg.Op1.guarded rfl rfl e40 (fun _ => Reg.Op1.plain rfl ?_) (fun h => absurd rfl h)
                  have hMu : EBx u (w.heap.size + 2) m := Mem.Bx.below (w := wr.drew) H1.out hR H1.out.lt
                  refine Mem.load_aggG _ _ entry_agg (w.heap.size + 2) 0 (entCells m) (by simp [Region.wanted]) (Reg.eval_of e10) (entCells_length _) (fun j u' hu => by rw [Nat.zero_add]; exact hMu.cell hu) ?_
                  exact ⟨rfl, hK _ _ rfl (fun j k _ _ => Reg.Adds.refl _ _ _)⟩
                · intro val ac u hR hp ha K hK
                  obtain ⟨w44, h44, r44⟩ := hp 25 (by decide); have e44 : (ac.tmps[44]?).getD undef = .agg (entCells e).toArray := (ha 44 (by decide)).trans h44; obtain ⟨w45, h45, r45⟩ := hp 26 (by decide); have e45 : (ac.tmps[45]?).getD undef = .agg (entCells m).toArray := (ha 45 (by decide)).trans h45; obtain ⟨w40, h40, r40⟩ := hp 21 (by decide); have e40 : (ac.tmps[40]?).getD undef = .bool false := (ha 40 (by decide)).trans h40; clear h44 h45 h40 ha hp
                  refine Reg.Op1.guarded rfl rfl e40 (fun _ => Reg.Op1.plain rfl ?_) (fun h => absurd rfl h)
                  go_wp2_with fail
                  refine (refGreater_any e m u).mono ?_
                  rintro x w' ⟨rfl, hbw⟩
                  rw [HGT.out]
                  go_wp2_with fail
                  exact ⟨rfl, hK _ _ rfl (fun j k _ _ => hbw)⟩
                · intro val ac u hR hp ha K hK
                  obtain ⟨w40, h40, r40⟩ := hp 21 (by decide); have e40 : (ac.tmps[40]?).getD undef = .bool false := (ha 40 (by decide)).trans h40; obtain ⟨w46, h46, r46⟩ := hp 27 (by decide); have e46 : (ac.tmps[46]?).getD undef = .bool true := (ha 46 (by decide)).trans h46; obtain ⟨w37, h37, r37⟩ := hp 18 (by decide); have e37 : (ac.tmps[37]?).getD undef = .bool true := (ha 37 (by decide)).trans h37; clear h40 h46 h37 ha hp
                  refine Reg.Op1.guarded rfl rfl e37 (fun _ => Reg.Op1.plain rfl ?_) (fun h => absurd rfl h)
                  go_wp2
                  exact ⟨rfl, hK _ _ rfl (fun j k _ _ => Reg.Adds.refl _ _ _)⟩
                · intro val ac u hR hp ha K hK
                  obtain ⟨w37, h37, r37⟩ := hp 18 (by decide); have e37 : (ac.tmps[37]?).getD undef = .bool true := (ha 37 (by decide)).trans h37; obtain ⟨w47, h47, r47⟩ := hp 28 (by decide); have e47 : (ac.tmps[47]?).getD undef = .bool true := (ha 47 (by decide)).trans h47; clear h37 h47 ha hp
                  refine Reg.Op1.plain rfl ?_
                  go_wp2
                  exact ⟨rfl, hK _ _ rfl (fun j k _ _ => Reg.Adds.refl _ _ _)⟩
              intro val u hR H
              obtain ⟨wB, hv, rB⟩ := H 29 (by decide)
              have hv : val 29 = .bool true := hv
              have HKu : Hid (Below wr.heap.size wr u) := (Below.refl _ wr).drew.trans hR
              simp only [List.map_cons, List.map_nil, Reg.lay, Act.put, List.setIfInBounds_toArray, List.set_cons_succ, List.set_cons_zero, Nat.reduceAdd, hv]
              clear hR H hv rB
              obtain ⟨wy, hwy⟩ : ∃ z, z = u := ⟨_, rfl⟩
              subst hwy
              have HM2 : Hid (EBx wy (w.heap.size + 2) m) := H1.out.below HKu.out H1.out.lt
              have H02 : Hid (EBx wy (w.heap.size + 1) ent0) := H0.out.below HKu.out H0.out.lt
              have HC2 : Hid (Sto.CBx wy w.heap.size c) := HC.out.below HKu.out HC.out.lt
              have HB2 : Hid (Below w.heap.size w wy) := HB.out.trans (HKu.out.mono HB.out.size)
              have HATS : Hid (∀ j u, (entCells e)[j]? = some u → wy.cell? ⟨b, o + k * 20 + j, none⟩ = some u) := (HAT.out.below HKu.out hbw).c
              clear H1 H0 HB HKu HAT hbw HC
              go_wp2_with (first | ((with_reducible refine Mem.load_agg _ _ entry_agg b (o + k * 20) (entCells e) ?hx (entCells_length e) HATS.out ?_); (case hx => exact rfl)) | ((with_reducible refine Mem.store_agg _ _ entry_agg (w.heap.size + 2) (entCells m) (entCells e) ?hxs ?hys HM2.out (entCells_length e) (ent_one e) ?_); ((case hxs => exact rfl); (case hys => exact rfl); intro w3 hb3 hk3 hs3)))
              go_roundw
              case rel => exact ⟨⟨k + 1, by omega, by rw [hts.out], by go_num, Lib.hid (HC2.out.keeps hk3 (by omega)), Lib.hid (H02.out.keeps hk3 (by omega)), Lib.hid (by rw [hts.out]; exact hb3), Lib.hid (HB2.out.trans (hk3.below (fun k h => by omega) HB2.out.size))⟩⟩
              case measure => simp [intOf]; omega
        | false =>
          cases hun : Sto.under c e with
          | false =>
            have HUN := Lib.hid hun
            have hts : Hid (Sto.greatest key c false (es.take (k + 1)) = (m, f)) := by
              show _ = _
              rw [hts.out, Sto.gStep, if_neg]
              rintro ⟨_, h | h, _⟩
              · cases h
              · rw [hun] at h; cases h
            have HGT : Hid (decide (0 < gtE e m) = decide (0 < gtE e m)) := rfl
            clear hkey hun
            refine Reg.wp_region_rel (by kernel_rfl) 55 30 rfl rfl (by kernel_rfl) (Reg.Adds) (Reg.Adds.refl) (Reg.Adds.trans)
              (fun i v u => match i with
                | 0 => v = .slice (some ⟨b, o, none⟩) es.length cc
                | 1 => v = .int .i64 k
                | 2 => v = .pointer (some ⟨b, o + k * 20, none⟩)
                | 3 => v = .pointer (some ⟨b, o + k * 20 + 6, none⟩)
                | 4 => v = .string e.key
                | 5 => v = .string key
                | 6 => v = .bool true
                | 7 => v = .bool true
                | 8 => v = .bool false
                | 9 => v = .bool false
                | 10 => v = .slice (some ⟨b, o, none⟩) es.length cc
                | 11 => v = .int .i64 k
                | 12 => v = .pointer (some ⟨b, o + k * 20, none⟩)
                | 13 => v = .agg (entCells e).toArray
                | 14 => v = Vec.C c
                | 15 => v = .bool false
                | 16 => v = .bool false
                | 17 => v = .bool false
                | 18 => v = .bool false
                | 19 => v = undef
                | 20 => v = undef
                | 21 => v = undef
                | 22 => v = undef
                | 23 => v = undef
                | 24 => v = undef
                | 25 => v = undef
                | 26 => v = undef
                | 27 => v = undef
                | 28 => v = undef
                | 29 => v = .bool false
                | _ => True) ?_ ?_
            · refine Reg.Steps.cons ?_ (Reg.Steps.cons ?_ (Reg.Steps.cons ?_ (Reg.Steps.cons ?_ (Reg.Steps.cons ?_ (Reg.Steps.cons ?_ (Reg.Steps.cons ?_ (Reg.Steps.cons ?_ (Reg.Steps.cons ?_ (Reg.Steps.cons ?_ (Reg.Steps.cons ?_ (Reg.Steps.cons ?_ (Reg.Steps.cons ?_ (Reg.Steps.cons ?_ (Reg.Steps.cons ?_ (Reg.Steps.cons ?_ (Reg.Steps.cons ?_ (Reg.Steps.cons ?_ (Reg.Steps.cons ?_ (Reg.Steps.cons ?_ (Reg.Steps.cons ?_ (Reg.Steps.cons ?_ (Reg.Steps.cons ?_ (Reg.Steps.cons ?_ (Reg.Steps.cons ?_ (Reg.Steps.cons ?_ (Reg.Steps.cons ?_ (Reg.Steps.cons ?_ (Reg.Steps.cons ?_ (Reg.Steps.cons ?_ (Reg.Steps.nil _))))))))))))))))))))))))))))))
              · intro val ac u hR hp ha K hK
                have e0 : (ac.tmps[0]?).getD undef = .slice (some ⟨b, o, none⟩) es.length cc := ha 0 (by decide); clear ha hp
                refine Reg.Op1.plain rfl ?_
                go_wp2
                exact ⟨rfl, hK _ _ rfl (fun j k _ _ => Reg.Adds.refl _ _ _)⟩
              · intro val ac u hR hp ha K hK
                have e12 : (ac.tmps[12]?).getD undef = .int .i64 k := ha 12 (by decide); clear ha hp
                refine Reg.Op1.plain rfl ?_
                go_wp2
                exact ⟨rfl, hK _ _ rfl (fun j k _ _ => Reg.Adds.refl _ _ _)⟩
              · intro val ac u hR hp ha K hK
                obtain ⟨w19, h19, r19⟩ := hp 0 (by decide); have e19 : (ac.tmps[19]?).getD undef = .slice (some ⟨b, o, none⟩) es.length cc := (ha 19 (by decide)).trans h19; obtain ⟨w20, h20, r20⟩ := hp 1 (by decide); have e20 : (ac.tmps[20]?).getD undef = .int .i64 k := (ha 20 (by decide)).trans h20; clear h19 h20 ha hp
                refine Reg.Op1.plain rfl ?_
                go_wp2
                exact ⟨rfl, hK _ _ rfl (fun j k _ _ => Reg.Adds.refl _ _ _)⟩
              · intro val ac u hR hp ha K hK
                obtain ⟨w21, h21, r21⟩ := hp 2 (by decide); have e21 : (ac.tmps[21]?).getD undef = .pointer (some ⟨b, o + k * 20, none⟩) := (ha 21 (by decide)).trans h21; clear h21 ha hp
                refine Reg.Op1.plain rfl ?_
                go_wp2
                exact ⟨rfl, hK _ _ rfl (fun j k _ _ => Reg.Adds.refl _ _ _)⟩
              · intro val ac u hR hp ha K hK
                obtain ⟨w22, h22, r22⟩ := hp 3 (by decide); have e22 : (ac.tmps[22]?).getD undef = .pointer (some ⟨b, o + k * 20 + 6, none⟩) := (ha 22 (by decide)).trans h22; clear h22 ha hp
                refine Reg.Op1.plain rfl ?_
                have x6 := (hR.cell (p := ⟨b, o + k * 20 + 6, none⟩) hbw).trans (HAT.out.c 6 _ rfl)
                go_wp2
                exact ⟨rfl, hK _ _ rfl (fun j k _ _ => Reg.Adds.refl _ _ _)⟩
              · intro val ac u hR hp ha K hK
                have e1 : (ac.tmps[1]?).getD undef = .string key := ha 1 (by decide); clear ha hp
                refine Reg.Op1.plain rfl ?_
                go_wp2
                exact ⟨rfl, hK _ _ rfl (fun j k _ _ => Reg.Adds.refl _ _ _)⟩
              · intro val ac u hR hp ha K hK
                obtain ⟨w23, h23, r23⟩ := hp 4 (by decide); have e23 : (ac.tmps[23]?).getD undef = .string e.key := (ha 23 (by decide)).trans h23; obtain ⟨w24, h24, r24⟩ := hp 5 (by decide); have e24 : (ac.tmps[24]?).getD undef = .string key := (ha 24 (by decide)).trans h24; clear h23 h24 ha hp
                have hkd := HKD.out
                refine Reg.Op1.plain rfl ?_
                go_wp2
                exact ⟨rfl, hK _ _ rfl (fun j k _ _ => Reg.Adds.refl _ _ _)⟩
              · intro val ac u hR hp ha K hK
                obtain ⟨w25, h25, r25⟩ := hp 6 (by decide); have e25 : (ac.tmps[25]?).getD undef = .bool true := (ha 25 (by decide)).trans h25; clear h25 ha hp
                refine Reg.Op1.plain rfl ?_
                go_wp2
                exact ⟨rfl, hK _ _ rfl (fun j k _ _ => Reg.Adds.refl _ _ _)⟩
              · intro val ac u hR hp ha K hK
                have e3 : (ac.tmps[3]?).getD undef = .bool false := ha 3 (by decide); obtain ⟨w26, h26, r26⟩ := hp 7 (by decide); have e26 : (ac.tmps[26]?).getD undef = .bool true := (ha 26 (by decide)).trans h26; clear h26 ha hp
                refine Reg.Op1.guarded rfl rfl e26 (fun _ => Reg.Op1.plain rfl ?_) (fun h => absurd rfl h)
                go_wp2
                exact ⟨rfl, hK _ _ rfl (fun j k _ _ => Reg.Adds.refl _ _ _)⟩
              · intro val ac u hR hp ha K hK
                obtain ⟨w27, h27, r27⟩ := hp 8 (by decide); have e27 : (ac.tmps[27]?).getD undef = .bool false := (ha 27 (by decide)).trans h27; obtain ⟨w26, h26, r26⟩ := hp 7 (by decide); have e26 : (ac.tmps[26]?).getD undef = .bool true := (ha 26 (by decide)).trans h26; clear h27 h26 ha hp
                refine Reg.Op1.guarded rfl rfl e26 (fun _ => Reg.Op1.plain rfl ?_) (fun h => absurd rfl h)
                go_wp2
                exact ⟨rfl, hK _ _ rfl (fun j k _ _ => Reg.Adds.refl _ _ _)⟩
              · intro val ac u hR hp ha K hK
                have e0 : (ac.tmps[0]?).getD undef = .slice (some ⟨b, o, none⟩) es.length cc := ha 0 (by decide); obtain ⟨w28, h28, r28⟩ := hp 9 (by decide); have e28 : (ac.tmps[28]?).getD undef = .bool false := (ha 28 (by decide)).trans h28; clear h28 ha hp
                refine Reg.Op1.guarded rfl rfl e28 (fun _ => Reg.Op1.plain rfl ?_) (fun h => absurd rfl h)
                go_wp2
                exact ⟨rfl, hK _ _ rfl (fun j k _ _ => Reg.Adds.refl _ _ _)⟩
              · intro val ac u hR hp ha K hK
                have e12 : (ac.tmps[12]?).getD undef = .int .i64 k := ha 12 (by decide); obtain ⟨w28, h28, r28⟩ := hp 9 (by decide); have e28 : (ac.tmps[28]?).getD undef = .bool false := (ha 28 (by decide)).trans h28; clear h28 ha hp
                refine Reg.Op1.guarded rfl rfl e28 (fun _ => Reg.Op1.plain rfl ?_) (fun h => absurd rfl h)
                go_wp2
                exact ⟨rfl, hK _ _ rfl (fun j k _ _ => Reg.Adds.refl _ _ _)⟩
              · intro val ac u hR hp ha K hK
                obtain ⟨w29, h29, r29⟩ := hp 10 (by decide); have e29 : (ac.tmps[29]?).getD undef = .slice (some ⟨b, o, none⟩) es.length cc := (ha 29 (by decide)).trans h29; obtain ⟨w30, h30, r30⟩ := hp 11 (by decide); have e30 : (ac.tmps[30]?).getD undef = .int .i64 k := (ha 30 (by decide)).trans h30; obtain ⟨w28, h28, r28⟩ := hp 9 (by decide); have e28 : (ac.tmps[28]?).getD undef = .bool false := (ha 28 (by decide)).trans h28; clear h29 h30 h28 ha hp
                refine Reg.Op1.guarded rfl rfl e28 (fun _ => Reg.Op1.plain rfl ?_) (fun h => absurd rfl h)
                go_wp2
                exact ⟨rfl, hK _ _ rfl (fun j k _ _ => Reg.Adds.refl _ _ _)⟩
              · intro val ac u hR hp ha K hK
                obtain ⟨w31, h31, r31⟩ := hp 12 (by decide); have e31 : (ac.tmps[31]?).getD undef = .pointer (some ⟨b, o + k * 20, none⟩) := (ha 31 (by decide)).trans h31; obtain ⟨w28, h28, r28⟩ := hp 9 (by decide); have e28 : (ac.tmps[28]?).getD undef = .bool false := (ha 28 (by decide)).trans h28; clear h31 h28 ha hp
                refine Reg.Op1.guarded rfl rfl e28 (fun _ => Reg.Op1.plain rfl ?_) (fun h => absurd rfl h)
                refine Mem.load_aggG _ _ entry_agg b (o + k * 20) (entCells e) (by simp [Region.wanted]) (Reg.eval_of e31) (entCells_length _) (fun q u' hu => (hR.cell (p := ⟨b, o + k * 20 + q, none⟩) hbw).trans (HAT.out.c q u' hu)) ?_
                exact ⟨rfl, hK _ _ rfl (fun j k _ _ => Reg.Adds.refl _ _ _)⟩
              · intro val ac u hR hp ha K hK
                have e6 : (ac.tmps[6]?).getD undef = .pointer (some ⟨w.heap.size, 0, none⟩) := ha 6 (by decide); obtain ⟨w28, h28, r28⟩ := hp 9 (by decide); have e28 : (ac.tmps[28]?).getD undef = .bool false := (ha 28 (by decide)).trans h28; clear h28 ha hp
                refine Reg.Op1.guarded rfl rfl e28 (fun _ => Reg.Op1.plain rfl ?_) (fun h => absurd rfl h)
                have hCu : Sto.CBx u w.heap.size c := Mem.Bx.below (w := wr.drew) HC.out hR HC.out.lt
                refine Mem.load_aggG _ _ col_agg w.heap.size 0 (colCells c) (by simp [Region.wanted]) (Reg.eval_of e6) (Sto.colCells_length _) (fun j u' hu => by rw [Nat.zero_add]; exact hCu.cell hu) ?_
                exact ⟨rfl, hK _ _ rfl (fun j k _ _ => Reg.Adds.refl _ _ _)⟩
              · intro val ac u hR hp ha K hK
                obtain ⟨w32, h32, r32⟩ := hp 13 (by decide); have e32 : (ac.tmps[32]?).getD undef = .agg (entCells e).toArray := (ha 32 (by decide)).trans h32; obtain ⟨w33, h33, r33⟩ := hp 14 (by decide); have e33 : (ac.tmps[33]?).getD undef = Vec.C c := (ha 33 (by decide)).trans h33; obtain ⟨w28, h28, r28⟩ := hp 9 (by decide); have e28 : (ac.tmps[28]?).getD undef = .bool false := (ha 28 (by decide)).trans h28; clear h32 h33 h28 ha hp
                refine Reg.Op1.guarded rfl rfl e28 (fun _ => Reg.Op1.plain rfl ?_) (fun h => absurd rfl h)
                go_wp2_with fail
                refine (refUnder_any c e u HDC.out).mono ?_
                rintro x w' ⟨rfl, hbw⟩
                rw [HUN.out]
                go_wp2_with fail
                exact ⟨rfl, hK _ _ rfl (fun j k _ _ => hbw)⟩
              · intro val ac u hR hp ha K hK
                obtain ⟨w28, h28, r28⟩ := hp 9 (by decide); have e28 : (ac.tmps[28]?).getD undef = .bool false := (ha 28 (by decide)).trans h28; obtain ⟨w34, h34, r34⟩ := hp 15 (by decide); have e34 : (ac.tmps[34]?).getD undef = .bool false := (ha 34 (by decide)).trans h34; obtain ⟨w26, h26, r26⟩ := hp 7 (by decide); have e26 : (ac.tmps[26]?).getD undef = .bool true := (ha 26 (by decide)).trans h26; clear h28 h34 h26 ha hp
                refine Reg.Op1.guarded rfl rfl e26 (fun _ => Reg.Op1.plain rfl ?_) (fun h => absurd rfl h)
                go_wp2
                exact ⟨rfl, hK _ _ rfl (fun j k _ _ => Reg.Adds.refl _ _ _)⟩
              · intro val ac u hR hp ha K hK
                obtain ⟨w26, h26, r26⟩ := hp 7 (by decide); have e26 : (ac.tmps[26]?).getD undef = .bool true := (ha 26 (by decide)).trans h26; obtain ⟨w35, h35, r35⟩ := hp 16 (by decide); have e35 : (ac.tmps[35]?).getD undef = .bool false := (ha 35 (by decide)).trans h35; clear h26 h35 ha hp
                refine Reg.Op1.plain rfl ?_
                go_wp2
                exact ⟨rfl, hK _ _ rfl (fun j k _ _ => Reg.Adds.refl _ _ _)⟩
              · intro val ac u hR hp ha K hK
                obtain ⟨w36, h36, r36⟩ := hp 17 (by decide); have e36 : (ac.tmps[36]?).getD undef = .bool false := (ha 36 (by decide)).trans h36; clear h36 ha hp
                refine Reg.Op1.plain rfl ?_
                go_wp2
                exact ⟨rfl, hK _ _ rfl (fun j k _ _ => Reg.Adds.refl _ _ _)⟩
              · intro val ac u hR hp ha K hK; obtain ⟨_, h, _⟩ := hp 18 (by decide); exact Reg.Op1.guarded rfl rfl ((ha 37 (by decide)).trans h) (fun h => by cases h) (fun _ => hK _ _ rfl (fun j k _ _ => Reg.Adds.refl _ _ _))
              · intro val ac u hR hp ha K hK; obtain ⟨_, h, _⟩ := hp 18 (by decide); exact Reg.Op1.guarded rfl rfl ((ha 37 (by decide)).trans h) (fun h => by cases h) (fun _ => hK _ _ rfl (fun j k _ _ => Reg.Adds.refl _ _ _))
              · intro val ac u hR hp ha K hK; obtain ⟨_, h, _⟩ := hp 18 (by decide); exact Reg.Op1.guarded rfl rfl ((ha 37 (by decide)).trans h) (fun h => by cases h) (fun _ => hK _ _ rfl (fun j k _ _ => Reg.Adds.refl _ _ _))
              · intro val ac u hR hp ha K hK
                obtain ⟨w40, h40, r40⟩ := hp 21 (by decide); have e40 : (ac.tmps[40]?).getD undef = undef := (ha 40 (by decide)).trans h40; clear h40 ha hp
                exact Reg.Op1.passed rfl rfl e40 (hK _ _ rfl (fun j k _ _ => Reg.Adds.refl _ _ _))
              · intro val ac u hR hp ha K hK
                obtain ⟨w40, h40, r40⟩ := hp 21 (by decide); have e40 : (ac.tmps[40]?).getD undef = undef := (ha 40 (by decide)).trans h40; clear h40 ha hp
                exact Reg.Op1.passed rfl rfl e40 (hK _ _ rfl (fun j k _ _ => Reg.Adds.refl _ _ _))
              · intro val ac u hR hp ha K hK
                obtain ⟨w40, h40, r40⟩ := hp 21 (by decide); have e40 : (ac.tmps[40]?).getD undef = undef := (ha 40 (by decide)).trans h40; clear h40 ha hp
                exact Reg.Op1.passed rfl rfl e40 (hK _ _ rfl (fun j k _ _ => Reg.Adds.refl _ _ _))
              · intro val ac u hR hp ha K hK
                obtain ⟨w40, h40, r40⟩ := hp 21 (by decide); have e40 : (ac.tmps[40]?).getD undef = undef := (ha 40 (by decide)).trans h40; clear h40 ha hp
                exact Reg.Op1.passed rfl rfl e40 (hK _ _ rfl (fun j k _ _ => Reg.Adds.refl _ _ _))
              · intro val ac u hR hp ha K hK
                obtain ⟨w40, h40, r40⟩ := hp 21 (by decide); have e40 : (ac.tmps[40]?).getD undef = undef := (ha 40 (by decide)).trans h40; clear h40 ha hp
                exact Reg.Op1.passed rfl rfl e40 (hK _ _ rfl (fun j k _ _ => Reg.Adds.refl _ _ _))
              · intro val ac u hR hp ha K hK
                obtain ⟨w40, h40, r40⟩ := hp 21 (by decide); have e40 : (ac.tmps[40]?).getD undef = undef := (ha 40 (by decide)).trans h40; clear h40 ha hp
                exact Reg.Op1.passed rfl rfl e40 (hK _ _ rfl (fun j k _ _ => Reg.Adds.refl _ _ _))
              · intro val ac u hR hp ha K hK; obtain ⟨_, h, _⟩ := hp 18 (by decide); exact Reg.Op1.guarded rfl rfl ((ha 37 (by decide)).trans h) (fun h => by cases h) (fun _ => hK _ _ rfl (fun j k _ _ => Reg.Adds.refl _ _ _))
              · intro val ac u hR hp ha K hK
                obtain ⟨w37, h37, r37⟩ := hp 18 (by decide); have e37 : (ac.tmps[37]?).getD undef = .bool false := (ha 37 (by decide)).trans h37; obtain ⟨w47, h47, r47⟩ := hp 28 (by decide); have e47 : (ac.tmps[47]?).getD undef = undef := (ha 47 (by decide)).trans h47; clear h37 h47 ha hp
                refine Reg.Op1.plain rfl ?_
                go_wp2
                exact ⟨rfl, hK _ _ rfl (fun j k _ _ => Reg.Adds.refl _ _ _)⟩
            intro val u hR H
            obtain ⟨wB, hv, rB⟩ := H 29 (by decide)
            have hv : val 29 = .bool false := hv
            have HKu : Hid (Below wr.heap.size wr u) := (Below.refl _ wr).drew.trans hR
            simp only [List.map_cons, List.map_nil, Reg.lay, Act.put, List.setIfInBounds_toArray, List.set_cons_succ, List.set_cons_zero, Nat.reduceAdd, hv]
            clear hR H hv rB
            obtain ⟨wy, hwy⟩ : ∃ z, z = u := ⟨_, rfl⟩
            subst hwy
            have HM2 : Hid (EBx wy (w.heap.size + 2) m) := H1.out.below HKu.out H1.out.lt
            have H02 : Hid (EBx wy (w.heap.size + 1) ent0) := H0.out.below HKu.out H0.out.lt
            have HC2 : Hid (Sto.CBx wy w.heap.size c) := HC.out.below HKu.out HC.out.lt
            have HB2 : Hid (Below w.heap.size w wy) := HB.out.trans (HKu.out.mono HB.out.size)
            have HATS : Hid (∀ j u, (entCells e)[j]? = some u → wy.cell? ⟨b, o + k * 20 + j, none⟩ = some u) := (HAT.out.below HKu.out hbw).c
            clear H1 H0 HB HKu HAT hbw HC
            go_wp2
            go_roundw
            case rel => exact ⟨⟨k + 1, by omega, by rw [hts.out], by go_num, HC2, H02, Lib.hid (by rw [hts.out]; exact HM2.out), HB2⟩⟩
            case measure => simp [intOf]; omega
          | true =>
            have HUN := Lib.hid hun
            cases f
            case false =>
              have hts : Hid (Sto.greatest key c false (es.take (k + 1)) = (e, true)) := by show _ = _; rw [hts.out, Sto.gStep, if_pos ⟨hkey, .inr hun, .inl rfl⟩]
              have HGT : Hid (decide (0 < gtE e m) = decide (0 < gtE e m)) := rfl
              clear hkey
              refine Reg.wp_region_rel (by kernel_rfl) 55 30 rfl rfl (by kernel_rfl) (Reg.Adds) (Reg.Adds.refl) (Reg.Adds.trans)
                (fun i v u => match i with
                  | 0 => v = .slice (some ⟨b, o, none⟩) es.length cc
                  | 1 => v = .int .i64 k
                  | 2 => v = .pointer (some ⟨b, o + k * 20, none⟩)
                  | 3 => v = .pointer (some ⟨b, o + k * 20 + 6, none⟩)
                  | 4 => v = .string e.key
                  | 5 => v = .string key
                  | 6 => v = .bool true
                  | 7 => v = .bool true
                  | 8 => v = .bool false
                  | 9 => v = .bool false
                  | 10 => v = .slice (some ⟨b, o, none⟩) es.length cc
                  | 11 => v = .int .i64 k
                  | 12 => v = .pointer (some ⟨b, o + k * 20, none⟩)
                  | 13 => v = .agg (entCells e).toArray
                  | 14 => v = Vec.C c
                  | 15 => v = .bool true
                  | 16 => v = .bool true
                  | 17 => v = .bool true
                  | 18 => v = .bool true
                  | 19 => v = .bool false
                  | 20 => v = .bool true
                  | 21 => v = .bool true
                  | 22 => v = undef
                  | 23 => v = undef
                  | 24 => v = undef
                  | 25 => v = undef
                  | 26 => v = undef
                  | 27 => v = undef
                  | 28 => v = .bool true
                  | 29 => v = .bool true
                  | _ => True) ?_ ?_
              · refine Reg.Steps.cons ?_ (Reg.Steps.cons ?_ (Reg.Steps.cons ?_ (Reg.Steps.cons ?_ (Reg.Steps.cons ?_ (Reg.Steps.cons ?_ (Reg.Steps.cons ?_ (Reg.Steps.cons ?_ (Reg.Steps.cons ?_ (Reg.Steps.cons ?_ (Reg.Steps.cons ?_ (Reg.Steps.cons ?_ (Reg.Steps.cons ?_ (Reg.Steps.cons ?_ (Reg.Steps.cons ?_ (Reg.Steps.cons ?_ (Reg.Steps.cons ?_ (Reg.Steps.cons ?_ (Reg.Steps.cons ?_ (Reg.Steps.cons ?_ (Reg.Steps.cons ?_ (Reg.Steps.cons ?_ (Reg.Steps.cons ?_ (Reg.Steps.cons ?_ (Reg.Steps.cons ?_ (Reg.Steps.cons ?_ (Reg.Steps.cons ?_ (Reg.Steps.cons ?_ (Reg.Steps.cons ?_ (Reg.Steps.cons ?_ (Reg.Steps.nil _))))))))))))))))))))))))))))))
                · intro val ac u hR hp ha K hK
                  have e0 : (ac.tmps[0]?).getD undef = .slice (some ⟨b, o, none⟩) es.length cc := ha 0 (by decide); clear ha hp
                  refine Reg.Op1.plain rfl ?_
                  go_wp2
                  exact ⟨rfl, hK _ _ rfl (fun j k _ _ => Reg.Adds.refl _ _ _)⟩
                · intro val ac u hR hp ha K hK
                  have e12 : (ac.tmps[12]?).getD undef = .int .i64 k := ha 12 (by decide); clear ha hp
                  refine Reg.Op1.plain rfl ?_
                  go_wp2
                  exact ⟨rfl, hK _ _ rfl (fun j k _ _ => Reg.Adds.refl _ _ _)⟩
                · intro val ac u hR hp ha K hK
                  obtain ⟨w19, h19, r19⟩ := hp 0 (by decide); have e19 : (ac.tmps[19]?).getD undef = .slice (some ⟨b, o, none⟩) es.length cc := (ha 19 (by decide)).trans h19; obtain ⟨w20, h20, r20⟩ := hp 1 (by decide); have e20 : (ac.tmps[20]?).getD undef = .int .i64 k := (ha 20 (by decide)).trans h20; clear h19 h20 ha hp
                  refine Reg.Op1.plain rfl ?_
                  go_wp2
                  exact ⟨rfl, hK _ _ rfl (fun j k _ _ => Reg.Adds.refl _ _ _)⟩
                · intro val ac u hR hp ha K hK
                  obtain ⟨w21, h21, r21⟩ := hp 2 (by decide); have e21 : (ac.tmps[21]?).getD undef = .pointer (some ⟨b, o + k * 20, none⟩) := (ha 21 (by decide)).trans h21; clear h21 ha hp
                  refine Reg.Op1.plain rfl ?_
                  go_wp2
                  exact ⟨rfl, hK _ _ rfl (fun j k _ _ => Reg.Adds.refl _ _ _)⟩
                · intro val ac u hR hp ha K hK
                  obtain ⟨w22, h22, r22⟩ := hp 3 (by decide); have e22 : (ac.tmps[22]?).getD undef = .pointer (some ⟨b, o + k * 20 + 6, none⟩) := (ha 22 (by decide)).trans h22; clear h22 ha hp
                  refine Reg.Op1.plain rfl ?_
                  have x6 := (hR.cell (p := ⟨b, o + k * 20 + 6, none⟩) hbw).trans (HAT.out.c 6 _ rfl)
                  go_wp2
                  exact ⟨rfl, hK _ _ rfl (fun j k _ _ => Reg.Adds.refl _ _ _)⟩
                · intro val ac u hR hp ha K hK
                  have e1 : (ac.tmps[1]?).getD undef = .string key := ha 1 (by decide); clear ha hp
                  refine Reg.Op1.plain rfl ?_
                  go_wp2
                  exact ⟨rfl, hK _ _ rfl (fun j k _ _ => Reg.Adds.refl _ _ _)⟩
                · intro val ac u hR hp ha K hK
                  obtain ⟨w23, h23, r23⟩ := hp 4 (by decide); have e23 : (ac.tmps[23]?).getD undef = .string e.key := (ha 23 (by decide)).trans h23; obtain ⟨w24, h24, r24⟩ := hp 5 (by decide); have e24 : (ac.tmps[24]?).getD undef = .string key := (ha 24 (by decide)).trans h24; clear h23 h24 ha hp
                  have hkd := HKD.out
                  refine Reg.Op1.plain rfl ?_
                  go_wp2
                  exact ⟨rfl, hK _ _ rfl (fun j k _ _ => Reg.Adds.refl _ _ _)⟩
                · intro val ac u hR hp ha K hK
                  obtain ⟨w25, h25, r25⟩ := hp 6 (by decide); have e25 : (ac.tmps[25]?).getD undef = .bool true := (ha 25 (by decide)).trans h25; clear h25 ha hp
                  refine Reg.Op1.plain rfl ?_
                  go_wp2
                  exact ⟨rfl, hK _ _ rfl (fun j k _ _ => Reg.Adds.refl _ _ _)⟩
                · intro val ac u hR hp ha K hK
                  have e3 : (ac.tmps[3]?).getD undef = .bool false := ha 3 (by decide); obtain ⟨w26, h26, r26⟩ := hp 7 (by decide); have e26 : (ac.tmps[26]?).getD undef = .bool true := (ha 26 (by decide)).trans h26; clear h26 ha hp
                  refine Reg.Op1.guarded rfl rfl e26 (fun _ => Reg.Op1.plain rfl ?_) (fun h => absurd rfl h)
                  go_wp2
                  exact ⟨rfl, hK _ _ rfl (fun j k _ _ => Reg.Adds.refl _ _ _)⟩
                · intro val ac u hR hp ha K hK
                  obtain ⟨w27, h27, r27⟩ := hp 8 (by decide); have e27 : (ac.tmps[27]?).getD undef = .bool false := (ha 27 (by decide)).trans h27; obtain ⟨w26, h26, r26⟩ := hp 7 (by decide); have e26 : (ac.tmps[26]?).getD undef = .bool true := (ha 26 (by decide)).trans h26; clear h27 h26 ha hp
                  refine Reg.Op1.guarded rfl rfl e26 (fun _ => Reg.Op1.plain rfl ?_) (fun h => absurd rfl h)
                  go_wp2
                  exact ⟨rfl, hK _ _ rfl (fun j k _ _ => Reg.Adds.refl _ _ _)⟩
                · intro val ac u hR hp ha K hK
                  have e0 : (ac.tmps[0]?).getD undef = .slice (some ⟨b, o, none⟩) es.length cc := ha 0 (by decide); obtain ⟨w28, h28, r28⟩ := hp 9 (by decide); have e28 : (ac.tmps[28]?).getD undef = .bool false := (ha 28 (by decide)).trans h28; clear h28 ha hp
                  refine Reg.Op1.guarded rfl rfl e28 (fun _ => Reg.Op1.plain rfl ?_) (fun h => absurd rfl h)
                  go_wp2
                  exact ⟨rfl, hK _ _ rfl (fun j k _ _ => Reg.Adds.refl _ _ _)⟩
                · intro val ac u hR hp ha K hK
                  have e12 : (ac.tmps[12]?).getD undef = .int .i64 k := ha 12 (by decide); obtain ⟨w28, h28, r28⟩ := hp 9 (by decide); have e28 : (ac.tmps[28]?).getD undef = .bool false := (ha 28 (by decide)).trans h28; clear h28 ha hp
                  refine Reg.Op1.guarded rfl rfl e28 (fun _ => Reg.Op1.plain rfl ?_) (fun h => absurd rfl h)
                  go_wp2
                  exact ⟨rfl, hK _ _ rfl (fun j k _ _ => Reg.Adds.refl _ _ _)⟩
                · intro val ac u hR hp ha K hK
                  obtain ⟨w29, h29, r29⟩ := hp 10 (by decide); have e29 : (ac.tmps[29]?).getD undef = .slice (some ⟨b, o, none⟩) es.length cc := (ha 29 (by decide)).trans h29; obtain ⟨w30, h30, r30⟩ := hp 11 (by decide); have e30 : (ac.tmps[30]?).getD undef = .int .i64 k := (ha 30 (by decide)).trans h30; obtain ⟨w28, h28, r28⟩ := hp 9 (by decide); have e28 : (ac.tmps[28]?).getD undef = .bool false := (ha 28 (by decide)).trans h28; clear h29 h30 h28 ha hp
                  refine Reg.Op1.guarded rfl rfl e28 (fun _ => Reg.Op1.plain rfl ?_) (fun h => absurd rfl h)
                  go_wp2
                  exact ⟨rfl, hK _ _ rfl (fun j k _ _ => Reg.Adds.refl _ _ _)⟩
                · intro val ac u hR hp ha K hK
                  obtain ⟨w31, h31, r31⟩ := hp 12 (by decide); have e31 : (ac.tmps[31]?).getD undef = .pointer (some ⟨b, o + k * 20, none⟩) := (ha 31 (by decide)).trans h31; obtain ⟨w28, h28, r28⟩ := hp 9 (by decide); have e28 : (ac.tmps[28]?).getD undef = .bool false := (ha 28 (by decide)).trans h28; clear h31 h28 ha hp
                  refine Reg.Op1.guarded rfl rfl e28 (fun _ => Reg.Op1.plain rfl ?_) (fun h => absurd rfl h)
                  refine Mem.load_aggG _ _ entry_agg b (o + k * 20) (entCells e) (by simp [Region.wanted]) (Reg.eval_of e31) (entCells_length _) (fun q u' hu => (hR.cell (p := ⟨b, o + k * 20 + q, none⟩) hbw).trans (HAT.out.c q u' hu)) ?_
                  exact ⟨rfl, hK _ _ rfl (fun j k _ _ => Reg.Adds.refl _ _ _)⟩
                · intro val ac u hR hp ha K hK
                  have e6 : (ac.tmps[6]?).getD undef = .pointer (some ⟨w.heap.size, 0, none⟩) := ha 6 (by decide); obtain ⟨w28, h28, r28⟩ := hp 9 (by decide); have e28 : (ac.tmps[28]?).getD undef = .bool false := (ha 28 (by decide)).trans h28; clear h28 ha hp
                  refine Reg.Op1.guarded rfl rfl e28 (fun _ => Reg.Op1.plain rfl ?_) (fun h => absurd rfl h)
                  have hCu : Sto.CBx u w.heap.size c := Mem.Bx.below (w := wr.drew) HC.out hR HC.out.lt
                  refine Mem.load_aggG _ _ col_agg w.heap.size 0 (colCells c) (by simp [Region.wanted]) (Reg.eval_of e6) (Sto.colCells_length _) (fun j u' hu => by rw [Nat.zero_add]; exact hCu.cell hu) ?_
                  exact ⟨rfl, hK _ _ rfl (fun j k _ _ => Reg.Adds.refl _ _ _)⟩
                · intro val ac u hR hp ha K hK
                  obtain ⟨w32, h32, r32⟩ := hp 13 (by decide); have e32 : (ac.tmps[32]?).getD undef = .agg (entCells e).toArray := (ha 32 (by decide)).trans h32; obtain ⟨w33, h33, r33⟩ := hp 14 (by decide); have e33 : (ac.tmps[33]?).getD undef = Vec.C c := (ha 33 (by decide)).trans h33; obtain ⟨w28, h28, r28⟩ := hp 9 (by decide); have e28 : (ac.tmps[28]?).getD undef = .bool false := (ha 28 (by decide)).trans h28; clear h32 h33 h28 ha hp
                  refine Reg.Op1.guarded rfl rfl e28 (fun _ => Reg.Op1.plain rfl ?_) (fun h => absurd rfl h)
                  go_wp2_with fail
                  refine (refUnder_any c e u HDC.out).mono ?_
                  rintro x w' ⟨rfl, hbw⟩
                  rw [HUN.out]
                  go_wp2_with fail
                  exact ⟨rfl, hK _ _ rfl (fun j k _ _ => hbw)⟩
                · intro val ac u hR hp ha K hK
                  obtain ⟨w28, h28, r28⟩ := hp 9 (by decide); have e28 : (ac.tmps[28]?).getD undef = .bool false := (ha 28 (by decide)).trans h28; obtain ⟨w34, h34, r34⟩ := hp 15 (by decide); have e34 : (ac.tmps[34]?).getD undef = .bool true := (ha 34 (by decide)).trans h34; obtain ⟨w26, h26, r26⟩ := hp 7 (by decide); have e26 : (ac.tmps[26]?).getD undef = .bool true := (ha 26 (by decide)).trans h26; clear h28 h34 h26 ha hp
                  refine Reg.Op1.guarded rfl rfl e26 (fun _ => Reg.Op1.plain rfl ?_) (fun h => absurd rfl h)
                  go_wp2
                  exact ⟨rfl, hK _ _ rfl (fun j k _ _ => Reg.Adds.refl _ _ _)⟩
                · intro val ac u hR hp ha K hK
                  obtain ⟨w26, h26, r26⟩ := hp 7 (by decide); have e26 : (ac.tmps[26]?).getD undef = .bool true := (ha 26 (by decide)).trans h26; obtain ⟨w35, h35, r35⟩ := hp 16 (by decide); have e35 : (ac.tmps[35]?).getD undef = .bool true := (ha 35 (by decide)).trans h35; clear h26 h35 ha hp
                  refine Reg.Op1.plain rfl ?_
                  go_wp2
                  exact ⟨rfl, hK _ _ rfl (fun j k _ _ => Reg.Adds.refl _ _ _)⟩
                · intro val ac u hR hp ha K hK
                  obtain ⟨w36, h36, r36⟩ := hp 17 (by decide); have e36 : (ac.tmps[36]?).getD undef = .bool true := (ha 36 (by decide)).trans h36; clear h36 ha hp
                  refine Reg.Op1.plain rfl ?_
                  go_wp2
                  exact ⟨rfl, hK _ _ rfl (fun j k _ _ => Reg.Adds.refl _ _ _)⟩
                · intro val ac u hR hp ha K hK
                  have e11 : (ac.tmps[11]?).getD undef = .bool false := ha 11 (by decide); obtain ⟨w37, h37, r37⟩ := hp 18 (by decide); have e37 : (ac.tmps[37]?).getD undef = .bool true := (ha 37 (by decide)).trans h37; clear h37 ha hp
                  refine Reg.Op1.guarded rfl rfl e37 (fun _ => Reg.Op1.plain rfl ?_) (fun h => absurd rfl h)
                  go_wp2
                  exact ⟨rfl, hK _ _ rfl (fun j k _ _ => Reg.Adds.refl _ _ _)⟩
                · intro val ac u hR hp ha K hK
                  obtain ⟨w38, h38, r38⟩ := hp 19 (by decide); have e38 : (ac.tmps[38]?).getD undef = .bool false := (ha 38 (by decide)).trans h38; obtain ⟨w37, h37, r37⟩ := hp 18 (by decide); have e37 : (ac.tmps[37]?).getD undef = .bool true := (ha 37 (by decide)).trans h37; clear h38 h37 ha hp
                  refine Reg.Op1.guarded rfl rfl e37 (fun _ => Reg.Op1.plain rfl ?_) (fun h => absurd rfl h)
                  go_wp2
                  exact ⟨rfl, hK _ _ rfl (fun j k _ _ => Reg.Adds.refl _ _ _)⟩
                · intro val ac u hR hp ha K hK
                  obtain ⟨w39, h39, r39⟩ := hp 20 (by decide); have e39 : (ac.tmps[39]?).getD undef = .bool true := (ha 39 (by decide)).trans h39; obtain ⟨w37, h37, r37⟩ := hp 18 (by decide); have e37 : (ac.tmps[37]?).getD undef = .bool true := (ha 37 (by decide)).trans h37; clear h39 h37 ha hp
                  refine Reg.Op1.guarded rfl rfl e37 (fun _ => Reg.Op1.plain rfl ?_) (fun h => absurd rfl h)
                  go_wp2
                  exact ⟨rfl, hK _ _ rfl (fun j k _ _ => Reg.Adds.refl _ _ _)⟩
                · intro val ac u hR hp ha K hK; obtain ⟨_, h, _⟩ := hp 21 (by decide); exact Reg.Op1.guarded rfl rfl ((ha 40 (by decide)).trans h) (fun h => by cases h) (fun _ => hK _ _ rfl (fun j k _ _ => Reg.Adds.refl _ _ _))
                · intro val ac u hR hp ha K hK; obtain ⟨_, h, _⟩ := hp 21 (by decide); exact Reg.Op1.guarded rfl rfl ((ha 40 (by decide)).trans h) (fun h => by cases h) (fun _ => hK _ _ rfl (fun j k _ _ => Reg.Adds.refl _ _ _))
                · intro val ac u hR hp ha K hK; obtain ⟨_, h, _⟩ := hp 21 (by decide); exact Reg.Op1.guarded rfl rfl ((ha 40 (by decide)).trans h) (fun h => by cases h) (fun _ => hK _ _ rfl (fun j k _ _ => Reg.Adds.refl _ _ _))
                · intro val ac u hR hp ha K hK; obtain ⟨_, h, _⟩ := hp 21 (by decide); exact Reg.Op1.guarded rfl rfl ((ha 40 (by decide)).trans h) (fun h => by cases h) (fun _ => hK _ _ rfl (fun j k _ _ => Reg.Adds.refl _ _ _))
                · intro val ac u hR hp ha K hK; obtain ⟨_, h, _⟩ := hp 21 (by decide); exact Reg.Op1.guarded rfl rfl ((ha 40 (by decide)).trans h) (fun h => by cases h) (fun _ => hK _ _ rfl (fun j k _ _ => Reg.Adds.refl _ _ _))
                · intro val ac u hR hp ha K hK; obtain ⟨_, h, _⟩ := hp 21 (by decide); exact Reg.Op1.guarded rfl rfl ((ha 40 (by decide)).trans h) (fun h => by cases h) (fun _ => hK _ _ rfl (fun j k _ _ => Reg.Adds.refl _ _ _))
                · intro val ac u hR hp ha K hK
                  obtain ⟨w40, h40, r40⟩ := hp 21 (by decide); have e40 : (ac.tmps[40]?).getD undef = .bool true := (ha 40 (by decide)).trans h40; obtain ⟨w46, h46, r46⟩ := hp 27 (by decide); have e46 : (ac.tmps[46]?).getD undef = undef := (ha 46 (by decide)).trans h46; obtain ⟨w37, h37, r37⟩ := hp 18 (by decide); have e37 : (ac.tmps[37]?).getD undef = .bool true := (ha 37 (by decide)).trans h37; clear h40 h46 h37 ha hp
                  refine Reg.Op1.guarded rfl rfl e37 (fun _ => Reg.Op1.plain rfl ?_) (fun h => absurd rfl h)
                  go_wp2
                  exact ⟨rfl, hK _ _ rfl (fun j k _ _ => Reg.Adds.refl _ _ _)⟩
                · intro val ac u hR hp ha K hK
                  obtain ⟨w37, h37, r37⟩ := hp 18 (by decide); have e37 : (ac.tmps[37]?).getD undef = .bool true := (ha 37 (by decide)).trans h37; obtain ⟨w47, h47, r47⟩ := hp 28 (by decide); have e47 : (ac.tmps[47]?).getD undef = .bool true := (ha 47 (by decide)).trans h47; clear h37 h47 ha hp
                  refine Reg.Op1.plain rfl ?_
                  go_wp2
                  exact ⟨rfl, hK _ _ rfl (fun j k _ _ => Reg.Adds.refl _ _ _)⟩
              intro val u hR H
              obtain ⟨wB, hv, rB⟩ := H 29 (by decide)
              have hv : val 29 = .bool true := hv
              have HKu : Hid (Below wr.heap.size wr u) := (Below.refl _ wr).drew.trans hR
              simp only [List.map_cons, List.map_nil, Reg.lay, Act.put, List.setIfInBounds_toArray, List.set_cons_succ, List.set_cons_zero, Nat.reduceAdd, hv]
              clear hR H hv rB
              obtain ⟨wy, hwy⟩ : ∃ z, z = u := ⟨_, rfl⟩
              subst hwy
              have HM2 : Hid (EBx wy (w.heap.size + 2) m) := H1.out.below HKu.out H1.out.lt
              have H02 : Hid (EBx wy (w.heap.size + 1) ent0) := H0.out.below HKu.out H0.out.lt
              have HC2 : Hid (Sto.CBx wy w.heap.size c) := HC.out.below HKu.out HC.out.lt
              have HB2 : Hid (Below w.heap.size w wy) := HB.out.trans (HKu.out.mono HB.out.size)
              have HATS : Hid (∀ j u, (entCells e)[j]? = some u → wy.cell? ⟨b, o + k * 20 + j, none⟩ = some u) := (HAT.out.below HKu.out hbw).c
              clear H1 H0 HB HKu HAT hbw HC
              go_wp2_with (first | ((with_reducible refine Mem.load_agg _ _ entry_agg b (o + k * 20) (entCells e) ?hx (entCells_length e) HATS.out ?_); (case hx => exact rfl)) | ((with_reducible refine Mem.store_agg _ _ entry_agg (w.heap.size + 2) (entCells m) (entCells e) ?hxs ?hys HM2.out (entCells_length e) (ent_one e) ?_); ((case hxs => exact rfl); (case hys => exact rfl); intro w3 hb3 hk3 hs3)))
              go_roundw
              case rel => exact ⟨⟨k + 1, by omega, by rw [hts.out], by go_num, Lib.hid (HC2.out.keeps hk3 (by omega)), Lib.hid (H02.out.keeps hk3 (by omega)), Lib.hid (by rw [hts.out]; exact hb3), Lib.hid (HB2.out.trans (hk3.below (fun k h => by omega) HB2.out.size))⟩⟩
              case measure => simp [intOf]; omega
            case true =>
              cases hg : decide (0 < gtE e m)
              · have hts : Hid (Sto.greatest key c false (es.take (k + 1)) = (m, true)) := by
                  show _ = _
                  rw [hts.out, Sto.gStep, if_neg]
                  rintro ⟨_, _, h | h⟩
                  · cases h
                  · exact of_decide_eq_false hg h
                have HGT := Lib.hid hg
                clear hkey hg
                refine Reg.wp_region_rel (by kernel_rfl) 55 30 rfl rfl (by kernel_rfl) (Reg.Adds) (Reg.Adds.refl) (Reg.Adds.trans)
                  (fun i v u => match i with
                    | 0 => v = .slice (some ⟨b, o, none⟩) es.length cc
                    | 1 => v = .int .i64 k
                    | 2 => v = .pointer (some ⟨b, o + k * 20, none⟩)
                    | 3 => v = .pointer (some ⟨b, o + k * 20 + 6, none⟩)
                    | 4 => v = .string e.key
                    | 5 => v = .string key
                    | 6 => v = .bool true
                    | 7 => v = .bool true
                    | 8 => v = .bool false
                    | 9 => v = .bool false
                    | 10 => v = .slice (some ⟨b, o, none⟩) es.length cc
                    | 11 => v = .int .i64 k
                    | 12 => v = .pointer (some ⟨b, o + k * 20, none⟩)
                    | 13 => v = .agg (entCells e).toArray
                    | 14 => v = Vec.C c
                    | 15 => v = .bool true
                    | 16 => v = .bool true
                    | 17 => v = .bool true
                    | 18 => v = .bool true
                    | 19 => v = .bool true
                    | 20 => v = .bool false
                    | 21 => v = .bool false
                    | 22 => v = .slice (some ⟨b, o, none⟩) es.length cc
                    | 23 => v = .int .i64 k
                    | 24 => v = .pointer (some ⟨b, o + k * 20, none⟩)
                    | 25 => v = .agg (entCells e).toArray
                    | 26 => v = .agg (entCells m).toArray
                    | 27 => v = .bool false
                    | 28 => v = .bool false
                    | 29 => v = .bool false
                    | _ => True) ?_ ?_
                · refine Reg.Steps.cons ?_ (Reg.Steps.cons ?_ (Reg.Steps.cons ?_ (Reg.Steps.cons ?_ (Reg.Steps.cons ?_ (Reg.Steps.cons ?_ (Reg.Steps.cons ?_ (Reg.Steps.cons ?_ (Reg.Steps.cons ?_ (Reg.Steps.cons ?_ (Reg.Steps.cons ?_ (Reg.Steps.cons ?_ (Reg.Steps.cons ?_ (Reg.Steps.cons ?_ (Reg.Steps.cons ?_ (Reg.Steps.cons ?_ (Reg.Steps.cons ?_ (Reg.Steps.cons ?_ (Reg.Steps.cons ?_ (Reg.Steps.cons ?_ (Reg.Steps.cons ?_ (Reg.Steps.cons ?_ (Reg.Steps.cons ?_ (Reg.Steps.cons ?_ (Reg.Steps.cons ?_ (Reg.Steps.cons ?_ (Reg.Steps.cons ?_ (Reg.Steps.cons ?_ (Reg.Steps.cons ?_ (Reg.Steps.cons ?_ (Reg.Steps.nil _))))))))))))))))))))))))))))))
                  · intro val ac u hR hp ha K hK
                    have e0 : (ac.tmps[0]?).getD undef = .slice (some ⟨b, o, none⟩) es.length cc := ha 0 (by decide); clear ha hp
                    refine Reg.Op1.plain rfl ?_
                    go_wp2
                    exact ⟨rfl, hK _ _ rfl (fun j k _ _ => Reg.Adds.refl _ _ _)⟩
                  · intro val ac u hR hp ha K hK
                    have e12 : (ac.tmps[12]?).getD undef = .int .i64 k := ha 12 (by decide); clear ha hp
                    refine Reg.Op1.plain rfl ?_
                    go_wp2
                    exact ⟨rfl, hK _ _ rfl (fun j k _ _ => Reg.Adds.refl _ _ _)⟩
                  · intro val ac u hR hp ha K hK
                    obtain ⟨w19, h19, r19⟩ := hp 0 (by decide); have e19 : (ac.tmps[19]?).getD undef = .slice (some ⟨b, o, none⟩) es.length cc := (ha 19 (by decide)).trans h19; obtain ⟨w20, h20, r20⟩ := hp 1 (by decide); have e20 : (ac.tmps[20]?).getD undef = .int .i64 k := (ha 20 (by decide)).trans h20; clear h19 h20 ha hp
                    refine Reg.Op1.plain rfl ?_
                    go_wp2
                    exact ⟨rfl, hK _ _ rfl (fun j k _ _ => Reg.Adds.refl _ _ _)⟩
                  · intro val ac u hR hp ha K hK
                    obtain ⟨w21, h21, r21⟩ := hp 2 (by decide); have e21 : (ac.tmps[21]?).getD undef = .pointer (some ⟨b, o + k * 20, none⟩) := (ha 21 (by decide)).trans h21; clear h21 ha hp
                    refine Reg.Op1.plain rfl ?_
                    go_wp2
                    exact ⟨rfl, hK _ _ rfl (fun j k _ _ => Reg.Adds.refl _ _ _)⟩
                  · intro val ac u hR hp ha K hK
                    obtain ⟨w22, h22, r22⟩ := hp 3 (by decide); have e22 : (ac.tmps[22]?).getD undef = .pointer (some ⟨b, o + k * 20 + 6, none⟩) := (ha 22 (by decide)).trans h22; clear h22 ha hp
                    refine Reg.Op1.plain rfl ?_
                    have x6 := (hR.cell (p := ⟨b, o + k * 20 + 6, none⟩) hbw).trans (HAT.out.c 6 _ rfl)
                    go_wp2
                    exact ⟨rfl, hK _ _ rfl (fun j k _ _ => Reg.Adds.refl _ _ _)⟩
                  · intro val ac u hR hp ha K hK
                    have e1 : (ac.tmps[1]?).getD undef = .string key := ha 1 (by decide); clear ha hp
                    refine Reg.Op1.plain rfl ?_
                    go_wp2
                    exact ⟨rfl, hK _ _ rfl (fun j k _ _ => Reg.Adds.refl _ _ _)⟩
                  · intro val ac u hR hp ha K hK
                    obtain ⟨w23, h23, r23⟩ := hp 4 (by decide); have e23 : (ac.tmps[23]?).getD undef = .string e.key := (ha 23 (by decide)).trans h23; obtain ⟨w24, h24, r24⟩ := hp 5 (by decide); have e24 : (ac.tmps[24]?).getD undef = .string key := (ha 24 (by decide)).trans h24; clear h23 h24 ha hp
                    have hkd := HKD.out
                    refine Reg.Op1.plain rfl ?_
                    go_wp2
                    exact ⟨rfl, hK _ _ rfl (fun j k _ _ => Reg.Adds.refl _ _ _)⟩
                  · intro val ac u hR hp ha K hK
                    obtain ⟨w25, h25, r25⟩ := hp 6 (by decide); have e25 : (ac.tmps[25]?).getD undef = .bool true := (ha 25 (by decide)).trans h25; clear h25 ha hp
                    refine Reg.Op1.plain rfl ?_
                    go_wp2
                    exact ⟨rfl, hK _ _ rfl (fun j k _ _ => Reg.Adds.refl _ _ _)⟩
                  · intro val ac u hR hp ha K hK
                    have e3 : (ac.tmps[3]?).getD undef = .bool false := ha 3 (by decide); obtain ⟨w26, h26, r26⟩ := hp 7 (by decide); have e26 : (ac.tmps[26]?).getD undef = .bool true := (ha 26 (by decide)).trans h26; clear h26 ha hp
                    refine Reg.Op1.guarded rfl rfl e26 (fun _ => Reg.Op1.plain rfl ?_) (fun h => absurd rfl h)
                    go_wp2
                    exact ⟨rfl, hK _ _ rfl (fun j k _ _ => Reg.Adds.refl _ _ _)⟩
                  · intro val ac u hR hp ha K hK
                    obtain ⟨w27, h27, r27⟩ := hp 8 (by decide); have e27 : (ac.tmps[27]?).getD undef = .bool false := (ha 27 (by decide)).trans h27; obtain ⟨w26, h26, r26⟩ := hp 7 (by decide); have e26 : (ac.tmps[26]?).getD undef = .bool true := (ha 26 (by decide)).trans h26; clear h27 h26 ha hp
                    refine Reg.Op1.guarded rfl rfl e26 (fun _ => Reg.Op1.plain rfl ?_) (fun h => absurd rfl h)
                    go_wp2
                    exact ⟨rfl, hK _ _ rfl (fun j k _ _ => Reg.Adds.refl _ _ _)⟩
                  · intro val ac u hR hp ha K hK
                    have e0 : (ac.tmps[0]?).getD undef = .slice (some ⟨b, o, none⟩) es.length cc := ha 0 (by decide); obtain ⟨w28, h28, r28⟩ := hp 9 (by decide); have e28 : (ac.tmps[28]?).getD undef = .bool false := (ha 28 (by decide)).trans h28; clear h28 ha hp
                    refine Reg.Op1.guarded rfl rfl e28 (fun _ => Reg.Op1.plain rfl ?_) (fun h => absurd rfl h)
                    go_wp2
                    exact ⟨rfl, hK _ _ rfl (fun j k _ _ => Reg.Adds.refl _ _ _)⟩
                  · intro val ac u hR hp ha K hK
                    have e12 : (ac.tmps[12]?).getD undef = .int .i64 k := ha 12 (by decide); obtain ⟨w28, h28, r28⟩ := hp 9 (by decide); have e28 : (ac.tmps[28]?).getD undef = .bool false := (ha 28 (by decide)).trans h28; clear h28 ha hp
                    refine Reg.Op1.guarded rfl rfl e28 (fun _ => Reg.Op1.plain rfl ?_) (fun h => absurd rfl h)
                    go_wp2
                    exact ⟨rfl, hK _ _ rfl (fun j k _ _ => Reg.Adds.refl _ _ _)⟩
                  · intro val ac u hR hp ha K hK
                    obtain ⟨w29, h29, r29⟩ := hp 10 (by decide); have e29 : (ac.tmps[29]?).getD undef = .slice (some ⟨b, o, none⟩) es.length cc := (ha 29 (by decide)).trans h29; obtain ⟨w30, h30, r30⟩ := hp 11 (by decide); have e30 : (ac.tmps[30]?).getD undef = .int .i64 k := (ha 30 (by decide)).trans h30; obtain ⟨w28, h28, r28⟩ := hp 9 (by decide); have e28 : (ac.tmps[28]?).getD undef = .bool false := (ha 28 (by decide)).trans h28; clear h29 h30 h28 ha hp
                    refine Reg.Op1.guarded rfl rfl e28 (fun _ => Reg.Op1.plain rfl ?_) (fun h => absurd rfl h)
                    go_wp2
                    exact ⟨rfl, hK _ _ rfl (fun j k _ _ => Reg.Adds.refl _ _ _)⟩
                  · intro val ac u hR hp ha K hK
                    obtain ⟨w31, h31, r31⟩ := hp 12 (by decide); have e31 : (ac.tmps[31]?).getD undef = .pointer (some ⟨b, o + k * 20, none⟩) := (ha 31 (by decide)).trans h31; obtain ⟨w28, h28, r28⟩ := hp 9 (by decide); have e28 : (ac.tmps[28]?).getD undef = .bool false := (ha 28 (by decide)).trans h28; clear h31 h28 ha hp
                    refine Reg.Op1.guarded rfl rfl e28 (fun _ => Reg.Op1.plain rfl ?_) (fun h => absurd rfl h)
                    refine Mem.load_aggG _ _ entry_agg b (o + k * 20) (entCells e) (by simp [Region.wanted]) (Reg.eval_of e31) (entCells_length _) (fun q u' hu => (hR.cell (p := ⟨b, o + k * 20 + q, none⟩) hbw).trans (HAT.out.c q u' hu)) ?_
                    exact ⟨rfl, hK _ _ rfl (fun j k _ _ => Reg.Adds.refl _ _ _)⟩
                  · intro val ac u hR hp ha K hK
                    have e6 : (ac.tmps[6]?).getD undef = .pointer (some ⟨w.heap.size, 0, none⟩) := ha 6 (by decide); obtain ⟨w28, h28, r28⟩ := hp 9 (by decide); have e28 : (ac.tmps[28]?).getD undef = .bool false := (ha 28 (by decide)).trans h28; clear h28 ha hp
                    refine Reg.Op1.guarded rfl rfl e28 (fun _ => Reg.Op1.plain rfl ?_) (fun h => absurd rfl h)
                    have hCu : Sto.CBx u w.heap.size c := Mem.Bx.below (w := wr.drew) HC.out hR HC.out.lt
                    refine Mem.load_aggG _ _ col_agg w.heap.size 0 (colCells c) (by simp [Region.wanted]) (Reg.eval_of e6) (Sto.colCells_length _) (fun j u' hu => by rw [Nat.zero_add]; exact hCu.cell hu) ?_
                    exact ⟨rfl, hK _ _ rfl (fun j k _ _ => Reg.Adds.refl _ _ _)⟩
                  · intro val ac u hR hp ha K hK
                    obtain ⟨w32, h32, r32⟩ := hp 13 (by decide); have e32 : (ac.tmps[32]?).getD undef = .agg (entCells e).toArray := (ha 32 (by decide)).trans h32; obtain ⟨w33, h33, r33⟩ := hp 14 (by decide); have e33 : (ac.tmps[33]?).getD undef = Vec.C c := (ha 33 (by decide)).trans h33; obtain ⟨w28, h28, r28⟩ := hp 9 (by decide); have e28 : (ac.tmps[28]?).getD undef = .bool false := (ha 28 (by decide)).trans h28; clear h32 h33 h28 ha hp
                    refine Reg.Op1.guarded rfl rfl e28 (fun _ => Reg.Op1.plain rfl ?_) (fun h => absurd rfl h)
                    go_wp2_with fail
                    refine (refUnder_any c e u HDC.out).mono ?_
                    rintro x w' ⟨rfl, hbw⟩
                    rw [HUN.out]
                    go_wp2_with fail
                    exact ⟨rfl, hK _ _ rfl (fun j k _ _ => hbw)⟩
                  · intro val ac u hR hp ha K hK
                    obtain ⟨w28, h28, r28⟩ := hp 9 (by decide); have e28 : (ac.tmps[28]?).getD undef = .bool false := (ha 28 (by decide)).trans h28; obtain ⟨w34, h34, r34⟩ := hp 15 (by decide); have e34 : (ac.tmps[34]?).getD undef = .bool true := (ha 34 (by decide)).trans h34; obtain ⟨w26, h26, r26⟩ := hp 7 (by decide); have e26 : (ac.tmps[26]?).getD undef = .bool true := (ha 26 (by decide)).trans h26; clear h28 h34 h26 ha hp
                    refine Reg.Op1.guarded rfl rfl e26 (fun _ => Reg.Op1.plain rfl ?_) (fun h => absurd rfl h)
                    go_wp2
                    exact ⟨rfl, hK _ _ rfl (fun j k _ _ => Reg.Adds.refl _ _ _)⟩
                  · intro val ac u hR hp ha K hK
                    obtain ⟨w26, h26, r26⟩ := hp 7 (by decide); have e26 : (ac.tmps[26]?).getD undef = .bool true := (ha 26 (by decide)).trans h26; obtain ⟨w35, h35, r35⟩ := hp 16 (by decide); have e35 : (ac.tmps[35]?).getD undef = .bool true := (ha 35 (by decide)).trans h35; clear h26 h35 ha hp
                    refine Reg.Op1.plain rfl ?_
                    go_wp2
                    exact ⟨rfl, hK _ _ rfl (fun j k _ _ => Reg.Adds.refl _ _ _)⟩
                  · intro val ac u hR hp ha K hK
                    obtain ⟨w36, h36, r36⟩ := hp 17 (by decide); have e36 : (ac.tmps[36]?).getD undef = .bool true := (ha 36 (by decide)).trans h36; clear h36 ha hp
                    refine Reg.Op1.plain rfl ?_
                    go_wp2
                    exact ⟨rfl, hK _ _ rfl (fun j k _ _ => Reg.Adds.refl _ _ _)⟩
                  · intro val ac u hR hp ha K hK
                    have e11 : (ac.tmps[11]?).getD undef = .bool true := ha 11 (by decide); obtain ⟨w37, h37, r37⟩ := hp 18 (by decide); have e37 : (ac.tmps[37]?).getD undef = .bool true := (ha 37 (by decide)).trans h37; clear h37 ha hp
                    refine Reg.Op1.guarded rfl rfl e37 (fun _ => Reg.Op1.plain rfl ?_) (fun h => absurd rfl h)
                    go_wp2
                    exact ⟨rfl, hK _ _ rfl (fun j k _ _ => Reg.Adds.refl _ _ _)⟩
                  · intro val ac u hR hp ha K hK
                    obtain ⟨w38, h38, r38⟩ := hp 19 (by decide); have e38 : (ac.tmps[38]?).getD undef = .bool true := (ha 38 (by decide)).trans h38; obtain ⟨w37, h37, r37⟩ := hp 18 (by decide); have e37 : (ac.tmps[37]?).getD undef = .bool true := (ha 37 (by decide)).trans h37; clear h38 h37 ha hp
                    refine Reg.Op1.guarded rfl rfl e37 (fun _ => Reg.Op1.plain rfl ?_) (fun h => absurd rfl h)
                    go_wp2
                    exact ⟨rfl, hK _ _ rfl (fun j k _ _ => Reg.Adds.refl _ _ _)⟩
                  · intro val ac u hR hp ha K hK
                    obtain ⟨w39, h39, r39⟩ := hp 20 (by decide); have e39 : (ac.tmps[39]?).getD undef = .bool false := (ha 39 (by decide)).trans h39; obtain ⟨w37, h37, r37⟩ := hp 18 (by decide); have e37 : (ac.tmps[37]?).getD undef = .bool true := (ha 37 (by decide)).trans h37; clear h39 h37 ha hp
                    refine Reg.Op1.guarded rfl rfl e37 (fun _ => Reg.Op1.plain rfl ?_) (fun h => absurd rfl h)
                    go_wp2
                    exact ⟨rfl, hK _ _ rfl (fun j k _ _ => Reg.Adds.refl _ _ _)⟩
                  · intro val ac u hR hp ha K hK
                    have e0 : (ac.tmps[0]?).getD undef = .slice (some ⟨b, o, none⟩) es.length cc := ha 0 (by decide); obtain ⟨w40, h40, r40⟩ := hp 21 (by decide); have e40 : (ac.tmps[40]?).getD undef = .bool false := (ha 40 (by decide)).trans h40; clear h40 ha hp
                    refine Reg.Op1.guarded rfl rfl e40 (fun _ => Reg.Op1.plain rfl ?_) (fun h => absurd rfl h)
                    go_wp2
                    exact ⟨rfl, hK _ _ rfl (fun j k _ _ => Reg.Adds.refl _ _ _)⟩
                  · intro val ac u hR hp ha K hK
                    have e12 : (ac.tmps[12]?).getD undef = .int .i64 k := ha 12 (by decide); obtain ⟨w40, h40, r40⟩ := hp 21 (by decide); have e40 : (ac.tmps[40]?).getD undef = .bool false := (ha 40 (by decide)).trans h40; clear h40 ha hp
                    refine Reg.Op1.guarded rfl rfl e40 (fun _ => Reg.Op1.plain rfl ?_) (fun h => absurd rfl h)
                    go_wp2
                    exact ⟨rfl, hK _ _ rfl (fun j k _ _ => Reg.Adds.refl _ _ _)⟩
                  · intro val ac u hR hp ha K hK
                    obtain ⟨w41, h41, r41⟩ := hp 22 (by decide); have e41 : (ac.tmps[41]?).getD undef = .slice (some ⟨b, o, none⟩) es.length cc := (ha 41 (by decide)).trans h41; obtain ⟨w42, h42, r42⟩ := hp 23 (by decide); have e42 : (ac.tmps[42]?).getD undef = .int .i64 k := (ha 42 (by decide)).trans h42; obtain ⟨w40, h40, r40⟩ := hp 21 (by decide); have e40 : (ac.tmps[40]?).getD undef = .bool false := (ha 40 (by decide)).trans h40; clear h41 h42 h40 ha hp
                    refine Reg.Op1.guarded rfl rfl e40 (fun _ => Reg.Op1.plain rfl ?_) (fun h => absurd rfl h)
                    go_wp2
                    exact ⟨rfl, hK _ _ rfl (fun j k _ _ => Reg.Adds.refl _ _ _)⟩
                  · intro val ac u hR hp ha K hK
                    obtain ⟨w43, h43, r43⟩ := hp 24 (by decide); have e43 : (ac.tmps[43]?).getD undef = .pointer (some ⟨b, o + k * 20, none⟩) := (ha 43 (by decide)).trans h43; obtain ⟨w40, h40, r40⟩ := hp 21 (by decide); have e40 : (ac.tmps[40]?).getD undef = .bool false := (ha 40 (by decide)).trans h40; clear h43 h40 ha hp
                    refine Reg.Op1.guarded rfl rfl e40 (fun _ => Reg.Op1.plain rfl ?_) (fun h => absurd rfl h)
                    refine Mem.load_aggG _ _ entry_agg b (o + k * 20) (entCells e) (by simp [Region.wanted]) (Reg.eval_of e43) (entCells_length _) (fun q u' hu => (hR.cell (p := ⟨b, o + k * 20 + q, none⟩) hbw).trans (HAT.out.c q u' hu)) ?_
                    exact ⟨rfl, hK _ _ rfl (fun j k _ _ => Reg.Adds.refl _ _ _)⟩
                  · intro val ac u hR hp ha K hK
                    have e10 : (ac.tmps[10]?).getD undef = .pointer (some ⟨w.heap.size + 2, 0, none⟩) := ha 10 (by decide); obtain ⟨w40, h40, r40⟩ := hp 21 (by decide); have e40 : (ac.tmps[40]?).getD undef = .bool false := (ha 40 (by decide)).trans h40; clear h40 ha hp
                    refine Reg.Op1.guarded rfl rfl e40 (fun _ => Reg.Op1.plain rfl ?_) (fun h => absurd rfl h)
                    have hMu : EBx u (w.heap.size + 2) m := Mem.Bx.below (w := wr.drew) H1.out hR H1.out.lt
                    refine Mem.load_aggG _ _ entry_agg (w.heap.size + 2) 0 (entCells m) (by simp [Region.wanted]) (Reg.eval_of e10) (entCells_length _) (fun j u' hu => by rw [Nat.zero_add]; exact hMu.cell hu) ?_
                    exact ⟨rfl, hK _ _ rfl (fun j k _ _ => Reg.Adds.refl _ _ _)⟩
                  · intro val ac u hR hp ha K hK
                    obtain ⟨w44, h44, r44⟩ := hp 25 (by decide); have e44 : (ac.tmps[44]?).getD undef = .agg (entCells e).toArray := (ha 44 (by decide)).trans h44; obtain ⟨w45, h45, r45⟩ := hp 26 (by decide); have e45 : (ac.tmps[45]?).getD undef = .agg (entCells m).toArray := (ha 45 (by decide)).trans h45; obtain ⟨w40, h40, r40⟩ := hp 21 (by decide); have e40 : (ac.tmps[40]?).getD undef = .bool false := (ha 40 (by decide)).trans h40; clear h44 h45 h40 ha hp
                    refine Reg.Op1.guarded rfl rfl e40 (fun _ => Reg.Op1.plain rfl ?_) (fun h => absurd rfl h)
                    go_wp2_with fail
                    refine (refGreater_any e m u).mono ?_
                    rintro x w' ⟨rfl, hbw⟩
                    rw [HGT.out]
                    go_wp2_with fail
                    exact ⟨rfl, hK _ _ rfl (fun j k _ _ => hbw)⟩
                  · intro val ac u hR hp ha K hK
                    obtain ⟨w40, h40, r40⟩ := hp 21 (by decide); have e40 : (ac.tmps[40]?).getD undef = .bool false := (ha 40 (by decide)).trans h40; obtain ⟨w46, h46, r46⟩ := hp 27 (by decide); have e46 : (ac.tmps[46]?).getD undef = .bool false := (ha 46 (by decide)).trans h46; obtain ⟨w37, h37, r37⟩ := hp 18 (by decide); have e37 : (ac.tmps[37]?).getD undef = .bool true := (ha 37 (by decide)).trans h37; clear h40 h46 h37 ha hp
                    refine Reg.Op1.guarded rfl rfl e37 (fun _ => Reg.Op1.plain rfl ?_) (fun h => absurd rfl h)
                    go_wp2
                    exact ⟨rfl, hK _ _ rfl (fun j k _ _ => Reg.Adds.refl _ _ _)⟩
                  · intro val ac u hR hp ha K hK
                    obtain ⟨w37, h37, r37⟩ := hp 18 (by decide); have e37 : (ac.tmps[37]?).getD undef = .bool true := (ha 37 (by decide)).trans h37; obtain ⟨w47, h47, r47⟩ := hp 28 (by decide); have e47 : (ac.tmps[47]?).getD undef = .bool false := (ha 47 (by decide)).trans h47; clear h37 h47 ha hp
                    refine Reg.Op1.plain rfl ?_
                    go_wp2
                    exact ⟨rfl, hK _ _ rfl (fun j k _ _ => Reg.Adds.refl _ _ _)⟩
                intro val u hR H
                obtain ⟨wB, hv, rB⟩ := H 29 (by decide)
                have hv : val 29 = .bool false := hv
                have HKu : Hid (Below wr.heap.size wr u) := (Below.refl _ wr).drew.trans hR
                simp only [List.map_cons, List.map_nil, Reg.lay, Act.put, List.setIfInBounds_toArray, List.set_cons_succ, List.set_cons_zero, Nat.reduceAdd, hv]
                clear hR H hv rB
                obtain ⟨wy, hwy⟩ : ∃ z, z = u := ⟨_, rfl⟩
                subst hwy
                have HM2 : Hid (EBx wy (w.heap.size + 2) m) := H1.out.below HKu.out H1.out.lt
                have H02 : Hid (EBx wy (w.heap.size + 1) ent0) := H0.out.below HKu.out H0.out.lt
                have HC2 : Hid (Sto.CBx wy w.heap.size c) := HC.out.below HKu.out HC.out.lt
                have HB2 : Hid (Below w.heap.size w wy) := HB.out.trans (HKu.out.mono HB.out.size)
                have HATS : Hid (∀ j u, (entCells e)[j]? = some u → wy.cell? ⟨b, o + k * 20 + j, none⟩ = some u) := (HAT.out.below HKu.out hbw).c
                clear H1 H0 HB HKu HAT hbw HC
                go_wp2
                go_roundw
                case rel => exact ⟨⟨k + 1, by omega, by rw [hts.out], by go_num, HC2, H02, Lib.hid (by rw [hts.out]; exact HM2.out), HB2⟩⟩
                case measure => simp [intOf]; omega
              · have hts : Hid (Sto.greatest key c false (es.take (k + 1)) = (e, true)) := by show _ = _; rw [hts.out, Sto.gStep, if_pos ⟨hkey, .inr hun, .inr (of_decide_eq_true hg)⟩]
                have HGT := Lib.hid hg
                clear hkey hg
                refine Reg.wp_region_rel (by kernel_rfl) 55 30 rfl rfl (by kernel_rfl) (Reg.Adds) (Reg.Adds.refl) (Reg.Adds.trans)
                  (fun i v u => match i with
                    | 0 => v = .slice (some ⟨b, o, none⟩) es.length cc
                    | 1 => v = .int .i64 k
                    | 2 => v = .pointer (some ⟨b, o + k * 20, none⟩)
                    | 3 => v = .pointer (some ⟨b, o + k * 20 + 6, none⟩)
                    | 4 => v = .string e.key
                    | 5 => v = .string key
                    | 6 => v = .bool true
                    | 7 => v = .bool true
                    | 8 => v = .bool false
                    | 9 => v = .bool false
                    | 10 => v = .slice (some ⟨b, o, none⟩) es.length cc
                    | 11 => v = .int .i64 k
                    | 12 => v = .pointer (some ⟨b, o + k * 20, none⟩)
                    | 13 => v = .agg (entCells e).toArray
                    | 14 => v = Vec.C c
                    | 15 => v = .bool true
                    | 16 => v = .bool true
                    | 17 => v = .bool true
                    | 18 => v = .bool true
                    | 19 => v = .bool true
                    | 20 => v = .bool false
                    | 21 => v = .bool false
                    | 22 => v = .slice (some ⟨b, o, none⟩) es.length cc
                    | 23 => v = .int .i64 k
                    | 24 => v = .pointer (some ⟨b, o + k * 20, none⟩)
                    | 25 => v = .agg (entCells e).toArray
                    | 26 => v = .agg (entCells m).toArray
                    | 27 => v = .bool true
                    | 28 => v = .bool true
                    | 29 => v = .bool true
                    | _ => True) ?_ ?_
                · refine Reg.Steps.cons ?_ (Reg.Steps.cons ?_ (Reg.Steps.cons ?_ (Reg.Steps.cons ?_ (Reg.Steps.cons ?_ (Reg.Steps.cons ?_ (Reg.Steps.cons ?_ (Reg.Steps.cons ?_ (Reg.Steps.cons ?_ (Reg.Steps.cons ?_ (Reg.Steps.cons ?_ (Reg.Steps.cons ?_ (Reg.Steps.cons ?_ (Reg.Steps.cons ?_ (Reg.Steps.cons ?_ (Reg.Steps.cons ?_ (Reg.Steps.cons ?_ (Reg.Steps.cons ?_ (Reg.Steps.cons ?_ (Reg.Steps.cons ?_ (Reg.Steps.cons ?_ (Reg.Steps.cons ?_ (Reg.Steps.cons ?_ (Reg.Steps.cons ?_ (Reg.Steps.cons ?_ (Reg.Steps.cons ?_ (Reg.Steps.cons ?_ (Reg.Steps.cons ?_ (Reg.Steps.cons ?_ (Reg.Steps.cons ?_ (Reg.Steps.nil _))))))))))))))))))))))))))))))
                  · intro val ac u hR hp ha K hK
                    have e0 : (ac.tmps[0]?).getD undef = .slice (some ⟨b, o, none⟩) es.length cc := ha 0 (by decide); clear ha hp
                    refine Reg.Op1.plain rfl ?_
                    go_wp2
                    exact ⟨rfl, hK _ _ rfl (fun j k _ _ => Reg.Adds.refl _ _ _)⟩
                  · intro val ac u hR hp ha K hK
                    have e12 : (ac.tmps[12]?).getD undef = .int .i64 k := ha 12 (by decide); clear ha hp
                    refine Reg.Op1.plain rfl ?_
                    go_wp2
                    exact ⟨rfl, hK _ _ rfl (fun j k _ _ => Reg.Adds.refl _ _ _)⟩
                  · intro val ac u hR hp ha K hK
                    obtain ⟨w19, h19, r19⟩ := hp 0 (by decide); have e19 : (ac.tmps[19]?).getD undef = .slice (some ⟨b, o, none⟩) es.length cc := (ha 19 (by decide)).trans h19; obtain ⟨w20, h20, r20⟩ := hp 1 (by decide); have e20 : (ac.tmps[20]?).getD undef = .int .i64 k := (ha 20 (by decide)).trans h20; clear h19 h20 ha hp
                    refine Reg.Op1.plain rfl ?_
                    go_wp2
                    exact ⟨rfl, hK _ _ rfl (fun j k _ _ => Reg.Adds.refl _ _ _)⟩
                  · intro val ac u hR hp ha K hK
                    obtain ⟨w21, h21, r21⟩ := hp 2 (by decide); have e21 : (ac.tmps[21]?).getD undef = .pointer (some ⟨b, o + k * 20, none⟩) := (ha 21 (by decide)).trans h21; clear h21 ha hp
                    refine Reg.Op1.plain rfl ?_
                    go_wp2
                    exact ⟨rfl, hK _ _ rfl (fun j k _ _ => Reg.Adds.refl _ _ _)⟩
                  · intro val ac u hR hp ha K hK
                    obtain ⟨w22, h22, r22⟩ := hp 3 (by decide); have e22 : (ac.tmps[22]?).getD undef = .pointer (some ⟨b, o + k * 20 + 6, none⟩) := (ha 22 (by decide)).trans h22; clear h22 ha hp
                    refine Reg.Op1.plain rfl ?_
                    have x6 := (hR.cell (p := ⟨b, o + k * 20 + 6, none⟩) hbw).trans (HAT.out.c 6 _ rfl)
                    go_wp2
                    exact ⟨rfl, hK _ _ rfl (fun j k _ _ => Reg.Adds.refl _ _ _)⟩
                  · intro val ac u hR hp ha K hK
                    have e1 : (ac.tmps[1]?).getD undef = .string key := ha 1 (by decide); clear ha hp
                    refine Reg.Op1.plain rfl ?_
                    go_wp2
                    exact ⟨rfl, hK _ _ rfl (fun j k _ _ => Reg.Adds.refl _ _ _)⟩
                  · intro val ac u hR hp ha K hK
                    obtain ⟨w23, h23, r23⟩ := hp 4 (by decide); have e23 : (ac.tmps[23]?).getD undef = .string e.key := (ha 23 (by decide)).trans h23; obtain ⟨w24, h24, r24⟩ := hp 5 (by decide); have e24 : (ac.tmps[24]?).getD undef = .string key := (ha 24 (by decide)).trans h24; clear h23 h24 ha hp
                    have hkd := HKD.out
                    refine Reg.Op1.plain rfl ?_
                    go_wp2
                    exact ⟨rfl, hK _ _ rfl (fun j k _ _ => Reg.Adds.refl _ _ _)⟩
                  · intro val ac u hR hp ha K hK
                    obtain ⟨w25, h25, r25⟩ := hp 6 (by decide); have e25 : (ac.tmps[25]?).getD undef = .bool true := (ha 25 (by decide)).trans h25; clear h25 ha hp
                    refine Reg.Op1.plain rfl ?_
                    go_wp2
                    exact ⟨rfl, hK _ _ rfl (fun j k _ _ => Reg.Adds.refl _ _ _)⟩
                  · intro val ac u hR hp ha K hK
                    have e3 : (ac.tmps[3]?).getD undef = .bool false := ha 3 (by decide); obtain ⟨w26, h26, r26⟩ := hp 7 (by decide); have e26 : (ac.tmps[26]?).getD undef = .bool true := (ha 26 (by decide)).trans h26; clear h26 ha hp
                    refine Reg.Op1.guarded rfl rfl e26 (fun _ => Reg.Op1.plain rfl ?_) (fun h => absurd rfl h)
                    go_wp2
                    exact ⟨rfl, hK _ _ rfl (fun j k _ _ => Reg.Adds.refl _ _ _)⟩
                  · intro val ac u hR hp ha K hK
                    obtain ⟨w27, h27, r27⟩ := hp 8 (by decide); have e27 : (ac.tmps[27]?).getD undef = .bool false := (ha 27 (by decide)).trans h27; obtain ⟨w26, h26, r26⟩ := hp 7 (by decide); have e26 : (ac.tmps[26]?).getD undef = .bool true := (ha 26 (by decide)).trans h26; clear h27 h26 ha hp
                    refine Reg.Op1.guarded rfl rfl e26 (fun _ => Reg.Op1.plain rfl ?_) (fun h => absurd rfl h)
                    go_wp2
                    exact ⟨rfl, hK _ _ rfl (fun j k _ _ => Reg.Adds.refl _ _ _)⟩
                  · intro val ac u hR hp ha K hK
                    have e0 : (ac.tmps[0]?).getD undef = .slice (some ⟨b, o, none⟩) es.length cc := ha 0 (by decide); obtain ⟨w28, h28, r28⟩ := hp 9 (by decide); have e28 : (ac.tmps[28]?).getD undef = .bool false := (ha 28 (by decide)).trans h28; clear h28 ha hp
                    refine Reg.Op1.guarded rfl rfl e28 (fun _ => Reg.Op1.plain rfl ?_) (fun h => absurd rfl h)
                    go_wp2
                    exact ⟨rfl, hK _ _ rfl (fun j k _ _ => Reg.Adds.refl _ _ _)⟩
                  · intro val ac u hR hp ha K hK
                    have e12 : (ac.tmps[12]?).getD undef = .int .i64 k := ha 12 (by decide); obtain ⟨w28, h28, r28⟩ := hp 9 (by decide); have e28 : (ac.tmps[28]?).getD undef = .bool false := (ha 28 (by decide)).trans h28; clear h28 ha hp
                    refine Reg.Op1.guarded rfl rfl e28 (fun _ => Reg.Op1.plain rfl ?_) (fun h => absurd rfl h)
                    go_wp2
                    exact ⟨rfl, hK _ _ rfl (fun j k _ _ => Reg.Adds.refl _ _ _)⟩
                  · intro val ac u hR hp ha K hK
                    obtain ⟨w29, h29, r29⟩ := hp 10 (by decide); have e29 : (ac.tmps[29]?).getD undef = .slice (some ⟨b, o, none⟩) es.length cc := (ha 29 (by decide)).trans h29; obtain ⟨w30, h30, r30⟩ := hp 11 (by decide); have e30 : (ac.tmps[30]?).getD undef = .int .i64 k := (ha 30 (by decide)).trans h30; obtain ⟨w28, h28, r28⟩ := hp 9 (by decide); have e28 : (ac.tmps[28]?).getD undef = .bool false := (ha 28 (by decide)).trans h28; clear h29 h30 h28 ha hp
                    refine Reg.Op1.guarded rfl rfl e28 (fun _ => Reg.Op1.plain rfl ?_) (fun h => absurd rfl h)
                    go_wp2
                    exact ⟨rfl, hK _ _ rfl (fun j k _ _ => Reg.Adds.refl _ _ _)⟩
                  · intro val ac u hR hp ha K hK
                    obtain ⟨w31, h31, r31⟩ := hp 12 (by decide); have e31 : (ac.tmps[31]?).getD undef = .pointer (some ⟨b, o + k * 20, none⟩) := (ha 31 (by decide)).trans h31; obtain ⟨w28, h28, r28⟩ := hp 9 (by decide); have e28 : (ac.tmps[28]?).getD undef = .bool false := (ha 28 (by decide)).trans h28; clear h31 h28 ha hp
                    refine Reg.Op1.guarded rfl rfl e28 (fun _ => Reg.Op1.plain rfl ?_) (fun h => absurd rfl h)
                    refine Mem.load_aggG _ _ entry_agg b (o + k * 20) (entCells e) (by simp [Region.wanted]) (Reg.eval_of e31) (entCells_length _) (fun q u' hu => (hR.cell (p := ⟨b, o + k * 20 + q, none⟩) hbw).trans (HAT.out.c q u' hu)) ?_
                    exact ⟨rfl, hK _ _ rfl (fun j k _ _ => Reg.Adds.refl _ _ _)⟩
                  · intro val ac u hR hp ha K hK
                    have e6 : (ac.tmps[6]?).getD undef = .pointer (some ⟨w.heap.size, 0, none⟩) := ha 6 (by decide); obtain ⟨w28, h28, r28⟩ := hp 9 (by decide); have e28 : (ac.tmps[28]?).getD undef = .bool false := (ha 28 (by decide)).trans h28; clear h28 ha hp
                    refine Reg.Op1.guarded rfl rfl e28 (fun _ => Reg.Op1.plain rfl ?_) (fun h => absurd rfl h)
                    have hCu : Sto.CBx u w.heap.size c := Mem.Bx.below (w := wr.drew) HC.out hR HC.out.lt
                    refine Mem.load_aggG _ _ col_agg w.heap.size 0 (colCells c) (by simp [Region.wanted]) (Reg.eval_of e6) (Sto.colCells_length _) (fun j u' hu => by rw [Nat.zero_add]; exact hCu.cell hu) ?_
                    exact ⟨rfl, hK _ _ rfl (fun j k _ _ => Reg.Adds.refl _ _ _)⟩
                  · intro val ac u hR hp ha K hK
                    obtain ⟨w32, h32, r32⟩ := hp 13 (by decide); have e32 : (ac.tmps[32]?).getD undef = .agg (entCells e).toArray := (ha 32 (by decide)).trans h32; obtain ⟨w33, h33, r33⟩ := hp 14 (by decide); have e33 : (ac.tmps[33]?).getD undef = Vec.C c := (ha 33 (by decide)).trans h33; obtain ⟨w28, h28, r28⟩ := hp 9 (by decide); have e28 : (ac.tmps[28]?).getD undef = .bool false := (ha 28 (by decide)).trans h28; clear h32 h33 h28 ha hp
                    refine Reg.Op1.guarded rfl rfl e28 (fun _ => Reg.Op1.plain rfl ?_) (fun h => absurd rfl h)
                    go_wp2_with fail
                    refine (refUnder_any c e u HDC.out).mono ?_
                    rintro x w' ⟨rfl, hbw⟩
                    rw [HUN.out]
                    go_wp2_with fail
                    exact ⟨rfl, hK _ _ rfl (fun j k _ _ => hbw)⟩
                  · intro val ac u hR hp ha K hK
                    obtain ⟨w28, h28, r28⟩ := hp 9 (by decide); have e28 : (ac.tmps[28]?).getD undef = .bool false := (ha 28 (by decide)).trans h28; obtain ⟨w34, h34, r34⟩ := hp 15 (by decide); have e34 : (ac.tmps[34]?).getD undef = .bool true := (ha 34 (by decide)).trans h34; obtain ⟨w26, h26, r26⟩ := hp 7 (by decide); have e26 : (ac.tmps[26]?).getD undef = .bool true := (ha 26 (by decide)).trans h26; clear h28 h34 h26 ha hp
                    refine Reg.Op1.guarded rfl rfl e26 (fun _ => Reg.Op1.plain rfl ?_) (fun h => absurd rfl h)
                    go_wp2
                    exact ⟨rfl, hK _ _ rfl (fun j k _ _ => Reg.Adds.refl _ _ _)⟩
                  · intro val ac u hR hp ha K hK
                    obtain ⟨w26, h26, r26⟩ := hp 7 (by decide); have e26 : (ac.tmps[26]?).getD undef = .bool true := (ha 26 (by decide)).trans h26; obtain ⟨w35, h35, r35⟩ := hp 16 (by decide); have e35 : (ac.tmps[35]?).getD undef = .bool true := (ha 35 (by decide)).trans h35; clear h26 h35 ha hp
                    refine Reg.Op1.plain rfl ?_
                    go_wp2
                    exact ⟨rfl, hK _ _ rfl (fun j k _ _ => Reg.Adds.refl _ _ _)⟩
                  · intro val ac u hR hp ha K hK
                    obtain ⟨w36, h36, r36⟩ := hp 17 (by decide); have e36 : (ac.tmps[36]?).getD undef = .bool true := (ha 36 (by decide)).trans h36; clear h36 ha hp
                    refine Reg.Op1.plain rfl ?_
                    go_wp2
                    exact ⟨rfl, hK _ _ rfl (fun j k _ _ => Reg.Adds.refl _ _ _)⟩
                  · intro val ac u hR hp ha K hK
                    have e11 : (ac.tmps[11]?).getD undef = .bool true := ha 11 (by decide); obtain ⟨w37, h37, r37⟩ := hp 18 (by decide); have e37 : (ac.tmps[37]?).getD undef = .bool true := (ha 37 (by decide)).trans h37; clear h37 ha hp
                    refine Reg.Op1.guarded rfl rfl e37 (fun _ => Reg.Op1.plain rfl ?_) (fun h => absurd rfl h)
                    go_wp2
                    exact ⟨rfl, hK _ _ rfl (fun j k _ _ => Reg.Adds.refl _ _ _)⟩
                  · intro val ac u hR hp ha K hK
                    obtain ⟨w38, h38, r38⟩ := hp 19 (by decide); have e38 : (ac.tmps[38]?).getD undef = .bool true := (ha 38 (by decide)).trans h38; obtain ⟨w37, h37, r37⟩ := hp 18 (by decide); have e37 : (ac.tmps[37]?).getD undef = .bool true := (ha 37 (by decide)).trans h37; clear h38 h37 ha hp
                    refine Reg.Op1.guarded rfl rfl e37 (fun _ => Reg.Op1.plain rfl ?_) (fun h => absurd rfl h)
                    go_wp2
                    exact ⟨rfl, hK _ _ rfl (fun j k _ _ => Reg.Adds.refl _ _ _)⟩
                  · intro val ac u hR hp ha K hK
                    obtain ⟨w39, h39, r39⟩ := hp 20 (by decide); have e39 : (ac.tmps[39]?).getD undef = .bool false := (ha 39 (by decide)).trans h39; obtain ⟨w37, h37, r37⟩ := hp 18 (by decide); have e37 : (ac.tmps[37]?).getD undef = .bool true := (ha 37 (by decide)).trans h37; clear h39 h37 ha hp
                    refine Reg.Op1.guarded rfl rfl e37 (fun _ => Reg.Op1.plain rfl ?_) (fun h => absurd rfl h)
                    go_wp2
                    exact ⟨rfl, hK _ _ rfl (fun j k _ _ => Reg.Adds.refl _ _ _)⟩
                  · intro val ac u hR hp ha K hK
                    have e0 : (ac.tmps[0]?).getD undef = .slice (some ⟨b, o, none⟩) es.length cc := ha 0 (by decide); obtain ⟨w40, h40, r40⟩ := hp 21 (by decide); have e40 : (ac.tmps[40]?).getD undef = .bool false := (ha 40 (by decide)).trans h40; clear h40 ha hp
                    refine Reg.Op1.guarded rfl rfl e40 (fun _ => Reg.Op1.plain rfl ?_) (fun h => absurd rfl h)
                    go_wp2
                    exact ⟨rfl, hK _ _ rfl (fun j k _ _ => Reg.Adds.refl _ _ _)⟩
                  · intro val ac u hR hp ha K hK
                    have e12 : (ac.tmps[12]?).getD undef = .int .i64 k := ha 12 (by decide); obtain ⟨w40, h40, r40⟩ := hp 21 (by decide); have e40 : (ac.tmps[40]?).getD undef = .bool false := (ha 40 (by decide)).trans h40; clear h40 ha hp
                    refine Reg.Op1.guarded rfl rfl e40 (fun _ => Reg.Op1.plain rfl ?_) (fun h => absurd rfl h)
                    go_wp2
                    exact ⟨rfl, hK _ _ rfl (fun j k _ _ => Reg.Adds.refl _ _ _)⟩
                  · intro val ac u hR hp ha K hK
                    obtain ⟨w41, h41, r41⟩ := hp 22 (by decide); have e41 : (ac.tmps[41]?).getD undef = .slice (some ⟨b, o, none⟩) es.length cc := (ha 41 (by decide)).trans h41; obtain ⟨w42, h42, r42⟩ := hp 23 (by decide); have e42 : (ac.tmps[42]?).getD undef = .int .i64 k := (ha 42 (by decide)).trans h42; obtain ⟨w40, h40, r40⟩ := hp 21 (by decide); have e40 : (ac.tmps[40]?).getD undef = .bool false := (ha 40 (by decide)).trans h40; clear h41 h42 h40 ha hp
                    refine Reg.Op1.guarded rfl rfl e40 (fun _ => Reg.Op1.plain rfl ?_) (fun h => absurd rfl h)
                    go_wp2
                    exact ⟨rfl, hK _ _ rfl (fun j k _ _ => Reg.Adds.refl _ _ _)⟩
                  · intro val ac u hR hp ha K hK
                    obtain ⟨w43, h43, r43⟩ := hp 24 (by decide); have e43 : (ac.tmps[43]?).getD undef = .pointer (some ⟨b, o + k * 20, none⟩) := (ha 43 (by decide)).trans h43; obtain ⟨w40, h40, r40⟩ := hp 21 (by decide); have e40 : (ac.tmps[40]?).getD undef = .bool false := (ha 40 (by decide)).trans h40; clear h43 h40 ha hp
                    refine Reg.Op1.guarded rfl rfl e40 (fun _ => Reg.Op1.plain rfl ?_) (fun h => absurd rfl h)
                    refine Mem.load_aggG _ _ entry_agg b (o + k * 20) (entCells e) (by simp [Region.wanted]) (Reg.eval_of e43) (entCells_length _) (fun q u' hu => (hR.cell (p := ⟨b, o + k * 20 + q, none⟩) hbw).trans (HAT.out.c q u' hu)) ?_
                    exact ⟨rfl, hK _ _ rfl (fun j k _ _ => Reg.Adds.refl _ _ _)⟩
                  · intro val ac u hR hp ha K hK
                    have e10 : (ac.tmps[10]?).getD undef = .pointer (some ⟨w.heap.size + 2, 0, none⟩) := ha 10 (by decide); obtain ⟨w40, h40, r40⟩ := hp 21 (by decide); have e40 : (ac.tmps[40]?).getD undef = .bool false := (ha 40 (by decide)).trans h40; clear h40 ha hp
                    refine Reg.Op1.guarded rfl rfl e40 (fun _ => Reg.Op1.plain rfl ?_) (fun h => absurd rfl h)
                    have hMu : EBx u (w.heap.size + 2) m := Mem.Bx.below (w := wr.drew) H1.out hR H1.out.lt
                    refine Mem.load_aggG _ _ entry_agg (w.heap.size + 2) 0 (entCells m) (by simp [Region.wanted]) (Reg.eval_of e10) (entCells_length _) (fun j u' hu => by rw [Nat.zero_add]; exact hMu.cell hu) ?_
                    exact ⟨rfl, hK _ _ rfl (fun j k _ _ => Reg.Adds.refl _ _ _)⟩
                  · intro val ac u hR hp ha K hK
                    obtain ⟨w44, h44, r44⟩ := hp 25 (by decide); have e44 : (ac.tmps[44]?).getD undef = .agg (entCells e).toArray := (ha 44 (by decide)).trans h44; obtain ⟨w45, h45, r45⟩ := hp 26 (by decide); have e45 : (ac.tmps[45]?).getD undef = .agg (entCells m).toArray := (ha 45 (by decide)).trans h45; obtain ⟨w40, h40, r40⟩ := hp 21 (by decide); have e40 : (ac.tmps[40]?).getD undef = .bool false := (ha 40 (by decide)).trans h40; clear h44 h45 h40 ha hp
                    refine Reg.Op1.guarded rfl rfl e40 (fun _ => Reg.Op1.plain rfl ?_) (fun h => absurd rfl h)
                    go_wp2_with fail
                    refine (refGreater_any e m u).mono ?_
                    rintro x w' ⟨rfl, hbw⟩
                    rw [HGT.out]
                    go_wp2_with fail
                    exact ⟨rfl, hK _ _ rfl (fun j k _ _ => hbw)⟩
                  · intro val ac u hR hp ha K hK
                    obtain ⟨w40, h40, r40⟩ := hp 21 (by decide); have e40 : (ac.tmps[40]?).getD undef = .bool false := (ha 40 (by decide)).trans h40; obtain ⟨w46, h46, r46⟩ := hp 27 (by decide); have e46 : (ac.tmps[46]?).getD undef = .bool true := (ha 46 (by decide)).trans h46; obtain ⟨w37, h37, r37⟩ := hp 18 (by decide); have e37 : (ac.tmps[37]?).getD undef = .bool true := (ha 37 (by decide)).trans h37; clear h40 h46 h37 ha hp
                    refine Reg.Op1.guarded rfl rfl e37 (fun _ => Reg.Op1.plain rfl ?_) (fun h => absurd rfl h)
                    go_wp2
                    exact ⟨rfl, hK _ _ rfl (fun j k _ _ => Reg.Adds.refl _ _ _)⟩
                  · intro val ac u hR hp ha K hK
                    obtain ⟨w37, h37, r37⟩ := hp 18 (by decide); have e37 : (ac.tmps[37]?).getD undef = .bool true := (ha 37 (by decide)).trans h37; obtain ⟨w47, h47, r47⟩ := hp 28 (by decide); have e47 : (ac.tmps[47]?).getD undef = .bool true := (ha 47 (by decide)).trans h47; clear h37 h47 ha hp
                    refine Reg.Op1.plain rfl ?_
                    go_wp2
                    exact ⟨rfl, hK _ _ rfl (fun j k _ _ => Reg.Adds.refl _ _ _)⟩
                intro val u hR H
                obtain ⟨wB, hv, rB⟩ := H 29 (by decide)
                have hv : val 29 = .bool true := hv
                have HKu : Hid (Below wr.heap.size wr u) := (Below.refl _ wr).drew.trans hR
                simp only [List.map_cons, List.map_nil, Reg.lay, Act.put, List.setIfInBounds_toArray, List.set_cons_succ, List.set_cons_zero, Nat.reduceAdd, hv]
                clear hR H hv rB
                obtain ⟨wy, hwy⟩ : ∃ z, z = u := ⟨_, rfl⟩
                subst hwy
                have HM2 : Hid (EBx wy (w.heap.size + 2) m) := H1.out.below HKu.out H1.out.lt
                have H02 : Hid (EBx wy (w.heap.size + 1) ent0) := H0.out.below HKu.out H0.out.lt
                have HC2 : Hid (Sto.CBx wy w.heap.size c) := HC.out.below HKu.out HC.out.lt
                have HB2 : Hid (Below w.heap.size w wy) := HB.out.trans (HKu.out.mono HB.out.size)
                have HATS : Hid (∀ j u, (entCells e)[j]? = some u → wy.cell? ⟨b, o + k * 20 + j, none⟩ = some u) := (HAT.out.below HKu.out hbw).c
                clear H1 H0 HB HKu HAT hbw HC
                go_wp2_with (first | ((with_reducible refine Mem.load_agg _ _ entry_agg b (o + k * 20) (entCells e) ?hx (entCells_length e) HATS.out ?_); (case hx => exact rfl)) | ((with_reducible refine Mem.store_agg _ _ entry_agg (w.heap.size + 2) (entCells m) (entCells e) ?hxs ?hys HM2.out (entCells_length e) (ent_one e) ?_); ((case hxs => exact rfl); (case hys => exact rfl); intro w3 hb3 hk3 hs3)))
                go_roundw
                case rel => exact ⟨⟨k + 1, by omega, by rw [hts.out], by go_num, Lib.hid (HC2.out.keeps hk3 (by omega)), Lib.hid (H02.out.keeps hk3 (by omega)), Lib.hid (by rw [hts.out]; exact hb3), Lib.hid (HB2.out.trans (hk3.below (fun k h => by omega) HB2.out.size))⟩⟩
                case measure => simp [intOf]; omega
      · have HKD : Hid ((e.key.toList == key.toList) = false) := str_ne hkey
        have hts : Hid (Sto.greatest key c al (es.take (k + 1)) = (m, f)) := by show _ = _; rw [hts.out, Sto.gStep, if_neg (fun h => hkey h.1)]
        have HGT : Hid (decide (0 < gtE e m) = decide (0 < gtE e m)) := rfl
        have HUN : Hid (Sto.under c e = Sto.under c e) := rfl
        clear hkey
        refine Reg.wp_region_rel (by kernel_rfl) 55 30 rfl rfl (by kernel_rfl) (Reg.Adds) (Reg.Adds.refl) (Reg.Adds.trans)
          (fun i v u => match i with
            | 0 => v = .slice (some ⟨b, o, none⟩) es.length cc
            | 1 => v = .int .i64 k
            | 2 => v = .pointer (some ⟨b, o + k * 20, none⟩)
            | 3 => v = .pointer (some ⟨b, o + k * 20 + 6, none⟩)
            | 4 => v = .string e.key
            | 5 => v = .string key
            | 6 => v = .bool false
            | 7 => v = .bool false
            | 8 => v = undef
            | 9 => v = undef
            | 10 => v = undef
            | 11 => v = undef
            | 12 => v = undef
            | 13 => v = undef
            | 14 => v = undef
            | 15 => v = undef
            | 16 => v = undef
            | 17 => v = .bool false
            | 18 => v = .bool false
            | 19 => v = undef
            | 20 => v = undef
            | 21 => v = undef
            | 22 => v = undef
            | 23 => v = undef
            | 24 => v = undef
            | 25 => v = undef
            | 26 => v = undef
            | 27 => v = undef
            | 28 => v = undef
            | 29 => v = .bool false
            | _ => True) ?_ ?_
        · refine Reg.Steps.cons ?_ (Reg.Steps.cons ?_ (Reg.Steps.cons ?_ (Reg.Steps.cons ?_ (Reg.Steps.cons ?_ (Reg.Steps.cons ?_ (Reg.Steps.cons ?_ (Reg.Steps.cons ?_ (Reg.Steps.cons ?_ (Reg.Steps.cons ?_ (Reg.Steps.cons ?_ (Reg.Steps.cons ?_ (Reg.Steps.cons ?_ (Reg.Steps.cons ?_ (Reg.Steps.cons ?_ (Reg.Steps.cons ?_ (Reg.Steps.cons ?_ (Reg.Steps.cons ?_ (Reg.Steps.cons ?_ (Reg.Steps.cons ?_ (Reg.Steps.cons ?_ (Reg.Steps.cons ?_ (Reg.Steps.cons ?_ (Reg.Steps.cons ?_ (Reg.Steps.cons ?_ (Reg.Steps.cons ?_ (Reg.Steps.cons ?_ (Reg.Steps.cons ?_ (Reg.Steps.cons ?_ (Reg.Steps.cons ?_ (Reg.Steps.nil _))))))))))))))))))))))))))))))
          · intro val ac u hR hp ha K hK
            have e0 : (ac.tmps[0]?).getD undef = .slice (some ⟨b, o, none⟩) es.length cc := ha 0 (by decide); clear ha hp
            refine Reg.Op1.plain rfl ?_
            go_wp2
            exact ⟨rfl, hK _ _ rfl (fun j k _ _ => Reg.Adds.refl _ _ _)⟩
          · intro val ac u hR hp ha K hK
            have e12 : (ac.tmps[12]?).getD undef = .int .i64 k := ha 12 (by decide); clear ha hp
            refine Reg.Op1.plain rfl ?_
            go_wp2
            exact ⟨rfl, hK _ _ rfl (fun j k _ _ => Reg.Adds.refl _ _ _)⟩
          · intro val ac u hR hp ha K hK
            obtain ⟨w19, h19, r19⟩ := hp 0 (by decide); have e19 : (ac.tmps[19]?).getD undef = .slice (some ⟨b, o, none⟩) es.length cc := (ha 19 (by decide)).trans h19; obtain ⟨w20, h20, r20⟩ := hp 1 (by decide); have e20 : (ac.tmps[20]?).getD undef = .int .i64 k := (ha 20 (by decide)).trans h20; clear h19 h20 ha hp
            refine Reg.Op1.plain rfl ?_
            go_wp2
            exact ⟨rfl, hK _ _ rfl (fun j k _ _ => Reg.Adds.refl _ _ _)⟩
          · intro val ac u hR hp ha K hK
            obtain ⟨w21, h21, r21⟩ := hp 2 (by decide); have e21 : (ac.tmps[21]?).getD undef = .pointer (some ⟨b, o + k * 20, none⟩) := (ha 21 (by decide)).trans h21; clear h21 ha hp
            refine Reg.Op1.plain rfl ?_
            go_wp2
            exact ⟨rfl, hK _ _ rfl (fun j k _ _ => Reg.Adds.refl _ _ _)⟩
          · intro val ac u hR hp ha K hK
            obtain ⟨w22, h22, r22⟩ := hp 3 (by decide); have e22 : (ac.tmps[22]?).getD undef = .pointer (some ⟨b, o + k * 20 + 6, none⟩) := (ha 22 (by decide)).trans h22; clear h22 ha hp
            refine Reg.Op1.plain rfl ?_
            have x6 := (hR.cell (p := ⟨b, o + k * 20 + 6, none⟩) hbw).trans (HAT.out.c 6 _ rfl)
            go_wp2
            exact ⟨rfl, hK _ _ rfl (fun j k _ _ => Reg.Adds.refl _ _ _)⟩
          · intro val ac u hR hp ha K hK
            have e1 : (ac.tmps[1]?).getD undef = .string key := ha 1 (by decide); clear ha hp
            refine Reg.Op1.plain rfl ?_
            go_wp2
            exact ⟨rfl, hK _ _ rfl (fun j k _ _ => Reg.Adds.refl _ _ _)⟩
          · intro val ac u hR hp ha K hK
            obtain ⟨w23, h23, r23⟩ := hp 4 (by decide); have e23 : (ac.tmps[23]?).getD undef = .string e.key := (ha 23 (by decide)).trans h23; obtain ⟨w24, h24, r24⟩ := hp 5 (by decide); have e24 : (ac.tmps[24]?).getD undef = .string key := (ha 24 (by decide)).trans h24; clear h23 h24 ha hp
            have hkd := HKD.out
            refine Reg.Op1.plain rfl ?_
            go_wp2
            exact ⟨rfl, hK _ _ rfl (fun j k _ _ => Reg.Adds.refl _ _ _)⟩
          · intro val ac u hR hp ha K hK
            obtain ⟨w25, h25, r25⟩ := hp 6 (by decide); have e25 : (ac.tmps[25]?).getD undef = .bool false := (ha 25 (by decide)).trans h25; clear h25 ha hp
            refine Reg.Op1.plain rfl ?_
            go_wp2
            exact ⟨rfl, hK _ _ rfl (fun j k _ _ => Reg.Adds.refl _ _ _)⟩
          · intro val ac u hR hp ha K hK; obtain ⟨_, h, _⟩ := hp 7 (by decide); exact Reg.Op1.guarded rfl rfl ((ha 26 (by decide)).trans h) (fun h => by cases h) (fun _ => hK _ _ rfl (fun j k _ _ => Reg.Adds.refl _ _ _))
          · intro val ac u hR hp ha K hK; obtain ⟨_, h, _⟩ := hp 7 (by decide); exact Reg.Op1.guarded rfl rfl ((ha 26 (by decide)).trans h) (fun h => by cases h) (fun _ => hK _ _ rfl (fun j k _ _ => Reg.Adds.refl _ _ _))
          · intro val ac u hR hp ha K hK
            obtain ⟨w28, h28, r28⟩ := hp 9 (by decide); have e28 : (ac.tmps[28]?).getD undef = undef := (ha 28 (by decide)).trans h28; clear h28 ha hp
            exact Reg.Op1.passed rfl rfl e28 (hK _ _ rfl (fun j k _ _ => Reg.Adds.refl _ _ _))
          · intro val ac u hR hp ha K hK
            obtain ⟨w28, h28, r28⟩ := hp 9 (by decide); have e28 : (ac.tmps[28]?).getD undef = undef := (ha 28 (by decide)).trans h28; clear h28 ha hp
            exact Reg.Op1.passed rfl rfl e28 (hK _ _ rfl (fun j k _ _ => Reg.Adds.refl _ _ _))
          · intro val ac u hR hp ha K hK
            obtain ⟨w28, h28, r28⟩ := hp 9 (by decide); have e28 : (ac.tmps[28]?).getD undef = undef := (ha 28 (by decide)).trans h28; clear h28 ha hp
            exact Reg.Op1.passed rfl rfl e28 (hK _ _ rfl (fun j k _ _ => Reg.Adds.refl _ _ _))
          · intro val ac u hR hp ha K hK
            obtain ⟨w28, h28, r28⟩ := hp 9 (by decide); have e28 : (ac.tmps[28]?).getD undef = undef := (ha 28 (by decide)).trans h28; clear h28 ha hp
            exact Reg.Op1.passed rfl rfl e28 (hK _ _ rfl (fun j k _ _ => Reg.Adds.refl _ _ _))
          · intro val ac u hR hp ha K hK
            obtain ⟨w28, h28, r28⟩ := hp 9 (by decide); have e28 : (ac.tmps[28]?).getD undef = undef := (ha 28 (by decide)).trans h28; clear h28 ha hp
            exact Reg.Op1.passed rfl rfl e28 (hK _ _ rfl (fun j k _ _ => Reg.Adds.refl _ _ _))
          · intro val ac u hR hp ha K hK
            obtain ⟨w28, h28, r28⟩ := hp 9 (by decide); have e28 : (ac.tmps[28]?).getD undef = undef := (ha 28 (by decide)).trans h28; clear h28 ha hp
            exact Reg.Op1.passed rfl rfl e28 (hK _ _ rfl (fun j k _ _ => Reg.Adds.refl _ _ _))
          · intro val ac u hR hp ha K hK; obtain ⟨_, h, _⟩ := hp 7 (by decide); exact Reg.Op1.guarded rfl rfl ((ha 26 (by decide)).trans h) (fun h => by cases h) (fun _ => hK _ _ rfl (fun j k _ _ => Reg.Adds.refl _ _ _))
          · intro val ac u hR hp ha K hK
            obtain ⟨w26, h26, r26⟩ := hp 7 (by decide); have e26 : (ac.tmps[26]?).getD undef = .bool false := (ha 26 (by decide)).trans h26; obtain ⟨w35, h35, r35⟩ := hp 16 (by decide); have e35 : (ac.tmps[35]?).getD undef = undef := (ha 35 (by decide)).trans h35; clear h26 h35 ha hp
            refine Reg.Op1.plain rfl ?_
            go_wp2
            exact ⟨rfl, hK _ _ rfl (fun j k _ _ => Reg.Adds.refl _ _ _)⟩
          · intro val ac u hR hp ha K hK
            obtain ⟨w36, h36, r36⟩ := hp 17 (by decide); have e36 : (ac.tmps[36]?).getD undef = .bool false := (ha 36 (by decide)).trans h36; clear h36 ha hp
            refine Reg.Op1.plain rfl ?_
            go_wp2
            exact ⟨rfl, hK _ _ rfl (fun j k _ _ => Reg.Adds.refl _ _ _)⟩
          · intro val ac u hR hp ha K hK; obtain ⟨_, h, _⟩ := hp 18 (by decide); exact Reg.Op1.guarded rfl rfl ((ha 37 (by decide)).trans h) (fun h => by cases h) (fun _ => hK _ _ rfl (fun j k _ _ => Reg.Adds.refl _ _ _))
          · intro val ac u hR hp ha K hK; obtain ⟨_, h, _⟩ := hp 18 (by decide); exact Reg.Op1.guarded rfl rfl ((ha 37 (by decide)).trans h) (fun h => by cases h) (fun _ => hK _ _ rfl (fun j k _ _ => Reg.Adds.refl _ _ _))
          · intro val ac u hR hp ha K hK; obtain ⟨_, h, _⟩ := hp 18 (by decide); exact Reg.Op1.guarded rfl rfl ((ha 37 (by decide)).trans h) (fun h => by cases h) (fun _ => hK _ _ rfl (fun j k _ _ => Reg.Adds.refl _ _ _))
          · intro val ac u hR hp ha K hK
            obtain ⟨w40, h40, r40⟩ := hp 21 (by decide); have e40 : (ac.tmps[40]?).getD undef = undef := (ha 40 (by decide)).trans h40; clear h40 ha hp
            exact Reg.Op1.passed rfl rfl e40 (hK _ _ rfl (fun j k _ _ => Reg.Adds.refl _ _ _))
          · intro val ac u hR hp ha K hK
            obtain ⟨w40, h40, r40⟩ := hp 21 (by decide); have e40 : (ac.tmps[40]?).getD undef = undef := (ha 40 (by decide)).trans h40; clear h40 ha hp
            exact Reg.Op1.passed rfl rfl e40 (hK _ _ rfl (fun j k _ _ => Reg.Adds.refl _ _ _))
          · intro val ac u hR hp ha K hK
            obtain ⟨w40, h40, r40⟩ := hp 21 (by decide); have e40 : (ac.tmps[40]?).getD undef = undef := (ha 40 (by decide)).trans h40; clear h40 ha hp
            exact Reg.Op1.passed rfl rfl e40 (hK _ _ rfl (fun j k _ _ => Reg.Adds.refl _ _ _))
          · intro val ac u hR hp ha K hK
            obtain ⟨w40, h40, r40⟩ := hp 21 (by decide); have e40 : (ac.tmps[40]?).getD undef = undef := (ha 40 (by decide)).trans h40; clear h40 ha hp
            exact Reg.Op1.passed rfl rfl e40 (hK _ _ rfl (fun j k _ _ => Reg.Adds.refl _ _ _))
          · intro val ac u hR hp ha K hK
            obtain ⟨w40, h40, r40⟩ := hp 21 (by decide); have e40 : (ac.tmps[40]?).getD undef = undef := (ha 40 (by decide)).trans h40; clear h40 ha hp
            exact Reg.Op1.passed rfl rfl e40 (hK _ _ rfl (fun j k _ _ => Reg.Adds.refl _ _ _))
          · intro val ac u hR hp ha K hK
            obtain ⟨w40, h40, r40⟩ := hp 21 (by decide); have e40 : (ac.tmps[40]?).getD undef = undef := (ha 40 (by decide)).trans h40; clear h40 ha hp
            exact Reg.Op1.passed rfl rfl e40 (hK _ _ rfl (fun j k _ _ => Reg.Adds.refl _ _ _))
          · intro val ac u hR hp ha K hK; obtain ⟨_, h, _⟩ := hp 18 (by decide); exact Reg.Op1.guarded rfl rfl ((ha 37 (by decide)).trans h) (fun h => by cases h) (fun _ => hK _ _ rfl (fun j k _ _ => Reg.Adds.refl _ _ _))
          · intro val ac u hR hp ha K hK
            obtain ⟨w37, h37, r37⟩ := hp 18 (by decide); have e37 : (ac.tmps[37]?).getD undef = .bool false := (ha 37 (by decide)).trans h37; obtain ⟨w47, h47, r47⟩ := hp 28 (by decide); have e47 : (ac.tmps[47]?).getD undef = undef := (ha 47 (by decide)).trans h47; clear h37 h47 ha hp
            refine Reg.Op1.plain rfl ?_
            go_wp2
            exact ⟨rfl, hK _ _ rfl (fun j k _ _ => Reg.Adds.refl _ _ _)⟩
        intro val u hR H
        obtain ⟨wB, hv, rB⟩ := H 29 (by decide)
        have hv : val 29 = .bool false := hv
        have HKu : Hid (Below wr.heap.size wr u) := (Below.refl _ wr).drew.trans hR
        simp only [List.map_cons, List.map_nil, Reg.lay, Act.put, List.setIfInBounds_toArray, List.set_cons_succ, List.set_cons_zero, Nat.reduceAdd, hv]
        clear hR H hv rB
        obtain ⟨wy, hwy⟩ : ∃ z, z = u := ⟨_, rfl⟩
        subst hwy
        have HM2 : Hid (EBx wy (w.heap.size + 2) m) := H1.out.below HKu.out H1.out.lt
        have H02 : Hid (EBx wy (w.heap.size + 1) ent0) := H0.out.below HKu.out H0.out.lt
        have HC2 : Hid (Sto.CBx wy w.heap.size c) := HC.out.below HKu.out HC.out.lt
        have HB2 : Hid (Below w.heap.size w wy) := HB.out.trans (HKu.out.mono HB.out.size)
        have HATS : Hid (∀ j u, (entCells e)[j]? = some u → wy.cell? ⟨b, o + k * 20 + j, none⟩ = some u) := (HAT.out.below HKu.out hbw).c
        clear H1 H0 HB HKu HAT hbw HC
        go_wp2
        go_roundw
        case rel => exact ⟨⟨k + 1, by omega, by rw [hts.out], by go_num, HC2, H02, Lib.hid (by rw [hts.out]; exact HM2.out), HB2⟩⟩
        case measure => simp [intOf]; omega
    · obtain rfl : k = es.length := by omega
      have d0 : decide ((es.length : Int) < (es.length : Int)) = false := by simp
      rw [List.take_length] at H1
      obtain ⟨⟨m, f⟩, hmf⟩ : ∃ mf, Sto.greatest key c al es = mf := ⟨_, rfl⟩
      rw [List.take_length]
      rw [hmf] at H1 ⊢
      have HMF := Lib.hid hmf
      clear hmf
      go_wp2_with (first | ((with_reducible refine Mem.load_agg _ _ entry_agg (w.heap.size + 2) 0 (entCells m) ?hx (entCells_length m) (fun j u hu => by rw [Nat.zero_add]; exact H1.out.cell hu) ?_); case hx => exact rfl) | ((with_reducible refine Mem.store_agg _ _ entry_agg (w.heap.size + 1) (entCells ent0) (entCells m) ?hx ?hy H0.out (entCells_length m) (ent_one m) ?_); ((case hx => exact rfl); (case hy => exact rfl); intro w3 hb3 hk3 hs3)))
      refine bodyPost_ret (v := .tuple #[E m, .bool f]) ?_ rfl ⟨by rw [HMF.out], HB.out.trans (hk3.below (fun k h => by omega) HB.out.size)⟩
      rw [Mem.results_agg2 Try.results47 entry_agg rfl hb3]
      rfl
end Go.Proofs.Ytfafehffnjbhnaa
end
section
/- The document's store in memory; Put. -/
set_option maxRecDepth 8000
namespace Go.Proofs.Ytfafehffnjbhnaa
open Go.ChangeShapes Go.WideShapes Go.ChangeAt Go.RowKit
set_option linter.unusedVariables false
set_option linter.unusedSimpArgs false
namespace Sto
open Vec
abbrev rCells (rng : Int) (A : Option Addr) (n c : Nat) (mk : Col) : List Value := [.int .i64 rng, .slice A n c, .int .i64 mk.a, .int .i64 mk.b, .int .i64 mk.c]
/-- the document's store: block g, its list -/
structure RAt (w : World) (g : Nat) (A : Option Addr) (c : Nat) (rng : Int) (mk : Col) (es : List Ent) : Prop where
  B : Mem.Bx w 64 5 g (rCells rng A es.length c mk)
  O : EOwn w A c es
  ne : ∀ k, Mem.blk A = some k → k ≠ g
def RB (g : Nat) (A : Option Addr) : Nat → Prop := fun k => k = g ∨ Mem.blk A = some k
section
variable {w w' : World} {g : Nat} {A A' : Option Addr} {c c' : Nat} {rng : Int} {mk mk' : Col} {es es' : List Ent} {S : Nat → Prop}
theorem RAt.keeps (h : RAt w g A c rng mk es) (hk : Mem.Keeps S w w') (hS : ∀ k, RB g A k → ¬ S k) : RAt w' g A c rng mk es :=
  ⟨h.B.keeps hk (hS g (.inl rfl)), h.O.keeps hk (fun k hb => hS k (.inr hb)), h.ne⟩
theorem RAt.below (h : RAt w g A c rng mk es) (hb : Below w.heap.size w w') : RAt w' g A c rng mk es := h.keeps (Mem.Keeps.of_below hb) (fun _ _ h => h)
theorem RAt.lt (h : RAt w g A c rng mk es) : ∀ k, RB g A k → k < w.heap.size := fun k hk => by
  rcases hk with rfl | hk
  · exact h.B.lt
  · exact h.O.lt hk
theorem RAt.set (hB : Mem.Bx w 64 5 g (rCells rng A es.length c mk)) (hO : EOwn w A' c' es') (hne : ∀ k, Mem.blk A' = some k → k ≠ g) : RAt (w.setCell ⟨g, 1, none⟩ (.slice A' es'.length c')) g A' c' rng mk es' :=
  ⟨hB.set 1 _, hO.keeps ((Mem.Keeps.refl (fun k => k = g) w).setCell (p := ⟨g, 1, none⟩) (fun _ => rfl) _) hne, hne⟩
end
def rOk (rng : Int) (mk : Col) (e : Ent) : Bool := rightE e && (e.rng == rng && !under mk e)
def rThere (L : List Ent) (e : Ent) : Bool := L.any fun x => eqD x (dotE e)
theorem rThere_snoc {es : List Ent} {m : Nat} {x e : Ent} (h : es[m]? = some x) : rThere (es.take (m + 1)) e = (rThere (es.take m) e || eqD x (dotE e)) := by
  unfold rThere
  rw [Mem.take_snoc h, List.any_append]
  simp
def rStep (rng : Int) (mk : Col) (p : List Ent × Nat) (e : Ent) : List Ent × Nat := if rOk rng mk e = true ∧ rThere p.1 e = false then (p.1 ++ [e], p.2 + 1) else p
def rPut (rng : Int) (mk : Col) (L news : List Ent) : List Ent × Nat := news.foldl (rStep rng mk) (L, 0)
theorem rPut_snoc (rng : Int) (mk : Col) (L news : List Ent) (e : Ent) : rPut rng mk L (news ++ [e]) = rStep rng mk (rPut rng mk L news) e := by unfold rPut; rw [List.foldl_append]; rfl
structure RpRel (w : World) (g : Nat) (A0 : Option Addr) (rng : Int) (mk : Col) (es0 news : List Ent) (v5 v6 : Value) (wr : World) : Prop where
  out : ∃ (k : Nat) (A : Option Addr) (c : Nat) (es : List Ent) (n : Nat), k ≤ news.length ∧ n ≤ k ∧ es.length ≤ es0.length + k ∧ Hid (rPut rng mk es0 (news.take k) = (es, n)) ∧ v5 = .int .i64 n ∧ v6 = .int .i64 k ∧ Hid (RAt wr g A c rng mk es) ∧ Hid (Mem.Keeps (RB g A0) w wr) ∧ Hid (∀ q, Mem.blk A = some q → Mem.blk A0 = some q ∨ w.heap.size ≤ q)
def RpEnd (w : World) (g : Nat) (A0 : Option Addr) (rng : Int) (mk : Col) (es0 news : List Ent) (x : Ending) (w' : World) : Prop :=
  ∃ A c, x = .returned (.int .i64 ((rPut rng mk es0 news).2 : Nat)) ∧ RAt w' g A c rng mk (rPut rng mk es0 news).1 ∧ Mem.Keeps (RB g A0) w w' ∧ (∀ q, Mem.blk A = some q → Mem.blk A0 = some q ∨ w.heap.size ≤ q)
structure RtRel (w5 : World) (es : List Ent) (e : Ent) (v8 v9 : Value) (wx : World) : Prop where
  out : ∃ m : Nat, m ≤ es.length ∧ v8 = .bool (rThere (es.take m) e) ∧ v9 = .int .i64 m ∧ Hid (Below w5.heap.size w5 wx)
end Sto
open Vec Sto in
set_option maxRecDepth 20000 in
set_option maxHeartbeats 8000000 in
theorem refPut_any (rng : Int) (mk : Vec.Col) (g : Nat) (A0 : Option Addr) (c0 : Nat) (es0 : List Vec.Ent) (An : Option Addr) (cn : Nat) (news : List Vec.Ent) (w : World) (hA : Sto.RAt w g A0 c0 rng mk es0) (hN : Mem.Rd w w.heap.size An (news.flatMap Vec.entCells)) (hn : news.length ≤ 300) (hu : es0.length ≤ 1000000) (hne : news ≠ [] → ∀ q, Mem.blk An = some q → ¬ Sto.RB g A0 q) :
    Calls Try.prog 26 #[.pointer (some ⟨g, 0, none⟩), .slice An news.length cn] w (Sto.RpEnd w g A0 rng mk es0 news) := by
  have HA0 := Lib.hid hA
  have HN := Lib.hid hN
  have HNE := Lib.hid hne
  clear hA hN hne
  go_enter Try.func26, Try.ntmps26
  go_wp2
  go_loopw [5, 6] (RpRel w g A0 rng mk es0 news) (fun _ t _ => news.length - (intOf t).toNat)
  case atStart => exact ⟨⟨0, A0, c0, es0, 0, by omega, by omega, by omega, rfl, rfl, rfl, HA0, Mem.Keeps.refl _ _, fun q h => .inl h⟩⟩
  case round =>
    obtain ⟨k, A, c, es, n, hk, hnk, hesl, HP, rfl, rfl, HA, HK, HQ⟩ := hrel.out
    have hz := HK.out.size
    by_cases hlt : k < news.length
    · obtain ⟨b, o, e, rfl, hb, he, hat⟩ := ent_elem (HN.out.keepsAt HK.out (Nat.le_refl _) (HNE.out (fun h => by rw [h] at hlt; simp at hlt))) hlt
      have HAT := Lib.hid hat
      have HTS := Lib.hid (show rPut rng mk es0 (news.take (k + 1)) = rStep rng mk (es, n) e by rw [Mem.take_snoc he, rPut_snoc, HP.out])
      have hel : es.length ≤ maxLen := Nat.le_trans HA.out.O.le HA.out.O.cap
      unfold maxLen at hel
      clear hat he
      go_upto_region 6 with (first | ((with_reducible refine Mem.load_agg _ _ entry_agg b (o + k * 20) (entCells e) ?hx (entCells_length e) HAT.out.c ?_); case hx => exact rfl) | ((with_reducible refine Mem.store_agg _ _ entry_agg wr.heap.size (entCells ent0) (entCells e) ?hxa ?hya ?hba (entCells_length e) (ent_one e) ?_); ((case hxa => exact rfl); (case hya => exact rfl); (case hba => exact Mem.Bx.new wr _ (entCells ent0).toArray rfl rfl); intro w5 hb2 hk2 hs2)))
      have HE5 : Hid (EBx w5 wr.heap.size e) := hb2
      have HB5 : Hid (Below wr.heap.size wr w5) := (hk2.newBox rfl).belowAll
      have HA5 := Lib.hid (HA.out.below HB5.out)
      obtain ⟨ge, hge⟩ : ∃ ge, wr.heap.size = ge := ⟨_, rfl⟩
      obtain ⟨wk, hwk⟩ : ∃ wk, wk = wr := ⟨_, rfl⟩
      subst hwk
      rw [hge] at HE5 ⊢
      have HGE := Lib.hid hge
      have HDC : Hid (rightE e = true → 0 ≤ e.dc ∧ e.dc < 3) := fun h => by
        unfold rightE Vec.g1 chain at h
        simp only [Bool.and_eq_true, decide_eq_true_eq] at h
        omega
      clear hb2 hk2 hs2 HAT hge HA hrel
      go_cut [40] (fun v wx => v = .bool (!rOk rng mk e) ∧ Below w5.heap.size w5 wx)
      case first =>
        cases hri : rightE e with
        | false =>
          have HRI := Lib.hid hri
          have HOK : Hid ((!rOk rng mk e) = true) := by show _ = _; unfold rOk; rw [hri]; rfl
          have HRR : Hid True := trivial
          have HUN : Hid True := trivial
          clear hri
          refine Reg.wp_region_rel (by kernel_rfl) 79 21 rfl rfl (by kernel_rfl) (Reg.Adds) (Reg.Adds.refl) (Reg.Adds.trans)
            (fun i v u => match i with
              | 0 => v = .agg (entCells e).toArray
              | 1 => v = .bool false
              | 2 => v = .bool true
              | 3 => v = .bool true
              | 4 => v = undef
              | 5 => v = undef
              | 6 => v = undef
              | 7 => v = undef
              | 8 => v = undef
              | 9 => v = undef
              | 10 => v = undef
              | 11 => v = undef
              | 12 => v = .bool true
              | 13 => v = .bool true
              | 14 => v = undef
              | 15 => v = undef
              | 16 => v = undef
              | 17 => v = undef
              | 18 => v = undef
              | 19 => v = undef
              | 20 => v = .bool true
              | _ => True) ?_ ?_
          · refine Reg.Steps.cons ?_ (Reg.Steps.cons ?_ (Reg.Steps.cons ?_ (Reg.Steps.cons ?_ (Reg.Steps.cons ?_ (Reg.Steps.cons ?_ (Reg.Steps.cons ?_ (Reg.Steps.cons ?_ (Reg.Steps.cons ?_ (Reg.Steps.cons ?_ (Reg.Steps.cons ?_ (Reg.Steps.cons ?_ (Reg.Steps.cons ?_ (Reg.Steps.cons ?_ (Reg.Steps.cons ?_ (Reg.Steps.cons ?_ (Reg.Steps.cons ?_ (Reg.Steps.cons ?_ (Reg.Steps.cons ?_ (Reg.Steps.cons ?_ (Reg.Steps.cons ?_ (Reg.Steps.nil _)))))))))))))))))))))
            · intro val ac u hR hp ha K hK
              have e7 : (ac.tmps[7]?).getD undef = .pointer (some ⟨ge, 0, none⟩) := ha 7 (by decide); clear ha hp
              refine Reg.Op1.plain rfl ?_
              have hEu : EBx u ge e := Mem.Bx.below (w := w5.drew) HE5.out hR HE5.out.lt
              refine Mem.load_agg _ _ entry_agg ge 0 (entCells e) (Reg.eval_of e7) (entCells_length _) (fun j u' hu => by rw [Nat.zero_add]; exact hEu.cell hu) ?_
              exact ⟨rfl, hK _ _ rfl (fun j k _ _ => Reg.Adds.refl _ _ _)⟩
            · intro val ac u hR hp ha K hK
              obtain ⟨w20, h20, r20⟩ := hp 0 (by decide); have e20 : (ac.tmps[20]?).getD undef = .agg (entCells e).toArray := (ha 20 (by decide)).trans h20; clear h20 ha hp
              refine Reg.Op1.plain rfl ?_
              go_wp2_with fail
              refine (refRightE_any e u).mono ?_
              rintro x w' ⟨rfl, hbw⟩
              rw [HRI.out]
              go_wp2_with fail
              exact ⟨rfl, hK _ _ rfl (fun j k _ _ => hbw)⟩
            · intro val ac u hR hp ha K hK
              obtain ⟨w21, h21, r21⟩ := hp 1 (by decide); have e21 : (ac.tmps[21]?).getD undef = .bool false := (ha 21 (by decide)).trans h21; clear h21 ha hp
              refine Reg.Op1.plain rfl ?_
              go_wp2
              exact ⟨rfl, hK _ _ rfl (fun j k _ _ => Reg.Adds.refl _ _ _)⟩
            · intro val ac u hR hp ha K hK
              obtain ⟨w22, h22, r22⟩ := hp 2 (by decide); have e22 : (ac.tmps[22]?).getD undef = .bool true := (ha 22 (by decide)).trans h22; clear h22 ha hp
              refine Reg.Op1.plain rfl ?_
              go_wp2
              exact ⟨rfl, hK _ _ rfl (fun j k _ _ => Reg.Adds.refl _ _ _)⟩
            · intro val ac u hR hp ha K hK; obtain ⟨_, h, _⟩ := hp 3 (by decide); exact Reg.Op1.guarded rfl rfl ((ha 23 (by decide)).trans h) (fun h => by cases h) (fun _ => hK _ _ rfl (fun j k _ _ => Reg.Adds.refl _ _ _))
            · intro val ac u hR hp ha K hK; obtain ⟨_, h, _⟩ := hp 3 (by decide); exact Reg.Op1.guarded rfl rfl ((ha 23 (by decide)).trans h) (fun h => by cases h) (fun _ => hK _ _ rfl (fun j k _ _ => Reg.Adds.refl _ _ _))
            · intro val ac u hR hp ha K hK; obtain ⟨_, h, _⟩ := hp 3 (by decide); exact Reg.Op1.guarded rfl rfl ((ha 23 (by decide)).trans h) (fun h => by cases h) (fun _ => hK _ _ rfl (fun j k _ _ => Reg.Adds.refl _ _ _))
            · intro val ac u hR hp ha K hK; obtain ⟨_, h, _⟩ := hp 3 (by decide); exact Reg.Op1.guarded rfl rfl ((ha 23 (by decide)).trans h) (fun h => by cases h) (fun _ => hK _ _ rfl (fun j k _ _ => Reg.Adds.refl _ _ _))
            · intro val ac u hR hp ha K hK; obtain ⟨_, h, _⟩ := hp 3 (by decide); exact Reg.Op1.guarded rfl rfl ((ha 23 (by decide)).trans h) (fun h => by cases h) (fun _ => hK _ _ rfl (fun j k _ _ => Reg.Adds.refl _ _ _))
            · intro val ac u hR hp ha K hK; obtain ⟨_, h, _⟩ := hp 3 (by decide); exact Reg.Op1.guarded rfl rfl ((ha 23 (by decide)).trans h) (fun h => by cases h) (fun _ => hK _ _ rfl (fun j k _ _ => Reg.Adds.refl _ _ _))
            · intro val ac u hR hp ha K hK; obtain ⟨_, h, _⟩ := hp 3 (by decide); exact Reg.Op1.guarded rfl rfl ((ha 23 (by decide)).trans h) (fun h => by cases h) (fun _ => hK _ _ rfl (fun j k _ _ => Reg.Adds.refl _ _ _))
            · intro val ac u hR hp ha K hK; obtain ⟨_, h, _⟩ := hp 3 (by decide); exact Reg.Op1.guarded rfl rfl ((ha 23 (by decide)).trans h) (fun h => by cases h) (fun _ => hK _ _ rfl (fun j k _ _ => Reg.Adds.refl _ _ _))
            · intro val ac u hR hp ha K hK
              obtain ⟨w23, h23, r23⟩ := hp 3 (by decide); have e23 : (ac.tmps[23]?).getD undef = .bool true := (ha 23 (by decide)).trans h23; obtain ⟨w31, h31, r31⟩ := hp 11 (by decide); have e31 : (ac.tmps[31]?).getD undef = undef := (ha 31 (by decide)).trans h31; clear h23 h31 ha hp
              refine Reg.Op1.plain rfl ?_
              go_wp2
              exact ⟨rfl, hK _ _ rfl (fun j k _ _ => Reg.Adds.refl _ _ _)⟩
            · intro val ac u hR hp ha K hK
              obtain ⟨w32, h32, r32⟩ := hp 12 (by decide); have e32 : (ac.tmps[32]?).getD undef = .bool true := (ha 32 (by decide)).trans h32; clear h32 ha hp
              refine Reg.Op1.plain rfl ?_
              go_wp2
              exact ⟨rfl, hK _ _ rfl (fun j k _ _ => Reg.Adds.refl _ _ _)⟩
            · intro val ac u hR hp ha K hK; obtain ⟨_, h, _⟩ := hp 13 (by decide); exact Reg.Op1.guarded rfl rfl ((ha 33 (by decide)).trans h) (fun h => by cases h) (fun _ => hK _ _ rfl (fun j k _ _ => Reg.Adds.refl _ _ _))
            · intro val ac u hR hp ha K hK; obtain ⟨_, h, _⟩ := hp 13 (by decide); exact Reg.Op1.guarded rfl rfl ((ha 33 (by decide)).trans h) (fun h => by cases h) (fun _ => hK _ _ rfl (fun j k _ _ => Reg.Adds.refl _ _ _))
            · intro val ac u hR hp ha K hK; obtain ⟨_, h, _⟩ := hp 13 (by decide); exact Reg.Op1.guarded rfl rfl ((ha 33 (by decide)).trans h) (fun h => by cases h) (fun _ => hK _ _ rfl (fun j k _ _ => Reg.Adds.refl _ _ _))
            · intro val ac u hR hp ha K hK; obtain ⟨_, h, _⟩ := hp 13 (by decide); exact Reg.Op1.guarded rfl rfl ((ha 33 (by decide)).trans h) (fun h => by cases h) (fun _ => hK _ _ rfl (fun j k _ _ => Reg.Adds.refl _ _ _))
            · intro val ac u hR hp ha K hK; obtain ⟨_, h, _⟩ := hp 13 (by decide); exact Reg.Op1.guarded rfl rfl ((ha 33 (by decide)).trans h) (fun h => by cases h) (fun _ => hK _ _ rfl (fun j k _ _ => Reg.Adds.refl _ _ _))
            · intro val ac u hR hp ha K hK; obtain ⟨_, h, _⟩ := hp 13 (by decide); exact Reg.Op1.guarded rfl rfl ((ha 33 (by decide)).trans h) (fun h => by cases h) (fun _ => hK _ _ rfl (fun j k _ _ => Reg.Adds.refl _ _ _))
            · intro val ac u hR hp ha K hK
              obtain ⟨w33, h33, r33⟩ := hp 13 (by decide); have e33 : (ac.tmps[33]?).getD undef = .bool true := (ha 33 (by decide)).trans h33; obtain ⟨w39, h39, r39⟩ := hp 19 (by decide); have e39 : (ac.tmps[39]?).getD undef = undef := (ha 39 (by decide)).trans h39; clear h33 h39 ha hp
              refine Reg.Op1.plain rfl ?_
              go_wp2
              exact ⟨rfl, hK _ _ rfl (fun j k _ _ => Reg.Adds.refl _ _ _)⟩
          · intro val u hR H
            obtain ⟨_, hv, _⟩ := H 20 (by decide)
            have hv : val 20 = .bool true := hv
            have HK6 : Hid (Below w5.heap.size w5 u) := (Below.refl _ w5).drew.trans hR
            simp only [List.map_cons, List.map_nil, Reg.lay, Act.put, List.setIfInBounds_toArray, List.set_cons_succ, List.set_cons_zero, Nat.reduceAdd, hv]
            clear hR H hv
            go_wp2
            go_meet
            case rel => exact ⟨by rw [HOK.out], HK6.out⟩
        | true =>
          have HRI := Lib.hid hri
          by_cases hr2 : e.rng = rng
          · have HRR : Hid ((e.rng != rng) = false) := by show _ = _; simp [hr2]
            cases hun : under mk e with
            | false =>
              have HUN := Lib.hid hun
              have HOK : Hid ((!rOk rng mk e) = false) := by show _ = _; unfold rOk; rw [hri, hun]; simp [hr2]
              clear hri hr2 hun
              refine Reg.wp_region_rel (by kernel_rfl) 79 21 rfl rfl (by kernel_rfl) (Reg.Adds) (Reg.Adds.refl) (Reg.Adds.trans)
                (fun i v u => match i with
                  | 0 => v = .agg (entCells e).toArray
                  | 1 => v = .bool true
                  | 2 => v = .bool false
                  | 3 => v = .bool false
                  | 4 => v = .pointer (some ⟨ge, 0, none⟩)
                  | 5 => v = .pointer (some ⟨ge, 1, none⟩)
                  | 6 => v = .int .i64 e.rng
                  | 7 => v = .pointer (some ⟨g, 0, none⟩)
                  | 8 => v = .pointer (some ⟨g, 0, none⟩)
                  | 9 => v = .pointer (some ⟨g, 0, none⟩)
                  | 10 => v = .int .i64 rng
                  | 11 => v = .bool false
                  | 12 => v = .bool false
                  | 13 => v = .bool false
                  | 14 => v = .agg (entCells e).toArray
                  | 15 => v = .pointer (some ⟨g, 0, none⟩)
                  | 16 => v = .pointer (some ⟨g, 0, none⟩)
                  | 17 => v = .pointer (some ⟨g, 2, none⟩)
                  | 18 => v = Vec.C mk
                  | 19 => v = .bool false
                  | 20 => v = .bool false
                  | _ => True) ?_ ?_
              · refine Reg.Steps.cons ?_ (Reg.Steps.cons ?_ (Reg.Steps.cons ?_ (Reg.Steps.cons ?_ (Reg.Steps.cons ?_ (Reg.Steps.cons ?_ (Reg.Steps.cons ?_ (Reg.Steps.cons ?_ (Reg.Steps.cons ?_ (Reg.Steps.cons ?_ (Reg.Steps.cons ?_ (Reg.Steps.cons ?_ (Reg.Steps.cons ?_ (Reg.Steps.cons ?_ (Reg.Steps.cons ?_ (Reg.Steps.cons ?_ (Reg.Steps.cons ?_ (Reg.Steps.cons ?_ (Reg.Steps.cons ?_ (Reg.Steps.cons ?_ (Reg.Steps.cons ?_ (Reg.Steps.nil _)))))))))))))))))))))
                · intro val ac u hR hp ha K hK
                  have e7 : (ac.tmps[7]?).getD undef = .pointer (some ⟨ge, 0, none⟩) := ha 7 (by decide); clear ha hp
                  refine Reg.Op1.plain rfl ?_
                  have hEu : EBx u ge e := Mem.Bx.below (w := w5.drew) HE5.out hR HE5.out.lt
                  refine Mem.load_agg _ _ entry_agg ge 0 (entCells e) (Reg.eval_of e7) (entCells_length _) (fun j u' hu => by rw [Nat.zero_add]; exact hEu.cell hu) ?_
                  exact ⟨rfl, hK _ _ rfl (fun j k _ _ => Reg.Adds.refl _ _ _)⟩
                · intro val ac u hR hp ha K hK
                  obtain ⟨w20, h20, r20⟩ := hp 0 (by decide); have e20 : (ac.tmps[20]?).getD undef = .agg (entCells e).toArray := (ha 20 (by decide)).trans h20; clear h20 ha hp
                  refine Reg.Op1.plain rfl ?_
                  go_wp2_with fail
                  refine (refRightE_any e u).mono ?_
                  rintro x w' ⟨rfl, hbw⟩
                  rw [HRI.out]
                  go_wp2_with fail
                  exact ⟨rfl, hK _ _ rfl (fun j k _ _ => hbw)⟩
                · intro val ac u hR hp ha K hK
                  obtain ⟨w21, h21, r21⟩ := hp 1 (by decide); have e21 : (ac.tmps[21]?).getD undef = .bool true := (ha 21 (by decide)).trans h21; clear h21 ha hp
                  refine Reg.Op1.plain rfl ?_
                  go_wp2
                  exact ⟨rfl, hK _ _ rfl (fun j k _ _ => Reg.Adds.refl _ _ _)⟩
                · intro val ac u hR hp ha K hK
                  obtain ⟨w22, h22, r22⟩ := hp 2 (by decide); have e22 : (ac.tmps[22]?).getD undef = .bool false := (ha 22 (by decide)).trans h22; clear h22 ha hp
                  refine Reg.Op1.plain rfl ?_
                  go_wp2
                  exact ⟨rfl, hK _ _ rfl (fun j k _ _ => Reg.Adds.refl _ _ _)⟩
                · intro val ac u hR hp ha K hK
                  have e7 : (ac.tmps[7]?).getD undef = .pointer (some ⟨ge, 0, none⟩) := ha 7 (by decide); obtain ⟨w23, h23, r23⟩ := hp 3 (by decide); have e23 : (ac.tmps[23]?).getD undef = .bool false := (ha 23 (by decide)).trans h23; clear h23 ha hp
                  refine Reg.Op1.guarded rfl rfl e23 (fun _ => Reg.Op1.plain rfl ?_) (fun h => absurd rfl h)
                  go_wp2
                  exact ⟨rfl, hK _ _ rfl (fun j k _ _ => Reg.Adds.refl _ _ _)⟩
                · intro val ac u hR hp ha K hK
                  obtain ⟨w24, h24, r24⟩ := hp 4 (by decide); have e24 : (ac.tmps[24]?).getD undef = .pointer (some ⟨ge, 0, none⟩) := (ha 24 (by decide)).trans h24; obtain ⟨w23, h23, r23⟩ := hp 3 (by decide); have e23 : (ac.tmps[23]?).getD undef = .bool false := (ha 23 (by decide)).trans h23; clear h24 h23 ha hp
                  refine Reg.Op1.guarded rfl rfl e23 (fun _ => Reg.Op1.plain rfl ?_) (fun h => absurd rfl h)
                  go_wp2
                  exact ⟨rfl, hK _ _ rfl (fun j k _ _ => Reg.Adds.refl _ _ _)⟩
                · intro val ac u hR hp ha K hK
                  obtain ⟨w25, h25, r25⟩ := hp 5 (by decide); have e25 : (ac.tmps[25]?).getD undef = .pointer (some ⟨ge, 1, none⟩) := (ha 25 (by decide)).trans h25; obtain ⟨w23, h23, r23⟩ := hp 3 (by decide); have e23 : (ac.tmps[23]?).getD undef = .bool false := (ha 23 (by decide)).trans h23; clear h25 h23 ha hp
                  have x0 := (hR.cell (p := ⟨ge, 1, none⟩) HE5.out.lt).trans (HE5.out.cell (j := 1) rfl)
                  refine Reg.Op1.guarded rfl rfl e23 (fun _ => Reg.Op1.plain rfl ?_) (fun h => absurd rfl h)
                  go_wp2
                  exact ⟨rfl, hK _ _ rfl (fun j k _ _ => Reg.Adds.refl _ _ _)⟩
                · intro val ac u hR hp ha K hK
                  have e0 : (ac.tmps[0]?).getD undef = .pointer (some ⟨g, 0, none⟩) := ha 0 (by decide); obtain ⟨w23, h23, r23⟩ := hp 3 (by decide); have e23 : (ac.tmps[23]?).getD undef = .bool false := (ha 23 (by decide)).trans h23; clear h23 ha hp
                  refine Reg.Op1.guarded rfl rfl e23 (fun _ => Reg.Op1.plain rfl ?_) (fun h => absurd rfl h)
                  go_wp2
                  exact ⟨rfl, hK _ _ rfl (fun j k _ _ => Reg.Adds.refl _ _ _)⟩
                · intro val ac u hR hp ha K hK
                  obtain ⟨w27, h27, r27⟩ := hp 7 (by decide); have e27 : (ac.tmps[27]?).getD undef = .pointer (some ⟨g, 0, none⟩) := (ha 27 (by decide)).trans h27; obtain ⟨w23, h23, r23⟩ := hp 3 (by decide); have e23 : (ac.tmps[23]?).getD undef = .bool false := (ha 23 (by decide)).trans h23; clear h27 h23 ha hp
                  refine Reg.Op1.guarded rfl rfl e23 (fun _ => Reg.Op1.plain rfl ?_) (fun h => absurd rfl h)
                  go_wp2
                  exact ⟨rfl, hK _ _ rfl (fun j k _ _ => Reg.Adds.refl _ _ _)⟩
                · intro val ac u hR hp ha K hK
                  obtain ⟨w28, h28, r28⟩ := hp 8 (by decide); have e28 : (ac.tmps[28]?).getD undef = .pointer (some ⟨g, 0, none⟩) := (ha 28 (by decide)).trans h28; obtain ⟨w23, h23, r23⟩ := hp 3 (by decide); have e23 : (ac.tmps[23]?).getD undef = .bool false := (ha 23 (by decide)).trans h23; clear h28 h23 ha hp
                  refine Reg.Op1.guarded rfl rfl e23 (fun _ => Reg.Op1.plain rfl ?_) (fun h => absurd rfl h)
                  go_wp2
                  exact ⟨rfl, hK _ _ rfl (fun j k _ _ => Reg.Adds.refl _ _ _)⟩
                · intro val ac u hR hp ha K hK
                  obtain ⟨w29, h29, r29⟩ := hp 9 (by decide); have e29 : (ac.tmps[29]?).getD undef = .pointer (some ⟨g, 0, none⟩) := (ha 29 (by decide)).trans h29; obtain ⟨w23, h23, r23⟩ := hp 3 (by decide); have e23 : (ac.tmps[23]?).getD undef = .bool false := (ha 23 (by decide)).trans h23; clear h29 h23 ha hp
                  have x0 := (hR.cell (p := ⟨g, 0, none⟩) HA5.out.B.lt).trans (HA5.out.B.cell (j := 0) rfl)
                  refine Reg.Op1.guarded rfl rfl e23 (fun _ => Reg.Op1.plain rfl ?_) (fun h => absurd rfl h)
                  go_wp2
                  exact ⟨rfl, hK _ _ rfl (fun j k _ _ => Reg.Adds.refl _ _ _)⟩
                · intro val ac u hR hp ha K hK
                  obtain ⟨w26, h26, r26⟩ := hp 6 (by decide); have e26 : (ac.tmps[26]?).getD undef = .int .i64 e.rng := (ha 26 (by decide)).trans h26; obtain ⟨w30, h30, r30⟩ := hp 10 (by decide); have e30 : (ac.tmps[30]?).getD undef = .int .i64 rng := (ha 30 (by decide)).trans h30; obtain ⟨w23, h23, r23⟩ := hp 3 (by decide); have e23 : (ac.tmps[23]?).getD undef = .bool false := (ha 23 (by decide)).trans h23; clear h26 h30 h23 ha hp
                  have hrr := HRR.out
                  refine Reg.Op1.guarded rfl rfl e23 (fun _ => Reg.Op1.plain rfl ?_) (fun h => absurd rfl h)
                  go_wp2
                  exact ⟨rfl, hK _ _ rfl (fun j k _ _ => Reg.Adds.refl _ _ _)⟩
                · intro val ac u hR hp ha K hK
                  obtain ⟨w23, h23, r23⟩ := hp 3 (by decide); have e23 : (ac.tmps[23]?).getD undef = .bool false := (ha 23 (by decide)).trans h23; obtain ⟨w31, h31, r31⟩ := hp 11 (by decide); have e31 : (ac.tmps[31]?).getD undef = .bool false := (ha 31 (by decide)).trans h31; clear h23 h31 ha hp
                  refine Reg.Op1.plain rfl ?_
                  go_wp2
                  exact ⟨rfl, hK _ _ rfl (fun j k _ _ => Reg.Adds.refl _ _ _)⟩
                · intro val ac u hR hp ha K hK
                  obtain ⟨w32, h32, r32⟩ := hp 12 (by decide); have e32 : (ac.tmps[32]?).getD undef = .bool false := (ha 32 (by decide)).trans h32; clear h32 ha hp
                  refine Reg.Op1.plain rfl ?_
                  go_wp2
                  exact ⟨rfl, hK _ _ rfl (fun j k _ _ => Reg.Adds.refl _ _ _)⟩
                · intro val ac u hR hp ha K hK
                  have e7 : (ac.tmps[7]?).getD undef = .pointer (some ⟨ge, 0, none⟩) := ha 7 (by decide); obtain ⟨w33, h33, r33⟩ := hp 13 (by decide); have e33 : (ac.tmps[33]?).getD undef = .bool false := (ha 33 (by decide)).trans h33; clear h33 ha hp
                  refine Reg.Op1.guarded rfl rfl e33 (fun _ => Reg.Op1.plain rfl ?_) (fun h => absurd rfl h)
                  have hEu : EBx u ge e := Mem.Bx.below (w := w5.drew) HE5.out hR HE5.out.lt
                  refine Mem.load_aggG _ _ entry_agg ge 0 (entCells e) (by simp [Region.wanted]) (Reg.eval_of e7) (entCells_length _) (fun j u' hu => by rw [Nat.zero_add]; exact hEu.cell hu) ?_
                  exact ⟨rfl, hK _ _ rfl (fun j k _ _ => Reg.Adds.refl _ _ _)⟩
                · intro val ac u hR hp ha K hK
                  have e0 : (ac.tmps[0]?).getD undef = .pointer (some ⟨g, 0, none⟩) := ha 0 (by decide); obtain ⟨w33, h33, r33⟩ := hp 13 (by decide); have e33 : (ac.tmps[33]?).getD undef = .bool false := (ha 33 (by decide)).trans h33; clear h33 ha hp
                  refine Reg.Op1.guarded rfl rfl e33 (fun _ => Reg.Op1.plain rfl ?_) (fun h => absurd rfl h)
                  go_wp2
                  exact ⟨rfl, hK _ _ rfl (fun j k _ _ => Reg.Adds.refl _ _ _)⟩
                · intro val ac u hR hp ha K hK
                  obtain ⟨w35, h35, r35⟩ := hp 15 (by decide); have e35 : (ac.tmps[35]?).getD undef = .pointer (some ⟨g, 0, none⟩) := (ha 35 (by decide)).trans h35; obtain ⟨w33, h33, r33⟩ := hp 13 (by decide); have e33 : (ac.tmps[33]?).getD undef = .bool false := (ha 33 (by decide)).trans h33; clear h35 h33 ha hp
                  refine Reg.Op1.guarded rfl rfl e33 (fun _ => Reg.Op1.plain rfl ?_) (fun h => absurd rfl h)
                  go_wp2
                  exact ⟨rfl, hK _ _ rfl (fun j k _ _ => Reg.Adds.refl _ _ _)⟩
                · intro val ac u hR hp ha K hK
                  obtain ⟨w36, h36, r36⟩ := hp 16 (by decide); have e36 : (ac.tmps[36]?).getD undef = .pointer (some ⟨g, 0, none⟩) := (ha 36 (by decide)).trans h36; obtain ⟨w33, h33, r33⟩ := hp 13 (by decide); have e33 : (ac.tmps[33]?).getD undef = .bool false := (ha 33 (by decide)).trans h33; clear h36 h33 ha hp
                  refine Reg.Op1.guarded rfl rfl e33 (fun _ => Reg.Op1.plain rfl ?_) (fun h => absurd rfl h)
                  go_wp2
                  exact ⟨rfl, hK _ _ rfl (fun j k _ _ => Reg.Adds.refl _ _ _)⟩
                · intro val ac u hR hp ha K hK
                  obtain ⟨w37, h37, r37⟩ := hp 17 (by decide); have e37 : (ac.tmps[37]?).getD undef = .pointer (some ⟨g, 2, none⟩) := (ha 37 (by decide)).trans h37; obtain ⟨w33, h33, r33⟩ := hp 13 (by decide); have e33 : (ac.tmps[33]?).getD undef = .bool false := (ha 33 (by decide)).trans h33; clear h37 h33 ha hp
                  refine Reg.Op1.guarded rfl rfl e33 (fun _ => Reg.Op1.plain rfl ?_) (fun h => absurd rfl h)
                  have hBu := Mem.Bx.below (w := w5.drew) HA5.out.B hR HA5.out.B.lt
                  refine Mem.load_aggG _ _ col_agg g 2 (colCells mk) (by simp [Region.wanted]) (Reg.eval_of e37) (Sto.colCells_length _) (hBu.part 2 rfl) ?_
                  exact ⟨rfl, hK _ _ rfl (fun j k _ _ => Reg.Adds.refl _ _ _)⟩
                · intro val ac u hR hp ha K hK
                  obtain ⟨w34, h34, r34⟩ := hp 14 (by decide); have e34 : (ac.tmps[34]?).getD undef = .agg (entCells e).toArray := (ha 34 (by decide)).trans h34; obtain ⟨w38, h38, r38⟩ := hp 18 (by decide); have e38 : (ac.tmps[38]?).getD undef = Vec.C mk := (ha 38 (by decide)).trans h38; obtain ⟨w33, h33, r33⟩ := hp 13 (by decide); have e33 : (ac.tmps[33]?).getD undef = .bool false := (ha 33 (by decide)).trans h33; clear h34 h38 h33 ha hp
                  refine Reg.Op1.guarded rfl rfl e33 (fun _ => Reg.Op1.plain rfl ?_) (fun h => absurd rfl h)
                  go_wp2_with fail
                  refine (refUnder_any mk e u (HDC.out HRI.out)).mono ?_
                  rintro x w' ⟨rfl, hbw⟩
                  rw [HUN.out]
                  go_wp2_with fail
                  exact ⟨rfl, hK _ _ rfl (fun j k _ _ => hbw)⟩
                · intro val ac u hR hp ha K hK
                  obtain ⟨w33, h33, r33⟩ := hp 13 (by decide); have e33 : (ac.tmps[33]?).getD undef = .bool false := (ha 33 (by decide)).trans h33; obtain ⟨w39, h39, r39⟩ := hp 19 (by decide); have e39 : (ac.tmps[39]?).getD undef = .bool false := (ha 39 (by decide)).trans h39; clear h33 h39 ha hp
                  refine Reg.Op1.plain rfl ?_
                  go_wp2
                  exact ⟨rfl, hK _ _ rfl (fun j k _ _ => Reg.Adds.refl _ _ _)⟩
              · intro val u hR H
                obtain ⟨_, hv, _⟩ := H 20 (by decide)
                have hv : val 20 = .bool false := hv
                have HK6 : Hid (Below w5.heap.size w5 u) := (Below.refl _ w5).drew.trans hR
                simp only [List.map_cons, List.map_nil, Reg.lay, Act.put, List.setIfInBounds_toArray, List.set_cons_succ, List.set_cons_zero, Nat.reduceAdd, hv]
                clear hR H hv
                go_wp2
                go_meet
                case rel => exact ⟨by rw [HOK.out], HK6.out⟩
            | true =>
              have HUN := Lib.hid hun
              have HOK : Hid ((!rOk rng mk e) = true) := by show _ = _; unfold rOk; rw [hun]; simp
              clear hri hr2 hun
              refine Reg.wp_region_rel (by kernel_rfl) 79 21 rfl rfl (by kernel_rfl) (Reg.Adds) (Reg.Adds.refl) (Reg.Adds.trans)
                (fun i v u => match i with
                  | 0 => v = .agg (entCells e).toArray
                  | 1 => v = .bool true
                  | 2 => v = .bool false
                  | 3 => v = .bool false
                  | 4 => v = .pointer (some ⟨ge, 0, none⟩)
                  | 5 => v = .pointer (some ⟨ge, 1, none⟩)
                  | 6 => v = .int .i64 e.rng
                  | 7 => v = .pointer (some ⟨g, 0, none⟩)
                  | 8 => v = .pointer (some ⟨g, 0, none⟩)
                  | 9 => v = .pointer (some ⟨g, 0, none⟩)
                  | 10 => v = .int .i64 rng
                  | 11 => v = .bool false
                  | 12 => v = .bool false
                  | 13 => v = .bool false
                  | 14 => v = .agg (entCells e).toArray
                  | 15 => v = .pointer (some ⟨g, 0, none⟩)
                  | 16 => v = .pointer (some ⟨g, 0, none⟩)
                  | 17 => v = .pointer (some ⟨g, 2, none⟩)
                  | 18 => v = Vec.C mk
                  | 19 => v = .bool true
                  | 20 => v = .bool true
                  | _ => True) ?_ ?_
              · refine Reg.Steps.cons ?_ (Reg.Steps.cons ?_ (Reg.Steps.cons ?_ (Reg.Steps.cons ?_ (Reg.Steps.cons ?_ (Reg.Steps.cons ?_ (Reg.Steps.cons ?_ (Reg.Steps.cons ?_ (Reg.Steps.cons ?_ (Reg.Steps.cons ?_ (Reg.Steps.cons ?_ (Reg.Steps.cons ?_ (Reg.Steps.cons ?_ (Reg.Steps.cons ?_ (Reg.Steps.cons ?_ (Reg.Steps.cons ?_ (Reg.Steps.cons ?_ (Reg.Steps.cons ?_ (Reg.Steps.cons ?_ (Reg.Steps.cons ?_ (Reg.Steps.cons ?_ (Reg.Steps.nil _)))))))))))))))))))))
                · intro val ac u hR hp ha K hK
                  have e7 : (ac.tmps[7]?).getD undef = .pointer (some ⟨ge, 0, none⟩) := ha 7 (by decide); clear ha hp
                  refine Reg.Op1.plain rfl ?_
                  have hEu : EBx u ge e := Mem.Bx.below (w := w5.drew) HE5.out hR HE5.out.lt
                  refine Mem.load_agg _ _ entry_agg ge 0 (entCells e) (Reg.eval_of e7) (entCells_length _) (fun j u' hu => by rw [Nat.zero_add]; exact hEu.cell hu) ?_
                  exact ⟨rfl, hK _ _ rfl (fun j k _ _ => Reg.Adds.refl _ _ _)⟩
                · intro val ac u hR hp ha K hK
                  obtain ⟨w20, h20, r20⟩ := hp 0 (by decide); have e20 : (ac.tmps[20]?).getD undef = .agg (entCells e).toArray := (ha 20 (by decide)).trans h20; clear h20 ha hp
                  refine Reg.Op1.plain rfl ?_
                  go_wp2_with fail
                  refine (refRightE_any e u).mono ?_
                  rintro x w' ⟨rfl, hbw⟩
                  rw [HRI.out]
                  go_wp2_with fail
                  exact ⟨rfl, hK _ _ rfl (fun j k _ _ => hbw)⟩
                · intro val ac u hR hp ha K hK
                  obtain ⟨w21, h21, r21⟩ := hp 1 (by decide); have e21 : (ac.tmps[21]?).getD undef = .bool true := (ha 21 (by decide)).trans h21; clear h21 ha hp
                  refine Reg.Op1.plain rfl ?_
                  go_wp2
                  exact ⟨rfl, hK _ _ rfl (fun j k _ _ => Reg.Adds.refl _ _ _)⟩
                · intro val ac u hR hp ha K hK
                  obtain ⟨w22, h22, r22⟩ := hp 2 (by decide); have e22 : (ac.tmps[22]?).getD undef = .bool false := (ha 22 (by decide)).trans h22; clear h22 ha hp
                  refine Reg.Op1.plain rfl ?_
                  go_wp2
                  exact ⟨rfl, hK _ _ rfl (fun j k _ _ => Reg.Adds.refl _ _ _)⟩
                · intro val ac u hR hp ha K hK
                  have e7 : (ac.tmps[7]?).getD undef = .pointer (some ⟨ge, 0, none⟩) := ha 7 (by decide); obtain ⟨w23, h23, r23⟩ := hp 3 (by decide); have e23 : (ac.tmps[23]?).getD undef = .bool false := (ha 23 (by decide)).trans h23; clear h23 ha hp
                  refine Reg.Op1.guarded rfl rfl e23 (fun _ => Reg.Op1.plain rfl ?_) (fun h => absurd rfl h)
                  go_wp2
                  exact ⟨rfl, hK _ _ rfl (fun j k _ _ => Reg.Adds.refl _ _ _)⟩
                · intro val ac u hR hp ha K hK
                  obtain ⟨w24, h24, r24⟩ := hp 4 (by decide); have e24 : (ac.tmps[24]?).getD undef = .pointer (some ⟨ge, 0, none⟩) := (ha 24 (by decide)).trans h24; obtain ⟨w23, h23, r23⟩ := hp 3 (by decide); have e23 : (ac.tmps[23]?).getD undef = .bool false := (ha 23 (by decide)).trans h23; clear h24 h23 ha hp
                  refine Reg.Op1.guarded rfl rfl e23 (fun _ => Reg.Op1.plain rfl ?_) (fun h => absurd rfl h)
                  go_wp2
                  exact ⟨rfl, hK _ _ rfl (fun j k _ _ => Reg.Adds.refl _ _ _)⟩
                · intro val ac u hR hp ha K hK
                  obtain ⟨w25, h25, r25⟩ := hp 5 (by decide); have e25 : (ac.tmps[25]?).getD undef = .pointer (some ⟨ge, 1, none⟩) := (ha 25 (by decide)).trans h25; obtain ⟨w23, h23, r23⟩ := hp 3 (by decide); have e23 : (ac.tmps[23]?).getD undef = .bool false := (ha 23 (by decide)).trans h23; clear h25 h23 ha hp
                  have x0 := (hR.cell (p := ⟨ge, 1, none⟩) HE5.out.lt).trans (HE5.out.cell (j := 1) rfl)
                  refine Reg.Op1.guarded rfl rfl e23 (fun _ => Reg.Op1.plain rfl ?_) (fun h => absurd rfl h)
                  go_wp2
                  exact ⟨rfl, hK _ _ rfl (fun j k _ _ => Reg.Adds.refl _ _ _)⟩
                · intro val ac u hR hp ha K hK
                  have e0 : (ac.tmps[0]?).getD undef = .pointer (some ⟨g, 0, none⟩) := ha 0 (by decide); obtain ⟨w23, h23, r23⟩ := hp 3 (by decide); have e23 : (ac.tmps[23]?).getD undef = .bool false := (ha 23 (by decide)).trans h23; clear h23 ha hp
                  refine Reg.Op1.guarded rfl rfl e23 (fun _ => Reg.Op1.plain rfl ?_) (fun h => absurd rfl h)
                  go_wp2
                  exact ⟨rfl, hK _ _ rfl (fun j k _ _ => Reg.Adds.refl _ _ _)⟩
                · intro val ac u hR hp ha K hK
                  obtain ⟨w27, h27, r27⟩ := hp 7 (by decide); have e27 : (ac.tmps[27]?).getD undef = .pointer (some ⟨g, 0, none⟩) := (ha 27 (by decide)).trans h27; obtain ⟨w23, h23, r23⟩ := hp 3 (by decide); have e23 : (ac.tmps[23]?).getD undef = .bool false := (ha 23 (by decide)).trans h23; clear h27 h23 ha hp
                  refine Reg.Op1.guarded rfl rfl e23 (fun _ => Reg.Op1.plain rfl ?_) (fun h => absurd rfl h)
                  go_wp2
                  exact ⟨rfl, hK _ _ rfl (fun j k _ _ => Reg.Adds.refl _ _ _)⟩
                · intro val ac u hR hp ha K hK
                  obtain ⟨w28, h28, r28⟩ := hp 8 (by decide); have e28 : (ac.tmps[28]?).getD undef = .pointer (some ⟨g, 0, none⟩) := (ha 28 (by decide)).trans h28; obtain ⟨w23, h23, r23⟩ := hp 3 (by decide); have e23 : (ac.tmps[23]?).getD undef = .bool false := (ha 23 (by decide)).trans h23; clear h28 h23 ha hp
                  refine Reg.Op1.guarded rfl rfl e23 (fun _ => Reg.Op1.plain rfl ?_) (fun h => absurd rfl h)
                  go_wp2
                  exact ⟨rfl, hK _ _ rfl (fun j k _ _ => Reg.Adds.refl _ _ _)⟩
                · intro val ac u hR hp ha K hK
                  obtain ⟨w29, h29, r29⟩ := hp 9 (by decide); have e29 : (ac.tmps[29]?).getD undef = .pointer (some ⟨g, 0, none⟩) := (ha 29 (by decide)).trans h29; obtain ⟨w23, h23, r23⟩ := hp 3 (by decide); have e23 : (ac.tmps[23]?).getD undef = .bool false := (ha 23 (by decide)).trans h23; clear h29 h23 ha hp
                  have x0 := (hR.cell (p := ⟨g, 0, none⟩) HA5.out.B.lt).trans (HA5.out.B.cell (j := 0) rfl)
                  refine Reg.Op1.guarded rfl rfl e23 (fun _ => Reg.Op1.plain rfl ?_) (fun h => absurd rfl h)
                  go_wp2
                  exact ⟨rfl, hK _ _ rfl (fun j k _ _ => Reg.Adds.refl _ _ _)⟩
                · intro val ac u hR hp ha K hK
                  obtain ⟨w26, h26, r26⟩ := hp 6 (by decide); have e26 : (ac.tmps[26]?).getD undef = .int .i64 e.rng := (ha 26 (by decide)).trans h26; obtain ⟨w30, h30, r30⟩ := hp 10 (by decide); have e30 : (ac.tmps[30]?).getD undef = .int .i64 rng := (ha 30 (by decide)).trans h30; obtain ⟨w23, h23, r23⟩ := hp 3 (by decide); have e23 : (ac.tmps[23]?).getD undef = .bool false := (ha 23 (by decide)).trans h23; clear h26 h30 h23 ha hp
                  have hrr := HRR.out
                  refine Reg.Op1.guarded rfl rfl e23 (fun _ => Reg.Op1.plain rfl ?_) (fun h => absurd rfl h)
                  go_wp2
                  exact ⟨rfl, hK _ _ rfl (fun j k _ _ => Reg.Adds.refl _ _ _)⟩
                · intro val ac u hR hp ha K hK
                  obtain ⟨w23, h23, r23⟩ := hp 3 (by decide); have e23 : (ac.tmps[23]?).getD undef = .bool false := (ha 23 (by decide)).trans h23; obtain ⟨w31, h31, r31⟩ := hp 11 (by decide); have e31 : (ac.tmps[31]?).getD undef = .bool false := (ha 31 (by decide)).trans h31; clear h23 h31 ha hp
                  refine Reg.Op1.plain rfl ?_
                  go_wp2
                  exact ⟨rfl, hK _ _ rfl (fun j k _ _ => Reg.Adds.refl _ _ _)⟩
                · intro val ac u hR hp ha K hK
                  obtain ⟨w32, h32, r32⟩ := hp 12 (by decide); have e32 : (ac.tmps[32]?).getD undef = .bool false := (ha 32 (by decide)).trans h32; clear h32 ha hp
                  refine Reg.Op1.plain rfl ?_
                  go_wp2
                  exact ⟨rfl, hK _ _ rfl (fun j k _ _ => Reg.Adds.refl _ _ _)⟩
                · intro val ac u hR hp ha K hK
                  have e7 : (ac.tmps[7]?).getD undef = .pointer (some ⟨ge, 0, none⟩) := ha 7 (by decide); obtain ⟨w33, h33, r33⟩ := hp 13 (by decide); have e33 : (ac.tmps[33]?).getD undef = .bool false := (ha 33 (by decide)).trans h33; clear h33 ha hp
                  refine Reg.Op1.guarded rfl rfl e33 (fun _ => Reg.Op1.plain rfl ?_) (fun h => absurd rfl h)
                  have hEu : EBx u ge e := Mem.Bx.below (w := w5.drew) HE5.out hR HE5.out.lt
                  refine Mem.load_aggG _ _ entry_agg ge 0 (entCells e) (by simp [Region.wanted]) (Reg.eval_of e7) (entCells_length _) (fun j u' hu => by rw [Nat.zero_add]; exact hEu.cell hu) ?_
                  exact ⟨rfl, hK _ _ rfl (fun j k _ _ => Reg.Adds.refl _ _ _)⟩
                · intro val ac u hR hp ha K hK
                  have e0 : (ac.tmps[0]?).getD undef = .pointer (some ⟨g, 0, none⟩) := ha 0 (by decide); obtain ⟨w33, h33, r33⟩ := hp 13 (by decide); have e33 : (ac.tmps[33]?).getD undef = .bool false := (ha 33 (by decide)).trans h33; clear h33 ha hp
                  refine Reg.Op1.guarded rfl rfl e33 (fun _ => Reg.Op1.plain rfl ?_) (fun h => absurd rfl h)
                  go_wp2
                  exact ⟨rfl, hK _ _ rfl (fun j k _ _ => Reg.Adds.refl _ _ _)⟩
                · intro val ac u hR hp ha K hK
                  obtain ⟨w35, h35, r35⟩ := hp 15 (by decide); have e35 : (ac.tmps[35]?).getD undef = .pointer (some ⟨g, 0, none⟩) := (ha 35 (by decide)).trans h35; obtain ⟨w33, h33, r33⟩ := hp 13 (by decide); have e33 : (ac.tmps[33]?).getD undef = .bool false := (ha 33 (by decide)).trans h33; clear h35 h33 ha hp
                  refine Reg.Op1.guarded rfl rfl e33 (fun _ => Reg.Op1.plain rfl ?_) (fun h => absurd rfl h)
                  go_wp2
                  exact ⟨rfl, hK _ _ rfl (fun j k _ _ => Reg.Adds.refl _ _ _)⟩
                · intro val ac u hR hp ha K hK
                  obtain ⟨w36, h36, r36⟩ := hp 16 (by decide); have e36 : (ac.tmps[36]?).getD undef = .pointer (some ⟨g, 0, none⟩) := (ha 36 (by decide)).trans h36; obtain ⟨w33, h33, r33⟩ := hp 13 (by decide); have e33 : (ac.tmps[33]?).getD undef = .bool false := (ha 33 (by decide)).trans h33; clear h36 h33 ha hp
                  refine Reg.Op1.guarded rfl rfl e33 (fun _ => Reg.Op1.plain rfl ?_) (fun h => absurd rfl h)
                  go_wp2
                  exact ⟨rfl, hK _ _ rfl (fun j k _ _ => Reg.Adds.refl _ _ _)⟩
                · intro val ac u hR hp ha K hK
                  obtain ⟨w37, h37, r37⟩ := hp 17 (by decide); have e37 : (ac.tmps[37]?).getD undef = .pointer (some ⟨g, 2, none⟩) := (ha 37 (by decide)).trans h37; obtain ⟨w33, h33, r33⟩ := hp 13 (by decide); have e33 : (ac.tmps[33]?).getD undef = .bool false := (ha 33 (by decide)).trans h33; clear h37 h33 ha hp
                  refine Reg.Op1.guarded rfl rfl e33 (fun _ => Reg.Op1.plain rfl ?_) (fun h => absurd rfl h)
                  have hBu := Mem.Bx.below (w := w5.drew) HA5.out.B hR HA5.out.B.lt
                  refine Mem.load_aggG _ _ col_agg g 2 (colCells mk) (by simp [Region.wanted]) (Reg.eval_of e37) (Sto.colCells_length _) (hBu.part 2 rfl) ?_
                  exact ⟨rfl, hK _ _ rfl (fun j k _ _ => Reg.Adds.refl _ _ _)⟩
                · intro val ac u hR hp ha K hK
                  obtain ⟨w34, h34, r34⟩ := hp 14 (by decide); have e34 : (ac.tmps[34]?).getD undef = .agg (entCells e).toArray := (ha 34 (by decide)).trans h34; obtain ⟨w38, h38, r38⟩ := hp 18 (by decide); have e38 : (ac.tmps[38]?).getD undef = Vec.C mk := (ha 38 (by decide)).trans h38; obtain ⟨w33, h33, r33⟩ := hp 13 (by decide); have e33 : (ac.tmps[33]?).getD undef = .bool false := (ha 33 (by decide)).trans h33; clear h34 h38 h33 ha hp
                  refine Reg.Op1.guarded rfl rfl e33 (fun _ => Reg.Op1.plain rfl ?_) (fun h => absurd rfl h)
                  go_wp2_with fail
                  refine (refUnder_any mk e u (HDC.out HRI.out)).mono ?_
                  rintro x w' ⟨rfl, hbw⟩
                  rw [HUN.out]
                  go_wp2_with fail
                  exact ⟨rfl, hK _ _ rfl (fun j k _ _ => hbw)⟩
                · intro val ac u hR hp ha K hK
                  obtain ⟨w33, h33, r33⟩ := hp 13 (by decide); have e33 : (ac.tmps[33]?).getD undef = .bool false := (ha 33 (by decide)).trans h33; obtain ⟨w39, h39, r39⟩ := hp 19 (by decide); have e39 : (ac.tmps[39]?).getD undef = .bool true := (ha 39 (by decide)).trans h39; clear h33 h39 ha hp
                  refine Reg.Op1.plain rfl ?_
                  go_wp2
                  exact ⟨rfl, hK _ _ rfl (fun j k _ _ => Reg.Adds.refl _ _ _)⟩
              · intro val u hR H
                obtain ⟨_, hv, _⟩ := H 20 (by decide)
                have hv : val 20 = .bool true := hv
                have HK6 : Hid (Below w5.heap.size w5 u) := (Below.refl _ w5).drew.trans hR
                simp only [List.map_cons, List.map_nil, Reg.lay, Act.put, List.setIfInBounds_toArray, List.set_cons_succ, List.set_cons_zero, Nat.reduceAdd, hv]
                clear hR H hv
                go_wp2
                go_meet
                case rel => exact ⟨by rw [HOK.out], HK6.out⟩
          · have HRR : Hid ((e.rng != rng) = true) := by show _ = _; simp [hr2]
            have HOK : Hid ((!rOk rng mk e) = true) := by show _ = _; unfold rOk; simp [hr2]
            have HUN : Hid True := trivial
            clear hri hr2
            refine Reg.wp_region_rel (by kernel_rfl) 79 21 rfl rfl (by kernel_rfl) (Reg.Adds) (Reg.Adds.refl) (Reg.Adds.trans)
              (fun i v u => match i with
                | 0 => v = .agg (entCells e).toArray
                | 1 => v = .bool true
                | 2 => v = .bool false
                | 3 => v = .bool false
                | 4 => v = .pointer (some ⟨ge, 0, none⟩)
                | 5 => v = .pointer (some ⟨ge, 1, none⟩)
                | 6 => v = .int .i64 e.rng
                | 7 => v = .pointer (some ⟨g, 0, none⟩)
                | 8 => v = .pointer (some ⟨g, 0, none⟩)
                | 9 => v = .pointer (some ⟨g, 0, none⟩)
                | 10 => v = .int .i64 rng
                | 11 => v = .bool true
                | 12 => v = .bool true
                | 13 => v = .bool true
                | 14 => v = undef
                | 15 => v = undef
                | 16 => v = undef
                | 17 => v = undef
                | 18 => v = undef
                | 19 => v = undef
                | 20 => v = .bool true
                | _ => True) ?_ ?_
            · refine Reg.Steps.cons ?_ (Reg.Steps.cons ?_ (Reg.Steps.cons ?_ (Reg.Steps.cons ?_ (Reg.Steps.cons ?_ (Reg.Steps.cons ?_ (Reg.Steps.cons ?_ (Reg.Steps.cons ?_ (Reg.Steps.cons ?_ (Reg.Steps.cons ?_ (Reg.Steps.cons ?_ (Reg.Steps.cons ?_ (Reg.Steps.cons ?_ (Reg.Steps.cons ?_ (Reg.Steps.cons ?_ (Reg.Steps.cons ?_ (Reg.Steps.cons ?_ (Reg.Steps.cons ?_ (Reg.Steps.cons ?_ (Reg.Steps.cons ?_ (Reg.Steps.cons ?_ (Reg.Steps.nil _)))))))))))))))))))))
              · intro val ac u hR hp ha K hK
                have e7 : (ac.tmps[7]?).getD undef = .pointer (some ⟨ge, 0, none⟩) := ha 7 (by decide); clear ha hp
                refine Reg.Op1.plain rfl ?_
                have hEu : EBx u ge e := Mem.Bx.below (w := w5.drew) HE5.out hR HE5.out.lt
                refine Mem.load_agg _ _ entry_agg ge 0 (entCells e) (Reg.eval_of e7) (entCells_length _) (fun j u' hu => by rw [Nat.zero_add]; exact hEu.cell hu) ?_
                exact ⟨rfl, hK _ _ rfl (fun j k _ _ => Reg.Adds.refl _ _ _)⟩
              · intro val ac u hR hp ha K hK
                obtain ⟨w20, h20, r20⟩ := hp 0 (by decide); have e20 : (ac.tmps[20]?).getD undef = .agg (entCells e).toArray := (ha 20 (by decide)).trans h20; clear h20 ha hp
                refine Reg.Op1.plain rfl ?_
                go_wp2_with fail
                refine (refRightE_any e u).mono ?_
                rintro x w' ⟨rfl, hbw⟩
                rw [HRI.out]
                go_wp2_with fail
                exact ⟨rfl, hK _ _ rfl (fun j k _ _ => hbw)⟩
              · intro val ac u hR hp ha K hK
                obtain ⟨w21, h21, r21⟩ := hp 1 (by decide); have e21 : (ac.tmps[21]?).getD undef = .bool true := (ha 21 (by decide)).trans h21; clear h21 ha hp
                refine Reg.Op1.plain rfl ?_
                go_wp2
                exact ⟨rfl, hK _ _ rfl (fun j k _ _ => Reg.Adds.refl _ _ _)⟩
              · intro val ac u hR hp ha K hK
                obtain ⟨w22, h22, r22⟩ := hp 2 (by decide); have e22 : (ac.tmps[22]?).getD undef = .bool false := (ha 22 (by decide)).trans h22; clear h22 ha hp
                refine Reg.Op1.plain rfl ?_
                go_wp2
                exact ⟨rfl, hK _ _ rfl (fun j k _ _ => Reg.Adds.refl _ _ _)⟩
              · intro val ac u hR hp ha K hK
                have e7 : (ac.tmps[7]?).getD undef = .pointer (some ⟨ge, 0, none⟩) := ha 7 (by decide); obtain ⟨w23, h23, r23⟩ := hp 3 (by decide); have e23 : (ac.tmps[23]?).getD undef = .bool false := (ha 23 (by decide)).trans h23; clear h23 ha hp
                refine Reg.Op1.guarded rfl rfl e23 (fun _ => Reg.Op1.plain rfl ?_) (fun h => absurd rfl h)
                go_wp2
                exact ⟨rfl, hK _ _ rfl (fun j k _ _ => Reg.Adds.refl _ _ _)⟩
              · intro val ac u hR hp ha K hK
                obtain ⟨w24, h24, r24⟩ := hp 4 (by decide); have e24 : (ac.tmps[24]?).getD undef = .pointer (some ⟨ge, 0, none⟩) := (ha 24 (by decide)).trans h24; obtain ⟨w23, h23, r23⟩ := hp 3 (by decide); have e23 : (ac.tmps[23]?).getD undef = .bool false := (ha 23 (by decide)).trans h23; clear h24 h23 ha hp
                refine Reg.Op1.guarded rfl rfl e23 (fun _ => Reg.Op1.plain rfl ?_) (fun h => absurd rfl h)
                go_wp2
                exact ⟨rfl, hK _ _ rfl (fun j k _ _ => Reg.Adds.refl _ _ _)⟩
              · intro val ac u hR hp ha K hK
                obtain ⟨w25, h25, r25⟩ := hp 5 (by decide); have e25 : (ac.tmps[25]?).getD undef = .pointer (some ⟨ge, 1, none⟩) := (ha 25 (by decide)).trans h25; obtain ⟨w23, h23, r23⟩ := hp 3 (by decide); have e23 : (ac.tmps[23]?).getD undef = .bool false := (ha 23 (by decide)).trans h23; clear h25 h23 ha hp
                have x0 := (hR.cell (p := ⟨ge, 1, none⟩) HE5.out.lt).trans (HE5.out.cell (j := 1) rfl)
                refine Reg.Op1.guarded rfl rfl e23 (fun _ => Reg.Op1.plain rfl ?_) (fun h => absurd rfl h)
                go_wp2
                exact ⟨rfl, hK _ _ rfl (fun j k _ _ => Reg.Adds.refl _ _ _)⟩
              · intro val ac u hR hp ha K hK
                have e0 : (ac.tmps[0]?).getD undef = .pointer (some ⟨g, 0, none⟩) := ha 0 (by decide); obtain ⟨w23, h23, r23⟩ := hp 3 (by decide); have e23 : (ac.tmps[23]?).getD undef = .bool false := (ha 23 (by decide)).trans h23; clear h23 ha hp
                refine Reg.Op1.guarded rfl rfl e23 (fun _ => Reg.Op1.plain rfl ?_) (fun h => absurd rfl h)
                go_wp2
                exact ⟨rfl, hK _ _ rfl (fun j k _ _ => Reg.Adds.refl _ _ _)⟩
              · intro val ac u hR hp ha K hK
                obtain ⟨w27, h27, r27⟩ := hp 7 (by decide); have e27 : (ac.tmps[27]?).getD undef = .pointer (some ⟨g, 0, none⟩) := (ha 27 (by decide)).trans h27; obtain ⟨w23, h23, r23⟩ := hp 3 (by decide); have e23 : (ac.tmps[23]?).getD undef = .bool false := (ha 23 (by decide)).trans h23; clear h27 h23 ha hp
                refine Reg.Op1.guarded rfl rfl e23 (fun _ => Reg.Op1.plain rfl ?_) (fun h => absurd rfl h)
                go_wp2
                exact ⟨rfl, hK _ _ rfl (fun j k _ _ => Reg.Adds.refl _ _ _)⟩
              · intro val ac u hR hp ha K hK
                obtain ⟨w28, h28, r28⟩ := hp 8 (by decide); have e28 : (ac.tmps[28]?).getD undef = .pointer (some ⟨g, 0, none⟩) := (ha 28 (by decide)).trans h28; obtain ⟨w23, h23, r23⟩ := hp 3 (by decide); have e23 : (ac.tmps[23]?).getD undef = .bool false := (ha 23 (by decide)).trans h23; clear h28 h23 ha hp
                refine Reg.Op1.guarded rfl rfl e23 (fun _ => Reg.Op1.plain rfl ?_) (fun h => absurd rfl h)
                go_wp2
                exact ⟨rfl, hK _ _ rfl (fun j k _ _ => Reg.Adds.refl _ _ _)⟩
              · intro val ac u hR hp ha K hK
                obtain ⟨w29, h29, r29⟩ := hp 9 (by decide); have e29 : (ac.tmps[29]?).getD undef = .pointer (some ⟨g, 0, none⟩) := (ha 29 (by decide)).trans h29; obtain ⟨w23, h23, r23⟩ := hp 3 (by decide); have e23 : (ac.tmps[23]?).getD undef = .bool false := (ha 23 (by decide)).trans h23; clear h29 h23 ha hp
                have x0 := (hR.cell (p := ⟨g, 0, none⟩) HA5.out.B.lt).trans (HA5.out.B.cell (j := 0) rfl)
                refine Reg.Op1.guarded rfl rfl e23 (fun _ => Reg.Op1.plain rfl ?_) (fun h => absurd rfl h)
                go_wp2
                exact ⟨rfl, hK _ _ rfl (fun j k _ _ => Reg.Adds.refl _ _ _)⟩
              · intro val ac u hR hp ha K hK
                obtain ⟨w26, h26, r26⟩ := hp 6 (by decide); have e26 : (ac.tmps[26]?).getD undef = .int .i64 e.rng := (ha 26 (by decide)).trans h26; obtain ⟨w30, h30, r30⟩ := hp 10 (by decide); have e30 : (ac.tmps[30]?).getD undef = .int .i64 rng := (ha 30 (by decide)).trans h30; obtain ⟨w23, h23, r23⟩ := hp 3 (by decide); have e23 : (ac.tmps[23]?).getD undef = .bool false := (ha 23 (by decide)).trans h23; clear h26 h30 h23 ha hp
                have hrr := HRR.out
                refine Reg.Op1.guarded rfl rfl e23 (fun _ => Reg.Op1.plain rfl ?_) (fun h => absurd rfl h)
                go_wp2
                exact ⟨rfl, hK _ _ rfl (fun j k _ _ => Reg.Adds.refl _ _ _)⟩
              · intro val ac u hR hp ha K hK
                obtain ⟨w23, h23, r23⟩ := hp 3 (by decide); have e23 : (ac.tmps[23]?).getD undef = .bool false := (ha 23 (by decide)).trans h23; obtain ⟨w31, h31, r31⟩ := hp 11 (by decide); have e31 : (ac.tmps[31]?).getD undef = .bool true := (ha 31 (by decide)).trans h31; clear h23 h31 ha hp
                refine Reg.Op1.plain rfl ?_
                go_wp2
                exact ⟨rfl, hK _ _ rfl (fun j k _ _ => Reg.Adds.refl _ _ _)⟩
              · intro val ac u hR hp ha K hK
                obtain ⟨w32, h32, r32⟩ := hp 12 (by decide); have e32 : (ac.tmps[32]?).getD undef = .bool true := (ha 32 (by decide)).trans h32; clear h32 ha hp
                refine Reg.Op1.plain rfl ?_
                go_wp2
                exact ⟨rfl, hK _ _ rfl (fun j k _ _ => Reg.Adds.refl _ _ _)⟩
              · intro val ac u hR hp ha K hK; obtain ⟨_, h, _⟩ := hp 13 (by decide); exact Reg.Op1.guarded rfl rfl ((ha 33 (by decide)).trans h) (fun h => by cases h) (fun _ => hK _ _ rfl (fun j k _ _ => Reg.Adds.refl _ _ _))
              · intro val ac u hR hp ha K hK; obtain ⟨_, h, _⟩ := hp 13 (by decide); exact Reg.Op1.guarded rfl rfl ((ha 33 (by decide)).trans h) (fun h => by cases h) (fun _ => hK _ _ rfl (fun j k _ _ => Reg.Adds.refl _ _ _))
              · intro val ac u hR hp ha K hK; obtain ⟨_, h, _⟩ := hp 13 (by decide); exact Reg.Op1.guarded rfl rfl ((ha 33 (by decide)).trans h) (fun h => by cases h) (fun _ => hK _ _ rfl (fun j k _ _ => Reg.Adds.refl _ _ _))
              · intro val ac u hR hp ha K hK; obtain ⟨_, h, _⟩ := hp 13 (by decide); exact Reg.Op1.guarded rfl rfl ((ha 33 (by decide)).trans h) (fun h => by cases h) (fun _ => hK _ _ rfl (fun j k _ _ => Reg.Adds.refl _ _ _))
              · intro val ac u hR hp ha K hK; obtain ⟨_, h, _⟩ := hp 13 (by decide); exact Reg.Op1.guarded rfl rfl ((ha 33 (by decide)).trans h) (fun h => by cases h) (fun _ => hK _ _ rfl (fun j k _ _ => Reg.Adds.refl _ _ _))
              · intro val ac u hR hp ha K hK; obtain ⟨_, h, _⟩ := hp 13 (by decide); exact Reg.Op1.guarded rfl rfl ((ha 33 (by decide)).trans h) (fun h => by cases h) (fun _ => hK _ _ rfl (fun j k _ _ => Reg.Adds.refl _ _ _))
              · intro val ac u hR hp ha K hK
                obtain ⟨w33, h33, r33⟩ := hp 13 (by decide); have e33 : (ac.tmps[33]?).getD undef = .bool true := (ha 33 (by decide)).trans h33; obtain ⟨w39, h39, r39⟩ := hp 19 (by decide); have e39 : (ac.tmps[39]?).getD undef = undef := (ha 39 (by decide)).trans h39; clear h33 h39 ha hp
                refine Reg.Op1.plain rfl ?_
                go_wp2
                exact ⟨rfl, hK _ _ rfl (fun j k _ _ => Reg.Adds.refl _ _ _)⟩
            · intro val u hR H
              obtain ⟨_, hv, _⟩ := H 20 (by decide)
              have hv : val 20 = .bool true := hv
              have HK6 : Hid (Below w5.heap.size w5 u) := (Below.refl _ w5).drew.trans hR
              simp only [List.map_cons, List.map_nil, Reg.lay, Act.put, List.setIfInBounds_toArray, List.set_cons_succ, List.set_cons_zero, Nat.reduceAdd, hv]
              clear hR H hv
              go_wp2
              go_meet
              case rel => exact ⟨by rw [HOK.out], HK6.out⟩
      case rest =>
        obtain ⟨rfl, hbc⟩ := hcut
        have HA6 := Lib.hid (HA5.out.below hbc)
        have HE6 : Hid (EBx wc ge e) := HE5.out.below hbc HE5.out.lt
        have HB6 : Hid (Below wk.heap.size wk wc) := HB5.out.trans (hbc.mono HB5.out.size)
        clear hbc HA5 HE5 HB5
        rename World => w5
        cases hok : rOk rng mk e with
        | false =>
          have HTS2 : Hid (rPut rng mk es0 (news.take (k + 1)) = (es, n)) := by show _ = _; rw [HTS.out]; unfold rStep; rw [if_neg (by simp [hok])]
          clear hok
          go_wp2
          go_roundw
          case rel => exact ⟨⟨k + 1, A, c, es, n, by omega, by omega, by omega, HTS2, rfl, by go_num, HA6, HK.out.trans (Mem.Keeps.of_below HB6.out) (fun _ h _ => h.elim), HQ⟩⟩
          case measure => simp [intOf]; omega
        | true =>
          have HOK := Lib.hid hok
          clear hok
          go_wp2
          go_loopw [8, 9] (RtRel w5 es e) (fun _ t _ => es.length - (intOf t).toNat)
          case atStart => exact ⟨⟨0, Nat.zero_le _, rfl, rfl, Below.refl _ _⟩⟩
          case round =>
            obtain ⟨m, hm, rfl, rfl, HBm⟩ := hrel.out
            have HAm := Lib.hid (HA6.out.below HBm.out)
            have HEm : Hid (EBx wr ge e) := HE6.out.below HBm.out HE6.out.lt
            have x1 := HAm.out.B.cell (j := 1) rfl
            by_cases hltm : m < es.length
            · obtain ⟨bx, ox, x, rfl, hbx, hex, hatx⟩ := ent_elem HAm.out.O.rd hltm
              have HATx := Lib.hid hatx
              have htn := rThere_snoc (e := e) hex
              obtain ⟨t1, ht1⟩ : ∃ t1, rThere (es.take m) e = t1 := ⟨_, rfl⟩
              obtain ⟨qd, hqd⟩ : ∃ qd, eqD x (dotE e) = qd := ⟨_, rfl⟩
              rw [ht1, hqd] at htn
              have hE := eql_dt x (dotE e)
              rw [hqd] at hE
              unfold dotE at hE
              dsimp only at hE
              have HEQ := Lib.hid hE
              rw [ht1]
              clear hatx hex ht1 hqd hE hrel
              go_upto_region 11 with fail
              clear x1
              cases t1
              · have HTn : Hid (Value.bool qd = .bool (rThere (es.take (m + 1)) e)) := by show _ = _; rw [htn]; rfl
                clear htn
                refine Reg.wp_region_rel (by kernel_rfl) 79 15 rfl rfl (by kernel_rfl) (Reg.Adds) (Reg.Adds.refl) (Reg.Adds.trans)
                  (fun i v u => match i with
                    | 0 => v = .bool false
                    | 1 => v = .bool false
                    | 2 => v = .pointer (some ⟨g, 0, none⟩)
                    | 3 => v = .pointer (some ⟨g, 0, none⟩)
                    | 4 => v = .pointer (some ⟨g, 1, none⟩)
                    | 5 => v = .slice (some ⟨bx, ox, none⟩) es.length c
                    | 6 => v = .int .i64 m
                    | 7 => v = .pointer (some ⟨bx, ox + m * 20, none⟩)
                    | 8 => v = .pointer (some ⟨bx, ox + m * 20, none⟩)
                    | 9 => v = .agg #[.int .i64 x.dc, .int .i64 x.rng, .int .i64 x.seq]
                    | 10 => v = .pointer (some ⟨ge, 0, none⟩)
                    | 11 => v = .agg #[.int .i64 e.dc, .int .i64 e.rng, .int .i64 e.seq]
                    | 12 => v = .bool qd
                    | 13 => v = .bool qd
                    | 14 => v = .bool qd
                    | _ => True) ?_ ?_
                · refine Reg.Steps.cons ?_ (Reg.Steps.cons ?_ (Reg.Steps.cons ?_ (Reg.Steps.cons ?_ (Reg.Steps.cons ?_ (Reg.Steps.cons ?_ (Reg.Steps.cons ?_ (Reg.Steps.cons ?_ (Reg.Steps.cons ?_ (Reg.Steps.cons ?_ (Reg.Steps.cons ?_ (Reg.Steps.cons ?_ (Reg.Steps.cons ?_ (Reg.Steps.cons ?_ (Reg.Steps.cons ?_ (Reg.Steps.nil _)))))))))))))))
                  · intro val ac u hR hp ha K hK
                    have e8 : (ac.tmps[8]?).getD undef = .bool false := ha 8 (by decide); clear ha hp
                    refine Reg.Op1.plain rfl ?_
                    go_wp2
                    exact ⟨rfl, hK _ _ rfl (fun j k _ _ => Reg.Adds.refl _ _ _)⟩
                  · intro val ac u hR hp ha K hK
                    obtain ⟨w50, h50, r50⟩ := hp 0 (by decide); have e50 : (ac.tmps[50]?).getD undef = .bool false := (ha 50 (by decide)).trans h50; clear h50 ha hp
                    refine Reg.Op1.plain rfl ?_
                    go_wp2
                    exact ⟨rfl, hK _ _ rfl (fun j k _ _ => Reg.Adds.refl _ _ _)⟩
                  · intro val ac u hR hp ha K hK
                    have e0 : (ac.tmps[0]?).getD undef = .pointer (some ⟨g, 0, none⟩) := ha 0 (by decide); obtain ⟨w51, h51, r51⟩ := hp 1 (by decide); have e51 : (ac.tmps[51]?).getD undef = .bool false := (ha 51 (by decide)).trans h51; clear h51 ha hp
                    refine Reg.Op1.guarded rfl rfl e51 (fun _ => Reg.Op1.plain rfl ?_) (fun h => absurd rfl h)
                    go_wp2
                    exact ⟨rfl, hK _ _ rfl (fun j k _ _ => Reg.Adds.refl _ _ _)⟩
                  · intro val ac u hR hp ha K hK
                    obtain ⟨w52, h52, r52⟩ := hp 2 (by decide); have e52 : (ac.tmps[52]?).getD undef = .pointer (some ⟨g, 0, none⟩) := (ha 52 (by decide)).trans h52; obtain ⟨w51, h51, r51⟩ := hp 1 (by decide); have e51 : (ac.tmps[51]?).getD undef = .bool false := (ha 51 (by decide)).trans h51; clear h52 h51 ha hp
                    refine Reg.Op1.guarded rfl rfl e51 (fun _ => Reg.Op1.plain rfl ?_) (fun h => absurd rfl h)
                    go_wp2
                    exact ⟨rfl, hK _ _ rfl (fun j k _ _ => Reg.Adds.refl _ _ _)⟩
                  · intro val ac u hR hp ha K hK
                    obtain ⟨w53, h53, r53⟩ := hp 3 (by decide); have e53 : (ac.tmps[53]?).getD undef = .pointer (some ⟨g, 0, none⟩) := (ha 53 (by decide)).trans h53; obtain ⟨w51, h51, r51⟩ := hp 1 (by decide); have e51 : (ac.tmps[51]?).getD undef = .bool false := (ha 51 (by decide)).trans h51; clear h53 h51 ha hp
                    refine Reg.Op1.guarded rfl rfl e51 (fun _ => Reg.Op1.plain rfl ?_) (fun h => absurd rfl h)
                    go_wp2
                    exact ⟨rfl, hK _ _ rfl (fun j k _ _ => Reg.Adds.refl _ _ _)⟩
                  · intro val ac u hR hp ha K hK
                    obtain ⟨w54, h54, r54⟩ := hp 4 (by decide); have e54 : (ac.tmps[54]?).getD undef = .pointer (some ⟨g, 1, none⟩) := (ha 54 (by decide)).trans h54; obtain ⟨w51, h51, r51⟩ := hp 1 (by decide); have e51 : (ac.tmps[51]?).getD undef = .bool false := (ha 51 (by decide)).trans h51; clear h54 h51 ha hp
                    have x0 := (hR.cell (p := ⟨g, 1, none⟩) HAm.out.B.lt).trans (HAm.out.B.cell (j := 1) rfl)
                    refine Reg.Op1.guarded rfl rfl e51 (fun _ => Reg.Op1.plain rfl ?_) (fun h => absurd rfl h)
                    go_wp2
                    exact ⟨rfl, hK _ _ rfl (fun j k _ _ => Reg.Adds.refl _ _ _)⟩
                  · intro val ac u hR hp ha K hK
                    have e9 : (ac.tmps[9]?).getD undef = .int .i64 m := ha 9 (by decide); obtain ⟨w51, h51, r51⟩ := hp 1 (by decide); have e51 : (ac.tmps[51]?).getD undef = .bool false := (ha 51 (by decide)).trans h51; clear h51 ha hp
                    refine Reg.Op1.guarded rfl rfl e51 (fun _ => Reg.Op1.plain rfl ?_) (fun h => absurd rfl h)
                    go_wp2
                    exact ⟨rfl, hK _ _ rfl (fun j k _ _ => Reg.Adds.refl _ _ _)⟩
                  · intro val ac u hR hp ha K hK
                    obtain ⟨w55, h55, r55⟩ := hp 5 (by decide); have e55 : (ac.tmps[55]?).getD undef = .slice (some ⟨bx, ox, none⟩) es.length c := (ha 55 (by decide)).trans h55; obtain ⟨w56, h56, r56⟩ := hp 6 (by decide); have e56 : (ac.tmps[56]?).getD undef = .int .i64 m := (ha 56 (by decide)).trans h56; obtain ⟨w51, h51, r51⟩ := hp 1 (by decide); have e51 : (ac.tmps[51]?).getD undef = .bool false := (ha 51 (by decide)).trans h51; clear h55 h56 h51 ha hp
                    refine Reg.Op1.guarded rfl rfl e51 (fun _ => Reg.Op1.plain rfl ?_) (fun h => absurd rfl h)
                    go_wp2
                    exact ⟨rfl, hK _ _ rfl (fun j k _ _ => Reg.Adds.refl _ _ _)⟩
                  · intro val ac u hR hp ha K hK
                    obtain ⟨w57, h57, r57⟩ := hp 7 (by decide); have e57 : (ac.tmps[57]?).getD undef = .pointer (some ⟨bx, ox + m * 20, none⟩) := (ha 57 (by decide)).trans h57; obtain ⟨w51, h51, r51⟩ := hp 1 (by decide); have e51 : (ac.tmps[51]?).getD undef = .bool false := (ha 51 (by decide)).trans h51; clear h57 h51 ha hp
                    refine Reg.Op1.guarded rfl rfl e51 (fun _ => Reg.Op1.plain rfl ?_) (fun h => absurd rfl h)
                    go_wp2
                    exact ⟨rfl, hK _ _ rfl (fun j k _ _ => Reg.Adds.refl _ _ _)⟩
                  · intro val ac u hR hp ha K hK
                    obtain ⟨w58, h58, r58⟩ := hp 8 (by decide); have e58 : (ac.tmps[58]?).getD undef = .pointer (some ⟨bx, ox + m * 20, none⟩) := (ha 58 (by decide)).trans h58; obtain ⟨w51, h51, r51⟩ := hp 1 (by decide); have e51 : (ac.tmps[51]?).getD undef = .bool false := (ha 51 (by decide)).trans h51; clear h58 h51 ha hp
                    have z0 := (hR.cell (p := ⟨bx, ox + m * 20, none⟩) hbx).trans (HATx.out.c 0 _ rfl)
                    have z1 := (hR.cell (p := ⟨bx, ox + m * 20 + 1, none⟩) hbx).trans (HATx.out.c 1 _ rfl)
                    have z2 := (hR.cell (p := ⟨bx, ox + m * 20 + 2, none⟩) hbx).trans (HATx.out.c 2 _ rfl)
                    refine Reg.Op1.guarded rfl rfl e51 (fun _ => Reg.Op1.plain rfl ?_) (fun h => absurd rfl h)
                    go_wp2
                    exact ⟨rfl, hK _ _ rfl (fun j k _ _ => Reg.Adds.refl _ _ _)⟩
                  · intro val ac u hR hp ha K hK
                    have e7 : (ac.tmps[7]?).getD undef = .pointer (some ⟨ge, 0, none⟩) := ha 7 (by decide); obtain ⟨w51, h51, r51⟩ := hp 1 (by decide); have e51 : (ac.tmps[51]?).getD undef = .bool false := (ha 51 (by decide)).trans h51; clear h51 ha hp
                    refine Reg.Op1.guarded rfl rfl e51 (fun _ => Reg.Op1.plain rfl ?_) (fun h => absurd rfl h)
                    go_wp2
                    exact ⟨rfl, hK _ _ rfl (fun j k _ _ => Reg.Adds.refl _ _ _)⟩
                  · intro val ac u hR hp ha K hK
                    obtain ⟨w60, h60, r60⟩ := hp 10 (by decide); have e60 : (ac.tmps[60]?).getD undef = .pointer (some ⟨ge, 0, none⟩) := (ha 60 (by decide)).trans h60; obtain ⟨w51, h51, r51⟩ := hp 1 (by decide); have e51 : (ac.tmps[51]?).getD undef = .bool false := (ha 51 (by decide)).trans h51; clear h60 h51 ha hp
                    have z0 := (hR.cell (p := ⟨ge, 0, none⟩) HEm.out.lt).trans (HEm.out.cell (j := 0) rfl)
                    have z1 := (hR.cell (p := ⟨ge, 1, none⟩) HEm.out.lt).trans (HEm.out.cell (j := 1) rfl)
                    have z2 := (hR.cell (p := ⟨ge, 2, none⟩) HEm.out.lt).trans (HEm.out.cell (j := 2) rfl)
                    refine Reg.Op1.guarded rfl rfl e51 (fun _ => Reg.Op1.plain rfl ?_) (fun h => absurd rfl h)
                    go_wp2
                    exact ⟨rfl, hK _ _ rfl (fun j k _ _ => Reg.Adds.refl _ _ _)⟩
                  · intro val ac u hR hp ha K hK
                    obtain ⟨w59, h59, r59⟩ := hp 9 (by decide); have e59 : (ac.tmps[59]?).getD undef = .agg #[.int .i64 x.dc, .int .i64 x.rng, .int .i64 x.seq] := (ha 59 (by decide)).trans h59; obtain ⟨w61, h61, r61⟩ := hp 11 (by decide); have e61 : (ac.tmps[61]?).getD undef = .agg #[.int .i64 e.dc, .int .i64 e.rng, .int .i64 e.seq] := (ha 61 (by decide)).trans h61; obtain ⟨w51, h51, r51⟩ := hp 1 (by decide); have e51 : (ac.tmps[51]?).getD undef = .bool false := (ha 51 (by decide)).trans h51; clear h59 h61 h51 ha hp
                    have e1 := HEQ.out
                    refine Reg.Op1.guarded rfl rfl e51 (fun _ => Reg.Op1.plain rfl ?_) (fun h => absurd rfl h)
                    go_wp2
                    exact ⟨rfl, hK _ _ rfl (fun j k _ _ => Reg.Adds.refl _ _ _)⟩
                  · intro val ac u hR hp ha K hK
                    obtain ⟨w51, h51, r51⟩ := hp 1 (by decide); have e51 : (ac.tmps[51]?).getD undef = .bool false := (ha 51 (by decide)).trans h51; obtain ⟨w62, h62, r62⟩ := hp 12 (by decide); have e62 : (ac.tmps[62]?).getD undef = .bool qd := (ha 62 (by decide)).trans h62; clear h51 h62 ha hp
                    refine Reg.Op1.plain rfl ?_
                    go_wp2
                    exact ⟨rfl, hK _ _ rfl (fun j k _ _ => Reg.Adds.refl _ _ _)⟩
                  · intro val ac u hR hp ha K hK
                    obtain ⟨w63, h63, r63⟩ := hp 13 (by decide); have e63 : (ac.tmps[63]?).getD undef = .bool qd := (ha 63 (by decide)).trans h63; clear h63 ha hp
                    refine Reg.Op1.plain rfl ?_
                    go_wp2
                    exact ⟨rfl, hK _ _ rfl (fun j k _ _ => Reg.Adds.refl _ _ _)⟩
                · intro val u hR H
                  obtain ⟨_, hv, _⟩ := H 14 (by decide)
                  have hv : val 14 = .bool qd := hv
                  have HKu : Hid (Below w5.heap.size w5 u) := HBm.out.trans (((Below.refl _ wr).drew.trans hR).mono HBm.out.size)
                  simp only [List.map_cons, List.map_nil, Reg.lay, Act.put, List.setIfInBounds_toArray, List.set_cons_succ, List.set_cons_zero, Nat.reduceAdd, hv]
                  clear hR H hv
                  go_wp2
                  go_roundw
                  case rel => exact ⟨⟨m + 1, hltm, HTn.out, by go_num, HKu⟩⟩
                  case measure => simp [intOf]; omega
              · have HTn : Hid (Value.bool true = .bool (rThere (es.take (m + 1)) e)) := by show _ = _; rw [htn]; rfl
                clear htn
                refine Reg.wp_region_rel (by kernel_rfl) 79 15 rfl rfl (by kernel_rfl) (Reg.Adds) (Reg.Adds.refl) (Reg.Adds.trans)
                  (fun i v u => match i with
                    | 0 => v = .bool true
                    | 1 => v = .bool true
                    | 2 => v = undef
                    | 3 => v = undef
                    | 4 => v = undef
                    | 5 => v = undef
                    | 6 => v = undef
                    | 7 => v = undef
                    | 8 => v = undef
                    | 9 => v = undef
                    | 10 => v = undef
                    | 11 => v = undef
                    | 12 => v = undef
                    | 13 => v = .bool true
                    | 14 => v = .bool true
                    | _ => True) ?_ ?_
                · refine Reg.Steps.cons ?_ (Reg.Steps.cons ?_ (Reg.Steps.cons ?_ (Reg.Steps.cons ?_ (Reg.Steps.cons ?_ (Reg.Steps.cons ?_ (Reg.Steps.cons ?_ (Reg.Steps.cons ?_ (Reg.Steps.cons ?_ (Reg.Steps.cons ?_ (Reg.Steps.cons ?_ (Reg.Steps.cons ?_ (Reg.Steps.cons ?_ (Reg.Steps.cons ?_ (Reg.Steps.cons ?_ (Reg.Steps.nil _)))))))))))))))
                  · intro val ac u hR hp ha K hK
                    have e8 : (ac.tmps[8]?).getD undef = .bool true := ha 8 (by decide); clear ha hp
                    refine Reg.Op1.plain rfl ?_
                    go_wp2
                    exact ⟨rfl, hK _ _ rfl (fun j k _ _ => Reg.Adds.refl _ _ _)⟩
                  · intro val ac u hR hp ha K hK
                    obtain ⟨w50, h50, r50⟩ := hp 0 (by decide); have e50 : (ac.tmps[50]?).getD undef = .bool true := (ha 50 (by decide)).trans h50; clear h50 ha hp
                    refine Reg.Op1.plain rfl ?_
                    go_wp2
                    exact ⟨rfl, hK _ _ rfl (fun j k _ _ => Reg.Adds.refl _ _ _)⟩
                  · intro val ac u hR hp ha K hK; obtain ⟨_, h, _⟩ := hp 1 (by decide); exact Reg.Op1.guarded rfl rfl ((ha 51 (by decide)).trans h) (fun h => by cases h) (fun _ => hK _ _ rfl (fun j k _ _ => Reg.Adds.refl _ _ _))
                  · intro val ac u hR hp ha K hK; obtain ⟨_, h, _⟩ := hp 1 (by decide); exact Reg.Op1.guarded rfl rfl ((ha 51 (by decide)).trans h) (fun h => by cases h) (fun _ => hK _ _ rfl (fun j k _ _ => Reg.Adds.refl _ _ _))
                  · intro val ac u hR hp ha K hK; obtain ⟨_, h, _⟩ := hp 1 (by decide); exact Reg.Op1.guarded rfl rfl ((ha 51 (by decide)).trans h) (fun h => by cases h) (fun _ => hK _ _ rfl (fun j k _ _ => Reg.Adds.refl _ _ _))
                  · intro val ac u hR hp ha K hK; obtain ⟨_, h, _⟩ := hp 1 (by decide); exact Reg.Op1.guarded rfl rfl ((ha 51 (by decide)).trans h) (fun h => by cases h) (fun _ => hK _ _ rfl (fun j k _ _ => Reg.Adds.refl _ _ _))
                  · intro val ac u hR hp ha K hK; obtain ⟨_, h, _⟩ := hp 1 (by decide); exact Reg.Op1.guarded rfl rfl ((ha 51 (by decide)).trans h) (fun h => by cases h) (fun _ => hK _ _ rfl (fun j k _ _ => Reg.Adds.refl _ _ _))
                  · intro val ac u hR hp ha K hK; obtain ⟨_, h, _⟩ := hp 1 (by decide); exact Reg.Op1.guarded rfl rfl ((ha 51 (by decide)).trans h) (fun h => by cases h) (fun _ => hK _ _ rfl (fun j k _ _ => Reg.Adds.refl _ _ _))
                  · intro val ac u hR hp ha K hK; obtain ⟨_, h, _⟩ := hp 1 (by decide); exact Reg.Op1.guarded rfl rfl ((ha 51 (by decide)).trans h) (fun h => by cases h) (fun _ => hK _ _ rfl (fun j k _ _ => Reg.Adds.refl _ _ _))
                  · intro val ac u hR hp ha K hK; obtain ⟨_, h, _⟩ := hp 1 (by decide); exact Reg.Op1.guarded rfl rfl ((ha 51 (by decide)).trans h) (fun h => by cases h) (fun _ => hK _ _ rfl (fun j k _ _ => Reg.Adds.refl _ _ _))
                  · intro val ac u hR hp ha K hK; obtain ⟨_, h, _⟩ := hp 1 (by decide); exact Reg.Op1.guarded rfl rfl ((ha 51 (by decide)).trans h) (fun h => by cases h) (fun _ => hK _ _ rfl (fun j k _ _ => Reg.Adds.refl _ _ _))
                  · intro val ac u hR hp ha K hK; obtain ⟨_, h, _⟩ := hp 1 (by decide); exact Reg.Op1.guarded rfl rfl ((ha 51 (by decide)).trans h) (fun h => by cases h) (fun _ => hK _ _ rfl (fun j k _ _ => Reg.Adds.refl _ _ _))
                  · intro val ac u hR hp ha K hK; obtain ⟨_, h, _⟩ := hp 1 (by decide); exact Reg.Op1.guarded rfl rfl ((ha 51 (by decide)).trans h) (fun h => by cases h) (fun _ => hK _ _ rfl (fun j k _ _ => Reg.Adds.refl _ _ _))
                  · intro val ac u hR hp ha K hK
                    obtain ⟨w51, h51, r51⟩ := hp 1 (by decide); have e51 : (ac.tmps[51]?).getD undef = .bool true := (ha 51 (by decide)).trans h51; obtain ⟨w62, h62, r62⟩ := hp 12 (by decide); have e62 : (ac.tmps[62]?).getD undef = undef := (ha 62 (by decide)).trans h62; clear h51 h62 ha hp
                    refine Reg.Op1.plain rfl ?_
                    go_wp2
                    exact ⟨rfl, hK _ _ rfl (fun j k _ _ => Reg.Adds.refl _ _ _)⟩
                  · intro val ac u hR hp ha K hK
                    obtain ⟨w63, h63, r63⟩ := hp 13 (by decide); have e63 : (ac.tmps[63]?).getD undef = .bool true := (ha 63 (by decide)).trans h63; clear h63 ha hp
                    refine Reg.Op1.plain rfl ?_
                    go_wp2
                    exact ⟨rfl, hK _ _ rfl (fun j k _ _ => Reg.Adds.refl _ _ _)⟩
                · intro val u hR H
                  obtain ⟨_, hv, _⟩ := H 14 (by decide)
                  have hv : val 14 = .bool true := hv
                  have HKu : Hid (Below w5.heap.size w5 u) := HBm.out.trans (((Below.refl _ wr).drew.trans hR).mono HBm.out.size)
                  simp only [List.map_cons, List.map_nil, Reg.lay, Act.put, List.setIfInBounds_toArray, List.set_cons_succ, List.set_cons_zero, Nat.reduceAdd, hv]
                  clear hR H hv
                  go_wp2
                  go_roundw
                  case rel => exact ⟨⟨m + 1, hltm, HTn.out, by go_num, HKu⟩⟩
                  case measure => simp [intOf]; omega
            · obtain rfl : m = es.length := by omega
              rw [List.take_length]
              obtain ⟨th, hth2⟩ : ∃ th, rThere es e = th := ⟨_, rfl⟩
              rw [hth2]
              clear hrel HE6 HA6 hm hltm
              go_upto_region 12 with fail
              clear x1
              have HE6 := HEm
              have HA6 := HAm
              have HB6' : Hid (Below wk.heap.size wk wr) := HB6.out.trans (HBm.out.mono HB6.out.size)
              clear HB6 HEm HAm
              have HB6 := HB6'
              clear HB6' HBm
              obtain ⟨w6, hw6⟩ : ∃ z, z = wr := ⟨_, rfl⟩
              subst hw6
              cases th with
              | true =>
                have HTS2 : Hid (rPut rng mk es0 (news.take (k + 1)) = (es, n)) := by show _ = _; rw [HTS.out]; unfold rStep; rw [if_neg (by rw [hth2]; simp)]
                clear hth2
                go_wp2
                go_roundw
                case rel => exact ⟨⟨k + 1, A, c, es, n, by omega, by omega, by omega, HTS2, rfl, by go_num, HA6, HK.out.trans (Mem.Keeps.of_below HB6.out) (fun _ h _ => h.elim), HQ⟩⟩
                case measure => simp [intOf]; omega
              | false =>
                have HTS2 : Hid (rPut rng mk es0 (news.take (k + 1)) = (es ++ [e], n + 1)) := by show _ = _; rw [HTS.out]; unfold rStep; rw [if_pos ⟨HOK.out, hth2⟩]
                have hne6 := HA6.out.ne
                have hll : (es ++ [e]).length = es.length + 1 := by simp
                have HLL := Lib.hid hll
                have HNE6 := Lib.hid hne6
                clear HTS hth2 hll hne6
                go_upto_region 13 with fail
                refine Reg.wp_region_w (by kernel_rfl) 79 11 rfl rfl (by kernel_rfl) (7) (fun y => Mem.blk A = some y) (10) (fun y => y = g) (0) (fun _ => False)
                  (fun i v u => match i with
                    | 0 => v = .pointer (some ⟨g, 0, none⟩)
                    | 1 => v = .pointer (some ⟨g, 0, none⟩)
                    | 2 => v = .pointer (some ⟨g, 0, none⟩)
                    | 3 => v = .pointer (some ⟨g, 1, none⟩)
                    | 4 => v = .slice A es.length c
                    | 5 => v = .agg (entCells e).toArray
                    | 6 => ∃ s, v = .slice (some ⟨s, 0, none⟩) 1 1 ∧ Mem.Rd u (s + 1) (some ⟨s, 0, none⟩) (entCells e) ∧ s + 1 ≤ u.heap.size
                    | 7 => ∃ A2 c2, v = .slice A2 (es.length + 1) c2 ∧ Mem.Own u 40 20 A2 (es.length + 1) c2 (es.flatMap entCells ++ entCells e) ∧ (A2 = A ∨ Mem.From w6.heap.size A2)
                    | 8 => v = .pointer (some ⟨g, 0, none⟩)
                    | 9 => v = .pointer (some ⟨g, 1, none⟩)
                    | 10 => ∃ A2 c2, RAt u g A2 c2 rng mk (es ++ [e]) ∧ (A2 = A ∨ Mem.From w6.heap.size A2)
                    | _ => True) ?_ ?_
                · refine Reg.Steps.cons ?_ (Reg.Steps.cons ?_ (Reg.Steps.cons ?_ (Reg.Steps.cons ?_ (Reg.Steps.cons ?_ (Reg.Steps.cons ?_ (Reg.Steps.cons ?_ (Reg.Steps.cons ?_ (Reg.Steps.cons ?_ (Reg.Steps.cons ?_ (Reg.Steps.cons ?_ (Reg.Steps.nil _)))))))))))
                  · intro val ac u hR hp ha K hK
                    have e0 : (ac.tmps[0]?).getD undef = .pointer (some ⟨g, 0, none⟩) := ha 0 (by decide); clear ha hp
                    refine Reg.Op1.plain rfl ?_
                    go_wp2
                    exact ⟨rfl, hK _ _ rfl (Reg.Wr.same _)⟩
                  · intro val ac u hR hp ha K hK
                    have e0 : (ac.tmps[0]?).getD undef = .pointer (some ⟨g, 0, none⟩) := ha 0 (by decide); clear ha hp
                    refine Reg.Op1.plain rfl ?_
                    go_wp2
                    exact ⟨rfl, hK _ _ rfl (Reg.Wr.same _)⟩
                  · intro val ac u hR hp ha K hK
                    obtain ⟨w67, h67, r67⟩ := hp 1 (by decide); have e67 : (ac.tmps[67]?).getD undef = .pointer (some ⟨g, 0, none⟩) := (ha 67 (by decide)).trans h67; clear h67 ha hp
                    refine Reg.Op1.plain rfl ?_
                    go_wp2
                    exact ⟨rfl, hK _ _ rfl (Reg.Wr.same _)⟩
                  · intro val ac u hR hp ha K hK
                    obtain ⟨w68, h68, r68⟩ := hp 2 (by decide); have e68 : (ac.tmps[68]?).getD undef = .pointer (some ⟨g, 0, none⟩) := (ha 68 (by decide)).trans h68; clear h68 ha hp
                    refine Reg.Op1.plain rfl ?_
                    go_wp2
                    exact ⟨rfl, hK _ _ rfl (Reg.Wr.same _)⟩
                  · intro val ac u hR hp ha K hK
                    obtain ⟨w69, h69, r69⟩ := hp 3 (by decide); have e69 : (ac.tmps[69]?).getD undef = .pointer (some ⟨g, 1, none⟩) := (ha 69 (by decide)).trans h69; clear h69 ha hp
                    refine Reg.Op1.plain rfl ?_
                    have hq : Mem.Keeps (fun _ => False) w6 u := (Mem.Keeps.refl (fun _ => False) w6).drew.trans (Reg.Wr.only3 hR (by decide +kernel) (by decide +kernel)) (fun _ h _ => h)
                    have x1 := (HA6.out.B.keeps hq id).cell (j := 1) rfl
                    go_wp2
                    exact ⟨rfl, hK _ _ rfl (Reg.Wr.same _)⟩
                  · intro val ac u hR hp ha K hK
                    have e7 : (ac.tmps[7]?).getD undef = .pointer (some ⟨ge, 0, none⟩) := ha 7 (by decide); clear ha hp
                    refine Reg.Op1.plain rfl ?_
                    have hq : Mem.Keeps (fun _ => False) w6 u := (Mem.Keeps.refl (fun _ => False) w6).drew.trans (Reg.Wr.only3 hR (by decide +kernel) (by decide +kernel)) (fun _ h _ => h)
                    have hEu : EBx u ge e := HE6.out.keeps hq id
                    refine Mem.load_agg _ _ entry_agg ge 0 (entCells e) (Reg.eval_of e7) (entCells_length _) (fun j u' hu => by rw [Nat.zero_add]; exact hEu.cell hu) ?_
                    exact ⟨rfl, hK _ _ rfl (Reg.Wr.same _)⟩
                  · intro val ac u hR hp ha K hK
                    obtain ⟨w71, h71, r71⟩ := hp 5 (by decide); have e71 : (ac.tmps[71]?).getD undef = .agg (entCells e).toArray := (ha 71 (by decide)).trans h71; clear h71 ha hp
                    refine Reg.Op1.plain rfl ?_
                    refine Mem.build1_agg _ _ 20 _ Try.underlying22 entry_zero (by decide) (by decide) (entCells e) (Reg.eval_of e71) (entCells_length e) ?_
                    exact ⟨rfl, hK _ _ ⟨u.heap.size, rfl, Mem.Rd.alloc_new u _ _ _ rfl, by simp⟩ (Reg.Wr.quiet ((Mem.Keeps.refl _ u).alloc _))⟩
                  · intro val ac u hR hp ha K hK
                    obtain ⟨w70, h70, r70⟩ := hp 4 (by decide); have e70 : (ac.tmps[70]?).getD undef = .slice A es.length c := (ha 70 (by decide)).trans h70; obtain ⟨w72, h72, r72⟩ := hp 6 (by decide); have e72 : (ac.tmps[72]?).getD undef = val 6 := ha 72 (by decide); clear h70 ha hp
                    refine Reg.Op1.plain rfl ?_
                    obtain ⟨s, hv, hrd, hsz⟩ := h72
                    rw [hv] at e72
                    have hq : Mem.Keeps (fun _ => False) w6 u := (Mem.Keeps.refl (fun _ => False) w6).drew.trans (Reg.Wr.only3 hR (by decide +kernel) (by decide +kernel)) (fun _ h _ => h)
                    have ho := HA6.out.O.keeps hq (fun _ _ h => h)
                    have hrd' := hrd.keeps (Reg.Wr.only3 r72 (by decide +kernel) (by decide +kernel)) (fun _ h => h.elim) hsz
                    refine Mem.wpList_app u rfl (.tmp 70) (.tmp 72) _ rfl entries_elem A es.length c _ (Reg.eval_of e70) (s + 1) (some ⟨s, 0, none⟩) 1 1 (entCells e) (Reg.eval_of e72) ?_ ho hrd' rfl (ent_one e) (by unfold maxLen; omega) (by omega)
                    intro A2 c2 w' hown hgr hat
                    exact ⟨rfl, hK _ _ ⟨A2, c2, rfl, hown, hat.elim .inl (fun h => .inr (by rw [h]; exact Mem.From.some_ hq.size))⟩ (Reg.Wr.does1 ((Mem.Keeps.refl _ u).grown hgr (fun k h _ => h)))⟩
                  · intro val ac u hR hp ha K hK
                    obtain ⟨w66, h66, r66⟩ := hp 0 (by decide); have e66 : (ac.tmps[66]?).getD undef = .pointer (some ⟨g, 0, none⟩) := (ha 66 (by decide)).trans h66; clear h66 ha hp
                    refine Reg.Op1.plain rfl ?_
                    go_wp2
                    exact ⟨rfl, hK _ _ rfl (Reg.Wr.same _)⟩
                  · intro val ac u hR hp ha K hK
                    obtain ⟨w74, h74, r74⟩ := hp 8 (by decide); have e74 : (ac.tmps[74]?).getD undef = .pointer (some ⟨g, 0, none⟩) := (ha 74 (by decide)).trans h74; clear h74 ha hp
                    refine Reg.Op1.plain rfl ?_
                    go_wp2
                    exact ⟨rfl, hK _ _ rfl (Reg.Wr.same _)⟩
                  · intro val ac u hR hp ha K hK
                    obtain ⟨w75, h75, r75⟩ := hp 9 (by decide); have e75 : (ac.tmps[75]?).getD undef = .pointer (some ⟨g, 1, none⟩) := (ha 75 (by decide)).trans h75; obtain ⟨w73, h73, r73⟩ := hp 7 (by decide); have e73 : (ac.tmps[73]?).getD undef = val 7 := ha 73 (by decide); clear h75 ha hp
                    refine Reg.Op1.plain rfl ?_
                    obtain ⟨A2, c2, hv, hown, hat⟩ := h73
                    rw [hv] at e73
                    have hq : Mem.Keeps (fun y => Mem.blk A = some y ∨ False) w6 u := (Mem.Keeps.refl (fun y => Mem.blk A = some y ∨ False) w6).drew.trans (Reg.Wr.not2 hR (by decide +kernel)) (fun _ h _ => h)
                    have hB := HA6.out.B.keeps hq (fun h => h.elim (fun h => HNE6.out g h rfl) id)
                    have ho := hown.keeps (Reg.Wr.only3 r73 (by decide +kernel) (by decide +kernel)) (fun _ _ h => h)
                    have x1 := hB.cell (j := 1) rfl
                    have xf := hB.fr
                    have hn2 : ∀ k, Mem.blk A2 = some k → k ≠ g := by
                      intro k hk
                      rcases hat with rfl | hf
                      · exact HNE6.out k hk
                      · have h1 := hf.blk k hk
                        have h2 := HA6.out.B.lt
                        omega
                    have hset := RAt.set (es' := es ++ [e]) hB (by show Mem.Own _ _ _ _ _ _ _; rw [HLL.out, List.flatMap_append]; simpa using ho) hn2
                    rw [HLL.out] at hset
                    have HSET := Lib.hid hset
                    clear hset ho hown hB
                    go_wp2
                    exact ⟨rfl, hK undef _ ⟨A2, c2, HSET.out, hat⟩ (Reg.Wr.does2 ((Mem.Keeps.refl (fun y => y = g) u).setCell (p := ⟨g, 1, none⟩) (fun _ => rfl) _))⟩
                · intro val u hR H
                  obtain ⟨w7, ⟨A2, c2, hA7, hat⟩, r7⟩ := H 10 (by decide)
                  have hq : Mem.Keeps (fun y => Mem.blk A = some y ∨ y = g ∨ False) w6 u := (Mem.Keeps.refl (fun y => Mem.blk A = some y ∨ y = g ∨ False) w6).drew.trans (Reg.Wr.all hR) (fun _ h _ => h)
                  have HA8 := Lib.hid (hA7.keeps (Reg.Wr.only3 r7 (by decide +kernel) (by decide +kernel)) (fun _ _ h => h))
                  have HK8 : Hid (Mem.Keeps (RB g A0) w u) := (HK.out.trans (Mem.Keeps.of_below HB6.out) (fun _ h _ => h.elim)).trans hq (fun y h hlt => by
                    rcases h with h | h | h
                    · rcases HQ.out y h with h2 | h2
                      · exact .inr h2
                      · omega
                    · exact .inl h
                    · exact h.elim)
                  have HQ8 : Hid (∀ q, Mem.blk A2 = some q → Mem.blk A0 = some q ∨ w.heap.size ≤ q) := fun q hq2 => by
                    rcases hat with rfl | hf
                    · exact HQ.out q hq2
                    · have h1 := hf.blk q hq2
                      have h2 := HB6.out.size
                      exact .inr (by omega)
                  simp only [List.map_cons, List.map_nil, Reg.lay, Act.put, List.setIfInBounds_toArray, List.set_cons_succ, List.set_cons_zero, Nat.reduceAdd]
                  clear hR H hq hA7 hat r7
                  go_wp2
                  go_roundw
                  case rel => exact ⟨⟨k + 1, A2, c2, es ++ [e], n + 1, by omega, by omega, by rw [HLL.out]; omega, HTS2, by go_num, by go_num, HA8, HK8, HQ8⟩⟩
                  case measure => simp [intOf]; omega
    · obtain rfl : k = news.length := by omega
      rw [List.take_length] at HP
      go_wp2
      go_ret
      refine ⟨A, c, ?_, ?_, HK.out, HQ.out⟩
      · rw [HP.out]; rfl
      · rw [HP.out]; exact HA.out
end Go.Proofs.Ytfafehffnjbhnaa
end
