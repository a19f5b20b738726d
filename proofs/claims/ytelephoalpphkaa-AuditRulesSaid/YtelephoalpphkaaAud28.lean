/- A history in new memory: the walk of twin. No conditions but that lists are few. -/
import Derived.Test.YtelephoalpphkaaAud26
set_option maxRecDepth 8000
namespace Go.Proofs.Ytelephoalpphkaa
open Go.ChangeShapes Go.WideShapes Go.ChangeAt Go.RowKit
set_option linter.unusedVariables false
set_option linter.unusedSimpArgs false
namespace Au
/-- an event whose lists are the call's own: in new memory, apart from the list X -/
structure TwE (b : Nat) (X : Option Addr) (w : World) (e : Ev) : Prop where
  k : Mem.Own w 9 1 e.kA e.keys.length e.kc (e.keys.map sv)
  r : Mem.Own w 48 22 e.rA e.res.length e.rc (e.res.flatMap rsCells)
  kf : Mem.From b e.kA
  rf : Mem.From b e.rA
  kr : ∀ q, Mem.blk e.kA = some q → Mem.blk e.rA ≠ some q
  kx : ∀ q, Mem.blk X = some q → Mem.blk e.kA ≠ some q ∧ Mem.blk e.rA ≠ some q
/-- whose lists lie in later blocks -/
def TwLt (a b : Ev) : Prop := ∀ q p, (Mem.blk a.kA = some q ∨ Mem.blk a.rA = some q) → (Mem.blk b.kA = some p ∨ Mem.blk b.rA = some p) → q < p
theorem TwE.lt {b : Nat} {X : Option Addr} {w : World} {e : Ev} (h : TwE b X w e) {q : Nat} (hq : Mem.blk e.kA = some q ∨ Mem.blk e.rA = some q) : q < w.heap.size := hq.elim (fun h1 => h.k.lt h1) (fun h1 => h.r.lt h1)
theorem TwE.keeps {b : Nat} {X : Option Addr} {w w' : World} {e : Ev} {S : Nat → Prop} (h : TwE b X w e) (hk : Mem.Keeps S w w') (hS : ∀ q, (Mem.blk e.kA = some q ∨ Mem.blk e.rA = some q) → ¬ S q) : TwE b X w' e :=
  ⟨h.k.keeps hk (fun q hq => hS q (.inl hq)), h.r.keeps hk (fun q hq => hS q (.inr hq)), h.kf, h.rf, h.kr, h.kx⟩
theorem TwE.below {b : Nat} {X : Option Addr} {w w' : World} {e : Ev} (h : TwE b X w e) (hb : Below w.heap.size w w') : TwE b X w' e := h.keeps (Mem.Keeps.of_below hb) (fun _ _ h => h)
theorem TwE.ok {b : Nat} {X : Option Addr} {w : World} {e : Ev} (h : TwE b X w e) : EvOk w w.heap.size e :=
  ⟨h.k.rd, h.r.rd, h.k.le, h.r.le, h.k.cap, h.r.cap⟩
structure Tw (w : World) (h : List Ev) (k : Nat) (X : Option Addr) (c : Nat) (hs : List Ev) (wr : World) : Prop where
  b : hs.map bare = (h.take k).map bare
  o : Mem.Own wr 46 20 X hs.length c (hs.flatMap evCells)
  f : Mem.From w.heap.size X
  e : ∀ e ∈ hs, TwE w.heap.size X wr e
  p : hs.Pairwise TwLt
  bl : Below w.heap.size w wr
structure TwRel (w : World) (h : List Ev) (v3 v4 : Value) (wr : World) : Prop where
  out : ∃ (k : Nat) (X : Option Addr) (c : Nat) (hs : List Ev), k ≤ h.length ∧ v3 = .slice X k c ∧ v4 = .int .i64 k ∧ hs.length = k ∧ Hid (Tw w h k X c hs wr)
def TwEnd (w : World) (h : List Ev) (x : Ending) (w' : World) : Prop := ∃ X c hs, x = .returned (.slice X h.length c) ∧ Tw w h h.length X c hs w'
theorem Tw.len {w : World} {h : List Ev} {X : Option Addr} {c : Nat} {hs : List Ev} {wr : World} (t : Tw w h h.length X c hs wr) : hs.length = h.length := by
  have := congrArg List.length t.b
  rwa [List.take_length, List.length_map, List.length_map] at this
theorem ev_zero : (Try.prog.info? 46).map (fun i => (i.zero, i.size)) = some (some (.agg (evCells ev0).toArray), 20) := by kernel_rfl
theorem evs_len (l : List Ev) : (l.flatMap evCells).length = l.length * 20 := Mem.flat_length evCells_length l
theorem strs_len (l : List ByteArray) : (l.map sv).length = l.length * 1 := by rw [List.length_map, Nat.mul_one]
theorem strs_one (l : List ByteArray) : ∀ u ∈ l.map sv, u.oneCell' = true := fun u hu => by
  obtain ⟨s, _, rfl⟩ := List.mem_map.1 hu
  rfl
def reK (e : Ev) (A : Option Addr) (c : Nat) : Ev := ⟨e.cl, e.op, e.kind, A, c, e.keys, e.val, e.adc, e.dc, e.fresh, e.fin, e.code, e.rA, e.rc, e.res, e.cut⟩
def reR (e : Ev) (A : Option Addr) (c : Nat) : Ev := ⟨e.cl, e.op, e.kind, e.kA, e.kc, e.keys, e.val, e.adc, e.dc, e.fresh, e.fin, e.code, A, c, e.res, e.cut⟩
end Au
open Au in
set_option maxHeartbeats 8000000 in
theorem twin_any (A : Option Addr) (c : Nat) (h : List Au.Ev) (B : Nat) (w0 w : World) (hr : Mem.Rd w0 B A (h.flatMap Au.evCells)) (hd : ∀ e ∈ h, Au.EvOk w0 B e ∧ e.keys.length ≤ 8796093022208 ∧ e.res.length ≤ 703687441776) (hn : h.length ≤ 1000000) (hb : Below B w0 w) (hB : B ≤ w.heap.size) :
    Calls Try.prog 11 #[.slice A h.length c] w (Au.TwEnd w h) := by
  have HR := Lib.hid (hr.below hb)
  have HD : Hid (∀ e ∈ h, EvOk w B e ∧ e.keys.length ≤ 8796093022208 ∧ e.res.length ≤ 703687441776) := fun e he => ⟨(hd e he).1.below hb (Nat.le_refl _), (hd e he).2⟩
  have HBB := Lib.hid hB
  clear hr hd hb hB
  go_enter Try.func11, Try.ntmps11
  go_wp2
  go_loopw [3, 4] (TwRel w h) (fun _ t _ => h.length - (intOf t).toNat)
  case atStart => exact ⟨⟨0, none, 0, [], by omega, rfl, rfl, rfl, ⟨rfl, Mem.Own.nil _ _ _, Mem.From.none_ _, fun e he => (by cases he), List.Pairwise.nil, Below.refl _ _⟩⟩⟩
  case round =>
    obtain ⟨k, X, cx, hs, hk, rfl, rfl, hlen, HT⟩ := hrel.out
    clear hrel
    by_cases hlt : k < h.length
    · obtain ⟨b, o, e, rfl, hbl, he, hat⟩ := ev_elem HR.out hlt
      have d0 : decide ((k : Int) < (h.length : Int)) = true := by simp; omega
      have hbw := HT.out.bl.mono HBB.out
      have HAT := Lib.hid ((hat.below hbw hbl).c)
      have HE := Lib.hid (HD.out e (List.mem_of_getElem? he))
      have HKR : Hid (Mem.Rd wr B e.kA (e.keys.map sv)) := HE.out.1.k.below hbw
      have HRR : Hid (Mem.Rd wr B e.rA (e.res.flatMap rsCells)) := HE.out.1.r.below hbw
      have hkn := HE.out.2.1
      have hrn := HE.out.2.2
      have HHE := Lib.hid he
      have HLT := Lib.hid hlt
      have HLEN := Lib.hid hlen
      have HBW : Hid (B ≤ wr.heap.size) := Nat.le_trans HBB.out HT.out.bl.size
      have hkl := strs_len e.keys
      have hko := strs_one e.keys
      have hrl := rs_len e.res
      have hro := rs_ones e.res
      have HKL := Lib.hid hkl
      have HKO := Lib.hid hko
      have HRL := Lib.hid hrl
      have HRO := Lib.hid hro
      clear hat he hbw hlt hlen hkl hko hrl hro
      go_upto_region 6 with (first
        | ((with_reducible refine Mem.load_agg _ _ event_agg b (o + k * 20) (evCells e) ?hx (evCells_length e) HAT.out ?_); case hx => exact rfl)
        | ((with_reducible refine Mem.store_agg _ _ event_agg wr.heap.size (evCells ev0) (evCells e) ?hxj ?hyj ?hbj (evCells_length _) (ev_one _) ?_); (case hxj => exact rfl); (case hyj => exact rfl); (case hbj => exact Mem.Bx.new wr 46 (evCells ev0).toArray rfl rfl); intro w3 hb3 hk3 hs3; have HE3 := Lib.hid hb3; have HK3 := Lib.hid hk3; have HS3 := Lib.hid hs3; clear hb3 hk3 hs3))
      obtain ⟨g, hg⟩ : ∃ g, wr.heap.size = g := ⟨_, rfl⟩
      have HB3 : Hid (Below g wr w3) := by show Below g _ _; rw [← hg]; exact (Reg.below_new wr _).trans (HK3.out.below (B := wr.heap.size) (fun y h => by omega) (Reg.below_new wr _).size)
      have HG3 : Hid (g < w3.heap.size) := by show g < _; rw [← hg]; exact HE3.out.lt
      rw [hg] at HBW
      have HGG := Lib.hid hg
      rw [hg] at HE3
      try rw [hg]
      have HKR3 : Hid (Mem.Rd w3 w3.heap.size e.kA (e.keys.map sv)) := (HKR.out.below (HB3.out.mono HBW.out)).more (Nat.le_trans HBW.out (Nat.le_of_lt HG3.out))
      have y30 := HE3.out.cell (j := 3) rfl
      have y3 := (World.cell?_alloc_lt w3 (.cells #[] 9) ⟨g, 3, none⟩ HG3.out).trans y30
      have yf := HE3.out.fr
      clear hg HK3 HS3 HAT
      go_upto_region 7 with (at_builtin; refine Mem.wpList_clone _ rfl (.tmp 16) (.tmp 19) _ rfl strs_elem _ rfl w3 w3.heap.size e.kA e.keys.length e.kc (e.keys.map sv) rfl ?_ rfl (Below.refl _ _) (Nat.le_refl _) HKR3.out HKL.out HKO.out (by unfold maxLen; omega) (by omega); intro A1 c1 w4 hown hb4 hs4 hf4; have HO4 := Lib.hid hown; have HB4 := Lib.hid hb4; have HF4 := Lib.hid hf4; have y4 : w4.cell? ⟨g, 3, none⟩ = some _ := (HB4.out.cell (p := ⟨g, 3, none⟩) HG3.out).trans y30; have yg : ∀ i, w4.frozen? ⟨g, i, none⟩ = false := fun i => (HE3.out.below HB4.out HG3.out).fr i; clear hown hb4 hs4 hf4 y3 y30 yf)
      have HE5 : Hid (VBx (w4.setCell ⟨g, 3, none⟩ (.slice A1 e.keys.length c1)) g (reK e A1 c1)) := (HE3.out.below HB4.out HG3.out).set 3 _
      have hk5 := (Mem.Keeps.refl (fun y => y = g) w4).setCell (p := ⟨g, 3, none⟩) (fun _ => rfl) (.slice A1 e.keys.length c1)
      have HK5 := Lib.hid hk5
      have HO5 : Hid (Mem.Own (w4.setCell ⟨g, 3, none⟩ (.slice A1 e.keys.length c1)) 9 1 A1 e.keys.length c1 (e.keys.map sv)) := HO4.out.keeps hk5 (fun q hq h1 => by have := HF4.out.blk q hq; have := HG3.out; omega)
      obtain ⟨w5, hw5⟩ : ∃ z, w4.setCell ⟨g, 3, none⟩ (.slice A1 e.keys.length c1) = z := ⟨_, rfl⟩
      rw [hw5] at HE5 HK5 HO5
      try rw [hw5]
      have HB5 : Hid (Below g wr w5) := HB3.out.trans ((HB4.out.mono (Nat.le_of_lt HG3.out)).trans (HK5.out.below (fun y h => by omega) (Nat.le_trans (Nat.le_of_lt HG3.out) HB4.out.size)))
      have HG5 : Hid (g < w5.heap.size) := HE5.out.lt
      have HRR5 : Hid (Mem.Rd w5 w5.heap.size e.rA (e.res.flatMap rsCells)) := (HRR.out.below (HB5.out.mono HBW.out)).more (Nat.le_trans HBW.out (Nat.le_of_lt HG5.out))
      have y100 := HE5.out.cell (j := 10) rfl
      have y10 := (World.cell?_alloc_lt w5 (.cells #[] 48) ⟨g, 10, none⟩ HG5.out).trans y100
      have yf := HE5.out.fr
      clear hw5 hk5 y4 yg HE3 HKR3 HO4
      go_upto_region 8 with (at_builtin; refine Mem.wpList_clone _ rfl (.tmp 23) (.tmp 25) _ rfl results_elem _ rfl w5 w5.heap.size e.rA e.res.length e.rc (e.res.flatMap rsCells) rfl ?_ rfl (Below.refl _ _) (Nat.le_refl _) HRR5.out HRL.out HRO.out (by unfold maxLen; omega) (by omega); intro A2 c2 w6 hown hb6 hs6 hf6; have HO6 := Lib.hid hown; have HB6 := Lib.hid hb6; have HF6 := Lib.hid hf6; have y6 : w6.cell? ⟨g, 10, none⟩ = some _ := (HB6.out.cell (p := ⟨g, 10, none⟩) HG5.out).trans y100; have yg : ∀ i, w6.frozen? ⟨g, i, none⟩ = false := fun i => (HE5.out.below HB6.out HG5.out).fr i; clear hown hb6 hs6 hf6 y10 y100 yf)
      obtain ⟨e', he'⟩ : ∃ e', reR (reK e A1 c1) A2 c2 = e' := ⟨_, rfl⟩
      have HE7 : Hid (VBx (w6.setCell ⟨g, 10, none⟩ (.slice A2 e.res.length c2)) g e') := by
        show VBx _ _ _
        rw [← he']
        exact (HE5.out.below HB6.out HG5.out).set 10 _
      have hk7 := (Mem.Keeps.refl (fun y => y = g) w6).setCell (p := ⟨g, 10, none⟩) (fun _ => rfl) (.slice A2 e.res.length c2)
      have HK7 := Lib.hid hk7
      have HBARE : Hid (bare e' = bare e) := by show _ = _; rw [← he']; rfl
      have HLK : Hid (g < w3.heap.size ∧ w3.heap.size ≤ w5.heap.size) := ⟨HG3.out, Nat.le_trans HB4.out.size HK5.out.size⟩
      have HT7 : Hid (TwE w.heap.size X (w6.setCell ⟨g, 10, none⟩ (.slice A2 e.res.length c2)) e' ∧ ∀ q, (Mem.blk e'.kA = some q ∨ Mem.blk e'.rA = some q) → g < q) := by
        have hwg : w.heap.size ≤ g := by rw [← HGG.out]; exact HT.out.bl.size
        have h1 := HLK.out
        rw [← he']
        refine ⟨⟨(HO5.out.below HB6.out (fun q hq => HO5.out.lt hq)).keeps hk7 (fun q hq h2 => by have := HF4.out.blk q hq; omega), HO6.out.keeps hk7 (fun q hq h2 => by have := HF6.out.blk q hq; omega), HF4.out.mono (by omega), HF6.out.mono (by omega), fun q hq h2 => ?_, fun q hq => ⟨fun h2 => ?_, fun h2 => ?_⟩⟩, fun q hq => ?_⟩
        · have h3 := HO5.out.lt hq
          have h4 := HF6.out.blk q h2
          omega
        · have h3 := HT.out.o.lt hq
          have h4 := HF4.out.blk q h2
          have h5 := HGG.out
          omega
        · have h3 := HT.out.o.lt hq
          have h4 := HF6.out.blk q h2
          have h5 := HGG.out
          omega
        · rcases hq with h2 | h2
          · have h4 := HF4.out.blk q h2
            omega
          · have h4 := HF6.out.blk q h2
            omega
      obtain ⟨w7, hw7⟩ : ∃ z, w6.setCell ⟨g, 10, none⟩ (.slice A2 e.res.length c2) = z := ⟨_, rfl⟩
      rw [hw7] at HE7 HK7 HT7
      try rw [hw7]
      have HB7 : Hid (Below wr.heap.size wr w7) := by
        show Below _ _ _
        rw [HGG.out]
        exact HB5.out.trans ((HB6.out.mono (Nat.le_of_lt HG5.out)).trans (HK7.out.below (fun y h => by omega) (Nat.le_trans (Nat.le_of_lt HG5.out) HB6.out.size)))
      have HX7 := Lib.hid (HT.out.o.below HB7.out (fun q hq => HT.out.o.lt hq))
      have HEC := Lib.hid (VBx.at HE7.out)
      have hx8 : hs.length = k := HLEN.out
      rw [hx8] at HX7
      clear hw7 hk7 y6 yg HE5 HRR5 HO5 HO6 he' hx8
      have hn63 : k + 1 ≤ maxLen := by unfold maxLen; omega
      go_upto_region 4 with (first
        | ((with_reducible refine Mem.load_agg _ _ event_agg g 0 (evCells e') ?hx (evCells_length e') HEC.out ?_); case hx => exact rfl)
        | ((with_reducible refine Mem.build1_agg _ _ 20 _ Try.underlying22 ev_zero (by decide) (by decide) (evCells e') ?hra (evCells_length _) ?_); (case hra => exact rfl))
        | (at_builtin; refine Mem.wpList_app _ rfl (.tmp 28) (.tmp 30) _ rfl events_elem X k cx _ rfl (w7.heap.size + 1) (some ⟨w7.heap.size, 0, none⟩) 1 1 (evCells e') rfl ?_ (HX7.out.alloc _) (Mem.Rd.alloc_new w7 _ _ _ rfl) rfl (ev_one _) hn63 (by omega); intro X3 c3 w9 hown hg4 hat; have HO9 := Lib.hid hown; have HG9 := Lib.hid hg4; have HAT9 := Lib.hid hat; clear hown hg4 hat))
      have hk9 : Mem.Keeps (fun q => Mem.blk X = some q) w7 w9 := ((Mem.Keeps.refl (fun q => Mem.blk X = some q) w7).alloc _).grown HG9.out (fun k hk _ => hk)
      have HK9 := Lib.hid hk9
      have hsz : w7.heap.size ≤ (w7.alloc (.cells (evCells e').toArray 46)).heap.size := (Reg.below_new w7 _).size
      have HSZ := Lib.hid hsz
      have HTW : Hid (Tw w h (k + 1) X3 c3 (hs ++ [e']) w9) := by
        have hB9 : Below w.heap.size w w9 := HT.out.bl.trans ((HB7.out.mono HT.out.bl.size).trans (HK9.out.below (fun q hq => HT.out.f.blk q hq) (Nat.le_trans HT.out.bl.size HB7.out.size)))
        have hX : ∀ q, Mem.blk X3 = some q → Mem.blk X = some q ∨ w7.heap.size ≤ q := fun q hq => by
          rcases HAT9.out with h1 | h1
          · rw [h1] at hq; exact .inl hq
          · rw [h1] at hq; exact .inr (Nat.le_trans HSZ.out (Nat.le_of_eq (Option.some.inj hq)))
        have hup : ∀ {x : Ev}, TwE w.heap.size X w7 x → TwE w.heap.size X3 w9 x := fun {x} hx => by
          have h1 := hx.keeps HK9.out (fun q hq h2 => hq.elim (fun h3 => (hx.kx q h2).1 h3) (fun h3 => (hx.kx q h2).2 h3))
          exact ⟨h1.k, h1.r, h1.kf, h1.rf, h1.kr, fun q hq => (hX q hq).elim (fun h2 => hx.kx q h2) (fun h2 => ⟨fun h3 => by have := hx.lt (.inl h3); omega, fun h3 => by have := hx.lt (.inr h3); omega⟩)⟩
        refine ⟨?_, ?_, ?_, ?_, ?_, hB9⟩
        · rw [Mem.take_snoc HHE.out, List.map_append, List.map_append, HT.out.b]
          show _ ++ [bare e'] = _ ++ [bare e]
          rw [HBARE.out]
        · have h1 := HO9.out
          rw [List.length_append, List.flatMap_append, HLEN.out]
          exact h1
        · rcases HAT9.out with h1 | h1
          · rw [h1]; exact HT.out.f
          · rw [h1]; exact Mem.From.some_ (Nat.le_trans (Nat.le_trans HT.out.bl.size HB7.out.size) HSZ.out)
        · intro x hx
          rcases List.mem_append.1 hx with hx | hx
          · exact hup ((HT.out.e x hx).below HB7.out)
          · rw [List.mem_singleton] at hx
            rw [hx]
            exact hup HT7.out.1
        · rw [List.pairwise_append]
          refine ⟨HT.out.p, List.pairwise_singleton _ _, fun x hx y hy q p hq hp => ?_⟩
          rw [List.mem_singleton] at hy
          rw [hy] at hp
          have h1 := (HT.out.e x hx).lt hq
          have h2 := HT7.out.2 p hp
          have h3 := HGG.out
          omega
      clear hk9 hsz HO9 HG9 HAT9 HK9 HSZ hn63 HX7 HEC HT7 HB7
      go_wp2
      go_roundw
      case rel => exact ⟨⟨k + 1, X3, c3, hs ++ [e'], HLT.out, rfl, by go_num, by rw [List.length_append, HLEN.out]; rfl, HTW⟩⟩
      case measure => exact Au.meas_lt HLT.out
    · obtain rfl : k = h.length := by omega
      have d0 : decide ((h.length : Int) < (h.length : Int)) = false := by simp
      go_wp2
      go_ret
      exact ⟨X, cx, hs, rfl, HT.out⟩
/-- what Check tells, by lists alone -/
theorem checkL_any {hA : Option Addr} {hc : Nat} {h : List Au.Ev} {wA : Option Addr} {wc : Nat} {ws : List Vec.Ent} {w : World} (H : Mem.Rd w w.heap.size hA (h.flatMap Au.evCells)) (W : Mem.Rd w w.heap.size wA (ws.flatMap Vec.entCells))
    (E : ∀ e ∈ h, Au.EvOk w w.heap.size e ∧ Au.okI e.cl ∧ e.res.length ≤ 703687441776) (hl : h.length ≤ hc) (wl : ws.length ≤ wc) (hn : hc ≤ 9223372036854775807) (wn : wc ≤ 9223372036854775807) (n : h.length ≤ 1000000) :
    Calls Try.prog 12 #[.slice hA h.length hc, .slice wA ws.length wc] w fun x w' => ∃ X c, x = .returned (.slice X (Au.findL h ws).length c) ∧ Mem.Own w' 50 2 X (Au.findL h ws).length c ((Au.findL h ws).flatMap Au.fiCells) ∧ Mem.From w.heap.size X ∧ Below w.heap.size w w' := by
  have hk := Au.finds_of ⟨hA, hc, h, wA, wc, ws, 0, w.heap.size⟩ rfl
  refine (check_any (k := ⟨hA, hc, h, wA, wc, ws, 0, w.heap.size⟩) ⟨H, W, fun e he => (E e he).1, fun e he => (E e he).2.1, fun e he => (E e he).2.2, hl, wl, hn, wn, n⟩ rfl rfl).mono ?_
  rintro x w' ⟨X, c, hx, ho, hf, hb⟩
  rw [hk] at hx ho
  exact ⟨X, c, hx, ho, hf, hb⟩
end Go.Proofs.Ytelephoalpphkaa
