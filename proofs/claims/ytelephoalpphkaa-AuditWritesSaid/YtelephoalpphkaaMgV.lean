/- Several texts of this proof in one file, in the order in which they build: Aud28, Aud29, Aud30. No conditions but those that each theorem names. -/
import Derived.Test.YtelephoalpphkaaAud26
section
/- A history in new memory: the walk of twin. No conditions but that lists are few. -/
set_option maxRecDepth 8000
namespace Go.Proofs.Ytelephoalpphkaa
open Go.ChangeShapes Go.WideShapes Go.ChangeAt Go.RowKit
set_option linter.unusedVariables false
set_option linter.unusedSimpArgs false
namespace Au
/-- an event whose lists are the call's own: in new memory, apart from the list X -/
structure TwE (b : Nat) (X : Option Addr) (w : World) (e : Ev) : Prop where
  k : Mem.Own w 9 1 e.kA e.keys.length e.kc (e.keys.map sv)
  r : Mem.Own w 48 22 e.rA e.res.length e.rc (e.res.flatMap rsCells)
  kf : Mem.From b e.kA
  rf : Mem.From b e.rA
  kr : ∀ q, Mem.blk e.kA = some q → Mem.blk e.rA ≠ some q
  kx : ∀ q, Mem.blk X = some q → Mem.blk e.kA ≠ some q ∧ Mem.blk e.rA ≠ some q
/-- whose lists lie in later blocks -/
def TwLt (a b : Ev) : Prop := ∀ q p, (Mem.blk a.kA = some q ∨ Mem.blk a.rA = some q) → (Mem.blk b.kA = some p ∨ Mem.blk b.rA = some p) → q < p
theorem TwE.lt {b : Nat} {X : Option Addr} {w : World} {e : Ev} (h : TwE b X w e) {q : Nat} (hq : Mem.blk e.kA = some q ∨ Mem.blk e.rA = some q) : q < w.heap.size := hq.elim (fun h1 => h.k.lt h1) (fun h1 => h.r.lt h1)
theorem TwE.keeps {b : Nat} {X : Option Addr} {w w' : World} {e : Ev} {S : Nat → Prop} (h : TwE b X w e) (hk : Mem.Keeps S w w') (hS : ∀ q, (Mem.blk e.kA = some q ∨ Mem.blk e.rA = some q) → ¬ S q) : TwE b X w' e :=
  ⟨h.k.keeps hk (fun q hq => hS q (.inl hq)), h.r.keeps hk (fun q hq => hS q (.inr hq)), h.kf, h.rf, h.kr, h.kx⟩
theorem TwE.below {b : Nat} {X : Option Addr} {w w' : World} {e : Ev} (h : TwE b X w e) (hb : Below w.heap.size w w') : TwE b X w' e := h.keeps (Mem.Keeps.of_below hb) (fun _ _ h => h)
theorem TwE.ok {b : Nat} {X : Option Addr} {w : World} {e : Ev} (h : TwE b X w e) : EvOk w w.heap.size e :=
  ⟨h.k.rd, h.r.rd, h.k.le, h.r.le, h.k.cap, h.r.cap⟩
structure Tw (w : World) (h : List Ev) (k : Nat) (X : Option Addr) (c : Nat) (hs : List Ev) (wr : World) : Prop where
  b : hs.map bare = (h.take k).map bare
  o : Mem.Own wr 46 20 X hs.length c (hs.flatMap evCells)
  f : Mem.From w.heap.size X
  e : ∀ e ∈ hs, TwE w.heap.size X wr e
  p : hs.Pairwise TwLt
  bl : Below w.heap.size w wr
structure TwRel (w : World) (h : List Ev) (v3 v4 : Value) (wr : World) : Prop where
  out : ∃ (k : Nat) (X : Option Addr) (c : Nat) (hs : List Ev), k ≤ h.length ∧ v3 = .slice X k c ∧ v4 = .int .i64 k ∧ hs.length = k ∧ Hid (Tw w h k X c hs wr)
def TwEnd (w : World) (h : List Ev) (x : Ending) (w' : World) : Prop := ∃ X c hs, x = .returned (.slice X h.length c) ∧ Tw w h h.length X c hs w'
theorem Tw.len {w : World} {h : List Ev} {X : Option Addr} {c : Nat} {hs : List Ev} {wr : World} (t : Tw w h h.length X c hs wr) : hs.length = h.length := by
  have := congrArg List.length t.b
  rwa [List.take_length, List.length_map, List.length_map] at this
theorem ev_zero : (Try.prog.info? 46).map (fun i => (i.zero, i.size)) = some (some (.agg (evCells ev0).toArray), 20) := by kernel_rfl
theorem evs_len (l : List Ev) : (l.flatMap evCells).length = l.length * 20 := Mem.flat_length evCells_length l
theorem strs_len (l : List ByteArray) : (l.map sv).length = l.length * 1 := by rw [List.length_map, Nat.mul_one]
theorem strs_one (l : List ByteArray) : ∀ u ∈ l.map sv, u.oneCell' = true := fun u hu => by
  obtain ⟨s, _, rfl⟩ := List.mem_map.1 hu
  rfl
def reK (e : Ev) (A : Option Addr) (c : Nat) : Ev := ⟨e.cl, e.op, e.kind, A, c, e.keys, e.val, e.adc, e.dc, e.fresh, e.fin, e.code, e.rA, e.rc, e.res, e.cut⟩
def reR (e : Ev) (A : Option Addr) (c : Nat) : Ev := ⟨e.cl, e.op, e.kind, e.kA, e.kc, e.keys, e.val, e.adc, e.dc, e.fresh, e.fin, e.code, A, c, e.res, e.cut⟩
end Au
open Au in
set_option maxHeartbeats 8000000 in
theorem twin_any (A : Option Addr) (c : Nat) (h : List Au.Ev) (B : Nat) (w0 w : World) (hr : Mem.Rd w0 B A (h.flatMap Au.evCells)) (hd : ∀ e ∈ h, Au.EvOk w0 B e ∧ e.keys.length ≤ 8796093022208 ∧ e.res.length ≤ 703687441776) (hn : h.length ≤ 1000000) (hb : Below B w0 w) (hB : B ≤ w.heap.size) :
    Calls Try.prog 11 #[.slice A h.length c] w (Au.TwEnd w h) := by
  have HR := Lib.hid (hr.below hb)
  have HD : Hid (∀ e ∈ h, EvOk w B e ∧ e.keys.length ≤ 8796093022208 ∧ e.res.length ≤ 703687441776) := fun e he => ⟨(hd e he).1.below hb (Nat.le_refl _), (hd e he).2⟩
  have HBB := Lib.hid hB
  clear hr hd hb hB
  go_enter Try.func11, Try.ntmps11
  go_wp2
  go_loopw [3, 4] (TwRel w h) (fun _ t _ => h.length - (intOf t).toNat)
  case atStart => exact ⟨⟨0, none, 0, [], by omega, rfl, rfl, rfl, ⟨rfl, Mem.Own.nil _ _ _, Mem.From.none_ _, fun e he => (by cases he), List.Pairwise.nil, Below.refl _ _⟩⟩⟩
  case round =>
    obtain ⟨k, X, cx, hs, hk, rfl, rfl, hlen, HT⟩ := hrel.out
    clear hrel
    by_cases hlt : k < h.length
    · obtain ⟨b, o, e, rfl, hbl, he, hat⟩ := ev_elem HR.out hlt
      have d0 : decide ((k : Int) < (h.length : Int)) = true := by simp; omega
      have hbw := HT.out.bl.mono HBB.out
      have HAT := Lib.hid ((hat.below hbw hbl).c)
      have HE := Lib.hid (HD.out e (List.mem_of_getElem? he))
      have HKR : Hid (Mem.Rd wr B e.kA (e.keys.map sv)) := HE.out.1.k.below hbw
      have HRR : Hid (Mem.Rd wr B e.rA (e.res.flatMap rsCells)) := HE.out.1.r.below hbw
      have hkn := HE.out.2.1
      have hrn := HE.out.2.2
      have HHE := Lib.hid he
      have HLT := Lib.hid hlt
      have HLEN := Lib.hid hlen
      have HBW : Hid (B ≤ wr.heap.size) := Nat.le_trans HBB.out HT.out.bl.size
      have hkl := strs_len e.keys
      have hko := strs_one e.keys
      have hrl := rs_len e.res
      have hro := rs_ones e.res
      have HKL := Lib.hid hkl
      have HKO := Lib.hid hko
      have HRL := Lib.hid hrl
      have HRO := Lib.hid hro
      clear hat he hbw hlt hlen hkl hko hrl hro
      go_upto_region 6 with (first
        | ((with_reducible refine Mem.load_agg _ _ event_agg b (o + k * 20) (evCells e) ?hx (evCells_length e) HAT.out ?_); case hx => exact rfl)
        | ((with_reducible refine Mem.store_agg _ _ event_agg wr.heap.size (evCells ev0) (evCells e) ?hxj ?hyj ?hbj (evCells_length _) (ev_one _) ?_); (case hxj => exact rfl); (case hyj => exact rfl); (case hbj => exact Mem.Bx.new wr 46 (evCells ev0).toArray rfl rfl); intro w3 hb3 hk3 hs3; have HE3 := Lib.hid hb3; have HK3 := Lib.hid hk3; have HS3 := Lib.hid hs3; clear hb3 hk3 hs3))
      obtain ⟨g, hg⟩ : ∃ g, wr.heap.size = g := ⟨_, rfl⟩
      have HB3 : Hid (Below g wr w3) := by show Below g _ _; rw [← hg]; exact (Reg.below_new wr _).trans (HK3.out.below (B := wr.heap.size) (fun y h => by omega) (Reg.below_new wr _).size)
      have HG3 : Hid (g < w3.heap.size) := by show g < _; rw [← hg]; exact HE3.out.lt
      rw [hg] at HBW
      have HGG := Lib.hid hg
      rw [hg] at HE3
      try rw [hg]
      have HKR3 : Hid (Mem.Rd w3 w3.heap.size e.kA (e.keys.map sv)) := (HKR.out.below (HB3.out.mono HBW.out)).more (Nat.le_trans HBW.out (Nat.le_of_lt HG3.out))
      have y30 := HE3.out.cell (j := 3) rfl
      have y3 := (World.cell?_alloc_lt w3 (.cells #[] 9) ⟨g, 3, none⟩ HG3.out).trans y30
      have yf := HE3.out.fr
      clear hg HK3 HS3 HAT
      go_upto_region 7 with (at_builtin; refine Mem.wpList_clone _ rfl (.tmp 16) (.tmp 19) _ rfl strs_elem _ rfl w3 w3.heap.size e.kA e.keys.length e.kc (e.keys.map sv) rfl ?_ rfl (Below.refl _ _) (Nat.le_refl _) HKR3.out HKL.out HKO.out (by unfold maxLen; omega) (by omega); intro A1 c1 w4 hown hb4 hs4 hf4; have HO4 := Lib.hid hown; have HB4 := Lib.hid hb4; have HF4 := Lib.hid hf4; have y4 : w4.cell? ⟨g, 3, none⟩ = some _ := (HB4.out.cell (p := ⟨g, 3, none⟩) HG3.out).trans y30; have yg : ∀ i, w4.frozen? ⟨g, i, none⟩ = false := fun i => (HE3.out.below HB4.out HG3.out).fr i; clear hown hb4 hs4 hf4 y3 y30 yf)
      have HE5 : Hid (VBx (w4.setCell ⟨g, 3, none⟩ (.slice A1 e.keys.length c1)) g (reK e A1 c1)) := (HE3.out.below HB4.out HG3.out).set 3 _
      have hk5 := (Mem.Keeps.refl (fun y => y = g) w4).setCell (p := ⟨g, 3, none⟩) (fun _ => rfl) (.slice A1 e.keys.length c1)
      have HK5 := Lib.hid hk5
      have HO5 : Hid (Mem.Own (w4.setCell ⟨g, 3, none⟩ (.slice A1 e.keys.length c1)) 9 1 A1 e.keys.length c1 (e.keys.map sv)) := HO4.out.keeps hk5 (fun q hq h1 => by have := HF4.out.blk q hq; have := HG3.out; omega)
      obtain ⟨w5, hw5⟩ : ∃ z, w4.setCell ⟨g, 3, none⟩ (.slice A1 e.keys.length c1) = z := ⟨_, rfl⟩
      rw [hw5] at HE5 HK5 HO5
      try rw [hw5]
      have HB5 : Hid (Below g wr w5) := HB3.out.trans ((HB4.out.mono (Nat.le_of_lt HG3.out)).trans (HK5.out.below (fun y h => by omega) (Nat.le_trans (Nat.le_of_lt HG3.out) HB4.out.size)))
      have HG5 : Hid (g < w5.heap.size) := HE5.out.lt
      have HRR5 : Hid (Mem.Rd w5 w5.heap.size e.rA (e.res.flatMap rsCells)) := (HRR.out.below (HB5.out.mono HBW.out)).more (Nat.le_trans HBW.out (Nat.le_of_lt HG5.out))
      have y100 := HE5.out.cell (j := 10) rfl
      have y10 := (World.cell?_alloc_lt w5 (.cells #[] 48) ⟨g, 10, none⟩ HG5.out).trans y100
      have yf := HE5.out.fr
      clear hw5 hk5 y4 yg HE3 HKR3 HO4
      go_upto_region 8 with (at_builtin; refine Mem.wpList_clone _ rfl (.tmp 23) (.tmp 25) _ rfl results_elem _ rfl w5 w5.heap.size e.rA e.res.length e.rc (e.res.flatMap rsCells) rfl ?_ rfl (Below.refl _ _) (Nat.le_refl _) HRR5.out HRL.out HRO.out (by unfold maxLen; omega) (by omega); intro A2 c2 w6 hown hb6 hs6 hf6; have HO6 := Lib.hid hown; have HB6 := Lib.hid hb6; have HF6 := Lib.hid hf6; have y6 : w6.cell? ⟨g, 10, none⟩ = some _ := (HB6.out.cell (p := ⟨g, 10, none⟩) HG5.out).trans y100; have yg : ∀ i, w6.frozen? ⟨g, i, none⟩ = false := fun i => (HE5.out.below HB6.out HG5.out).fr i; clear hown hb6 hs6 hf6 y10 y100 yf)
      obtain ⟨e', he'⟩ : ∃ e', reR (reK e A1 c1) A2 c2 = e' := ⟨_, rfl⟩
      have HE7 : Hid (VBx (w6.setCell ⟨g, 10, none⟩ (.slice A2 e.res.length c2)) g e') := by
        show VBx _ _ _
        rw [← he']
        exact (HE5.out.below HB6.out HG5.out).set 10 _
      have hk7 := (Mem.Keeps.refl (fun y => y = g) w6).setCell (p := ⟨g, 10, none⟩) (fun _ => rfl) (.slice A2 e.res.length c2)
      have HK7 := Lib.hid hk7
      have HBARE : Hid (bare e' = bare e) := by show _ = _; rw [← he']; rfl
      have HLK : Hid (g < w3.heap.size ∧ w3.heap.size ≤ w5.heap.size) := ⟨HG3.out, Nat.le_trans HB4.out.size HK5.out.size⟩
      have HT7 : Hid (TwE w.heap.size X (w6.setCell ⟨g, 10, none⟩ (.slice A2 e.res.length c2)) e' ∧ ∀ q, (Mem.blk e'.kA = some q ∨ Mem.blk e'.rA = some q) → g < q) := by
        have hwg : w.heap.size ≤ g := by rw [← HGG.out]; exact HT.out.bl.size
        have h1 := HLK.out
        rw [← he']
        refine ⟨⟨(HO5.out.below HB6.out (fun q hq => HO5.out.lt hq)).keeps hk7 (fun q hq h2 => by have := HF4.out.blk q hq; omega), HO6.out.keeps hk7 (fun q hq h2 => by have := HF6.out.blk q hq; omega), HF4.out.mono (by omega), HF6.out.mono (by omega), fun q hq h2 => ?_, fun q hq => ⟨fun h2 => ?_, fun h2 => ?_⟩⟩, fun q hq => ?_⟩
        · have h3 := HO5.out.lt hq
          have h4 := HF6.out.blk q h2
          omega
        · have h3 := HT.out.o.lt hq
          have h4 := HF4.out.blk q h2
          have h5 := HGG.out
          omega
        · have h3 := HT.out.o.lt hq
          have h4 := HF6.out.blk q h2
          have h5 := HGG.out
          omega
        · rcases hq with h2 | h2
          · have h4 := HF4.out.blk q h2
            omega
          · have h4 := HF6.out.blk q h2
            omega
      obtain ⟨w7, hw7⟩ : ∃ z, w6.setCell ⟨g, 10, none⟩ (.slice A2 e.res.length c2) = z := ⟨_, rfl⟩
      rw [hw7] at HE7 HK7 HT7
      try rw [hw7]
      have HB7 : Hid (Below wr.heap.size wr w7) := by
        show Below _ _ _
        rw [HGG.out]
        exact HB5.out.trans ((HB6.out.mono (Nat.le_of_lt HG5.out)).trans (HK7.out.below (fun y h => by omega) (Nat.le_trans (Nat.le_of_lt HG5.out) HB6.out.size)))
      have HX7 := Lib.hid (HT.out.o.below HB7.out (fun q hq => HT.out.o.lt hq))
      have HEC := Lib.hid (VBx.at HE7.out)
      have hx8 : hs.length = k := HLEN.out
      rw [hx8] at HX7
      clear hw7 hk7 y6 yg HE5 HRR5 HO5 HO6 he' hx8
      have hn63 : k + 1 ≤ maxLen := by unfold maxLen; omega
      go_upto_region 4 with (first
        | ((with_reducible refine Mem.load_agg _ _ event_agg g 0 (evCells e') ?hx (evCells_length e') HEC.out ?_); case hx => exact rfl)
        | ((with_reducible refine Mem.build1_agg _ _ 20 _ Try.underlying22 ev_zero (by decide) (by decide) (evCells e') ?hra (evCells_length _) ?_); (case hra => exact rfl))
        | (at_builtin; refine Mem.wpList_app _ rfl (.tmp 28) (.tmp 30) _ rfl events_elem X k cx _ rfl (w7.heap.size + 1) (some ⟨w7.heap.size, 0, none⟩) 1 1 (evCells e') rfl ?_ (HX7.out.alloc _) (Mem.Rd.alloc_new w7 _ _ _ rfl) rfl (ev_one _) hn63 (by omega); intro X3 c3 w9 hown hg4 hat; have HO9 := Lib.hid hown; have HG9 := Lib.hid hg4; have HAT9 := Lib.hid hat; clear hown hg4 hat))
      have hk9 : Mem.Keeps (fun q => Mem.blk X = some q) w7 w9 := ((Mem.Keeps.refl (fun q => Mem.blk X = some q) w7).alloc _).grown HG9.out (fun k hk _ => hk)
      have HK9 := Lib.hid hk9
      have hsz : w7.heap.size ≤ (w7.alloc (.cells (evCells e').toArray 46)).heap.size := (Reg.below_new w7 _).size
      have HSZ := Lib.hid hsz
      have HTW : Hid (Tw w h (k + 1) X3 c3 (hs ++ [e']) w9) := by
        have hB9 : Below w.heap.size w w9 := HT.out.bl.trans ((HB7.out.mono HT.out.bl.size).trans (HK9.out.below (fun q hq => HT.out.f.blk q hq) (Nat.le_trans HT.out.bl.size HB7.out.size)))
        have hX : ∀ q, Mem.blk X3 = some q → Mem.blk X = some q ∨ w7.heap.size ≤ q := fun q hq => by
          rcases HAT9.out with h1 | h1
          · rw [h1] at hq; exact .inl hq
          · rw [h1] at hq; exact .inr (Nat.le_trans HSZ.out (Nat.le_of_eq (Option.some.inj hq)))
        have hup : ∀ {x : Ev}, TwE w.heap.size X w7 x → TwE w.heap.size X3 w9 x := fun {x} hx => by
          have h1 := hx.keeps HK9.out (fun q hq h2 => hq.elim (fun h3 => (hx.kx q h2).1 h3) (fun h3 => (hx.kx q h2).2 h3))
          exact ⟨h1.k, h1.r, h1.kf, h1.rf, h1.kr, fun q hq => (hX q hq).elim (fun h2 => hx.kx q h2) (fun h2 => ⟨fun h3 => by have := hx.lt (.inl h3); omega, fun h3 => by have := hx.lt (.inr h3); omega⟩)⟩
        refine ⟨?_, ?_, ?_, ?_, ?_, hB9⟩
        · rw [Mem.take_snoc HHE.out, List.map_append, List.map_append, HT.out.b]
          show _ ++ [bare e'] = _ ++ [bare e]
          rw [HBARE.out]
        · have h1 := HO9.out
          rw [List.length_append, List.flatMap_append, HLEN.out]
          exact h1
        · rcases HAT9.out with h1 | h1
          · rw [h1]; exact HT.out.f
          · rw [h1]; exact Mem.From.some_ (Nat.le_trans (Nat.le_trans HT.out.bl.size HB7.out.size) HSZ.out)
        · intro x hx
          rcases List.mem_append.1 hx with hx | hx
          · exact hup ((HT.out.e x hx).below HB7.out)
          · rw [List.mem_singleton] at hx
            rw [hx]
            exact hup HT7.out.1
        · rw [List.pairwise_append]
          refine ⟨HT.out.p, List.pairwise_singleton _ _, fun x hx y hy q p hq hp => ?_⟩
          rw [List.mem_singleton] at hy
          rw [hy] at hp
          have h1 := (HT.out.e x hx).lt hq
          have h2 := HT7.out.2 p hp
          have h3 := HGG.out
          omega
      clear hk9 hsz HO9 HG9 HAT9 HK9 HSZ hn63 HX7 HEC HT7 HB7
      go_wp2
      go_roundw
      case rel => exact ⟨⟨k + 1, X3, c3, hs ++ [e'], HLT.out, rfl, by go_num, by rw [List.length_append, HLEN.out]; rfl, HTW⟩⟩
      case measure => exact Au.meas_lt HLT.out
    · obtain rfl : k = h.length := by omega
      have d0 : decide ((h.length : Int) < (h.length : Int)) = false := by simp
      go_wp2
      go_ret
      exact ⟨X, cx, hs, rfl, HT.out⟩
/-- what Check tells, by lists alone -/
theorem checkL_any {hA : Option Addr} {hc : Nat} {h : List Au.Ev} {wA : Option Addr} {wc : Nat} {ws : List Vec.Ent} {w : World} (H : Mem.Rd w w.heap.size hA (h.flatMap Au.evCells)) (W : Mem.Rd w w.heap.size wA (ws.flatMap Vec.entCells))
    (E : ∀ e ∈ h, Au.EvOk w w.heap.size e ∧ Au.okI e.cl ∧ e.res.length ≤ 703687441776) (hl : h.length ≤ hc) (wl : ws.length ≤ wc) (hn : hc ≤ 9223372036854775807) (wn : wc ≤ 9223372036854775807) (n : h.length ≤ 1000000) :
    Calls Try.prog 12 #[.slice hA h.length hc, .slice wA ws.length wc] w fun x w' => ∃ X c, x = .returned (.slice X (Au.findL h ws).length c) ∧ Mem.Own w' 50 2 X (Au.findL h ws).length c ((Au.findL h ws).flatMap Au.fiCells) ∧ Mem.From w.heap.size X ∧ Below w.heap.size w w' := by
  have hk := Au.finds_of ⟨hA, hc, h, wA, wc, ws, 0, w.heap.size⟩ rfl
  refine (check_any (k := ⟨hA, hc, h, wA, wc, ws, 0, w.heap.size⟩) ⟨H, W, fun e he => (E e he).1, fun e he => (E e he).2.1, fun e he => (E e he).2.2, hl, wl, hn, wn, n⟩ rfl rfl).mono ?_
  rintro x w' ⟨X, c, hx, ho, hf, hb⟩
  rw [hk] at hx ho
  exact ⟨X, c, hx, ho, hf, hb⟩
end Go.Proofs.Ytelephoalpphkaa
end
section
/- The walk of able: a get that has not found what it has seen is found. No conditions. -/
set_option maxRecDepth 8000
namespace Go.Proofs.Ytelephoalpphkaa
open Go.ChangeShapes Go.WideShapes Go.ChangeAt Go.RowKit
set_option linter.unusedVariables false
set_option linter.unusedSimpArgs false
namespace Mem
section
variable {P : Program} {w : World} {ops : Array Oper} {rest : List Oper} {a : Act} {Q : Exit → Act → World → Prop} {d : Option Tmp} {ty : TypeId} {ps : String} {af : Array Edge}
/-- a slice literal of one value of many cells, by a guarded operation too -/
theorem build1_aggG {x : Operand} {gd : Option (Nat × Bool)} (t e : TypeId) (n : Nat) (z : Value) (hu : P.underlying t = some (.slice e)) (hi : (P.info? e).map (fun i => (i.zero, i.size)) = some (some z, n)) (hn : 0 < n) (hs : n ≤ 1024)
    (xs : List Value) (hw : Region.wanted { dst := d, op := .buildSlice t 1 #[(0, x)], type := ty, pos := ps, after := af, guard := gd } (yielded ops a.tmps) = true)
    (hx : a.eval x = .agg xs.toArray) (hl : xs.length = n) (h : wpList P ops Q rest (a.put d (.slice (some ⟨w.heap.size, 0, none⟩) 1 1)) (w.alloc (.cells xs.toArray e))) :
    wpList P ops Q ({ dst := d, op := .buildSlice t 1 #[(0, x)], type := ty, pos := ps, after := af, guard := gd } :: rest) a w := by
  cases hie : P.info? e with
  | none => simp [hie] at hi
  | some ie =>
    simp only [hie, Option.map_some, Option.some.injEq, Prod.mk.injEq] at hi
    obtain ⟨hz, hsz⟩ := hi
    subst hsz
    unfold wpList
    rw [if_pos hw]
    refine .inl (wp_buildSlice t e 1 #[(0, x)] rfl xs.toArray ie z hu hie hz (by omega) (by omega) ?_ h)
    have hp : ((#[(0, x)] : Array (Nat × Operand)).map fun (i, x) => (i, a.eval x)).toList = (([.agg xs.toArray] : List Value).zipIdx 0).map fun x => (x.2, x.1) := by simp [hx]
    have hc : (([.agg xs.toArray] : List Value).flatMap fun v => v.cells.toList) = xs := by simp [Value.cells]
    rw [hp]
    refine (Great.fill_whole hn [.agg xs.toArray] _ (fun v hv => ?_) (by simp)).trans (by rw [hc])
    rw [List.mem_singleton] at hv; subst hv; simpa [Value.cells] using hl
end
end Mem
namespace Au
open Vec (Ent Vc)
def eW : Ent := ⟨0, 0, 1, ⟨1, 0, 0⟩, ⟨#[107]⟩, ⟨#[118]⟩, false, Vec.vc0, 0, 1⟩
def cW : Vc := ⟨⟨1, 0, 0⟩, Vec.col0, Vec.col0⟩
def askE (p : Nat) : Ev := ⟨0, 0, 3, some ⟨p, 0, none⟩, 1, [⟨#[107]⟩], ByteArray.empty, 0, 0, false, false, 0, none, 0, [], Vec.vc0⟩
def evA (p : Nat) : Ev := ⟨1, 1, 3, some ⟨p, 0, none⟩, 1, [⟨#[107]⟩], ByteArray.empty, 0, 0, false, false, 0, none, 0, [], Vec.vc0⟩
def rB : Rs := ⟨⟨#[107]⟩, false, Vec.ent0⟩
def evB (p q : Nat) : Ev := ⟨1, 1, 3, some ⟨p, 0, none⟩, 1, [⟨#[107]⟩], ByteArray.empty, 0, 0, false, true, 0, some ⟨q, 0, none⟩, 1, [rB], cW⟩
theorem able_finds (p q : Nat) : findL [evA p, evB p q] [eW] = [⟨1, 8⟩] := by rfl
theorem ok1 : okI 1 := by unfold okI; decide
theorem able_finds0 : findL [] [] = [] := by rfl
theorem able_sees : Vec.visible ⟨#[107]⟩ cW [eW] = (eW, true) := by rfl
theorem able_closed : Vec.closedP cW [eW] = true := by rfl
theorem res_zero : (Try.prog.info? 48).map (fun i => (i.zero, i.size)) = some (some (.agg (rsCells rs0).toArray), 22) := by kernel_rfl
end Au
open Au in
open Vec (EBx entCells ent0 entCells_length ent_one) in
set_option maxHeartbeats 4000000 in
theorem auditAble_any (w : World) :
    Calls Try.prog 9 #[] w fun e w' => e = .returned (.bool true) ∧ Below w.heap.size w w' := by
  go_enter Try.func9, Try.ntmps9
  have ho := ent_one eW
  go_upto_region 2 with ((with_reducible refine Mem.store_agg _ _ entry_agg w.heap.size (entCells ent0) (entCells eW) ?hx2 ?hy2 ?hb2 (entCells_length _) ho ?_); ((case hx2 => exact rfl); (case hy2 => exact rfl); (case hb2 => exact Mem.Bx.new w _ (entCells ent0).toArray rfl rfl); intro w1 hb2 hk2 hs2))
  have Hw1 : Hid (EBx w1 w.heap.size eW) := hb2
  have HKw1 : Hid (Below w.heap.size w w1) := (hk2.newBox rfl).belowAll
  clear hb2 hk2 hs2 ho
  go_upto_region 3 with fail
  obtain ⟨w2, hw2⟩ : ∃ z, ((w1.alloc (.cells #[.string ⟨#[107]⟩] 9)).alloc (.cells #[.int .i64 3, .slice (some ⟨w1.heap.size, 0, none⟩) 1 1, .string ⟨#[]⟩, .int .i64 0] 42)) = z := ⟨_, rfl⟩
  have hb12 : Below w1.heap.size w1 w2 := by rw [← hw2]; exact (Reg.below_new w1 _).trans ((Reg.below_new _ _).mono (Reg.below_new w1 _).size)
  have HA2 : Hid (Mem.Bx w2 42 4 (w1.heap.size + 1) (askCells (askE w1.heap.size))) := by
    show Mem.Bx _ _ _ _ _
    rw [← hw2]
    exact Mem.Bx.new (w1.alloc (.cells #[.string ⟨#[107]⟩] 9)) 42 (askCells (askE w1.heap.size)).toArray rfl (Array.size_push _)
  have HK2 : Hid (Mem.Rd w2 w2.heap.size (some ⟨w1.heap.size, 0, none⟩) [sv ⟨#[107]⟩]) := by
    have h0 : Mem.Rd (w1.alloc (.cells #[.string ⟨#[107]⟩] 9)) (w1.heap.size + 1) (some ⟨w1.heap.size, 0, none⟩) [sv ⟨#[107]⟩] := Mem.Rd.alloc_new w1 #[.string ⟨#[107]⟩] 9 _ rfl
    have h1 : (w1.alloc (.cells #[.string ⟨#[107]⟩] 9)).heap.size = w1.heap.size + 1 := Array.size_push _
    show Mem.Rd _ _ _ _
    rw [← hw2]
    exact (h0.alloc (by omega) _).more (by have := (Reg.below_new (w1.alloc (.cells #[.string ⟨#[107]⟩] 9)) (.cells #[.int .i64 3, .slice (some ⟨w1.heap.size, 0, none⟩) 1 1, .string ⟨#[]⟩, .int .i64 0] 42)).size; omega)
  have HW2 : Hid (EBx w2 w.heap.size eW) := Hw1.out.below hb12 Hw1.out.lt
  have HB2 : Hid (Below w.heap.size w w2) := HKw1.out.trans (hb12.mono HKw1.out.size)
  have HAC : Hid (∀ j u, ([.int .i64 3, .slice (some ⟨w1.heap.size, 0, none⟩) 1 1, .string ⟨#[]⟩, .int .i64 0] : List Value)[j]? = some u → w2.cell? ⟨w1.heap.size + 1, 0 + j, none⟩ = some u) := fun j u hu => by rw [Nat.zero_add]; exact HA2.out.cell hu
  have hs2 : w1.heap.size < w2.heap.size := Nat.lt_trans (Nat.lt_succ_self _) HA2.out.lt
  have HS2 := Lib.hid hs2
  obtain ⟨g1, hg1⟩ : ∃ z, w1.heap.size = z := ⟨_, rfl⟩
  try rw [hw2]
  rw [hg1] at HA2 HK2 HAC HS2
  rw [hg1]
  clear hw2 hb12 hs2 hg1 Hw1 HKw1
  go_upto_region 4 with (first
    | ((with_reducible refine Mem.load_agg _ _ ask_agg (g1 + 1) 0 [.int .i64 3, .slice (some ⟨g1, 0, none⟩) 1 1, .string ⟨#[]⟩, .int .i64 0] ?hx rfl HAC.out ?_); case hx => exact rfl)
    | ((with_reducible refine Mem.build1_agg _ _ 22 _ Try.underlying44 res_zero (by decide) (by decide) (rsCells rB) ?hra (rsCells_length _) ?_); (case hra => exact rfl))
    | ((with_reducible refine Mem.build2_agg _ _ 20 _ Try.underlying22 ev_zero (by decide) (by decide) (evCells (evA g1)) (evCells (evB g1 w2.heap.size)) ?hrZ ?hsZ (evCells_length _) (evCells_length _) ?_); ((case hrZ => exact rfl); (case hsZ => exact rfl))))
  obtain ⟨w4, hw4⟩ : ∃ z, ((w2.alloc (.cells (rsCells rB).toArray 48)).alloc (.cells (evCells (evA g1) ++ evCells (evB g1 w2.heap.size)).toArray 46)) = z := ⟨_, rfl⟩
  obtain ⟨w3, hw3⟩ : ∃ z, w2.alloc (.cells (rsCells rB).toArray 48) = z := ⟨_, rfl⟩
  have hb3 : Below w2.heap.size w2 w3 := by rw [← hw3]; exact Reg.below_new _ _
  have hz3 : w3.heap.size = w2.heap.size + 1 := by rw [← hw3]; exact Array.size_push _
  have hw34 : w3.alloc (.cells (evCells (evA g1) ++ evCells (evB g1 w2.heap.size)).toArray 46) = w4 := by rw [← hw3]; exact hw4
  have hb34 : Below w3.heap.size w3 w4 := by rw [← hw34]; exact Reg.below_new _ _
  have hz4 : w4.heap.size = w3.heap.size + 1 := by rw [← hw34]; exact Array.size_push _
  have hb4 : Below w2.heap.size w2 w4 := hb3.trans (hb34.mono hb3.size)
  have HR4 : Hid (Mem.Rd w4 w4.heap.size (some ⟨w2.heap.size, 0, none⟩) (rsCells rB)) := by
    have h0 : Mem.Rd w3 (w2.heap.size + 1) (some ⟨w2.heap.size, 0, none⟩) (rsCells rB) := by rw [← hw3]; exact Mem.Rd.alloc_new w2 (rsCells rB).toArray _ _ rfl
    exact (h0.below (hb34.mono (by omega))).more (by omega)
  have HK4 : Hid (Mem.Rd w4 w4.heap.size (some ⟨g1, 0, none⟩) [sv ⟨#[107]⟩]) := (HK2.out.below hb4).more hb4.size
  have HH4 : Hid (Mem.Rd w4 w4.heap.size (some ⟨w2.heap.size + 1, 0, none⟩) ([evA g1, evB g1 w2.heap.size].flatMap evCells)) := by
    have h0 : Mem.Rd w4 (w3.heap.size + 1) (some ⟨w3.heap.size, 0, none⟩) (evCells (evA g1) ++ evCells (evB g1 w2.heap.size)) := by rw [← hw34]; exact Mem.Rd.alloc_new w3 (evCells (evA g1) ++ evCells (evB g1 w2.heap.size)).toArray _ _ rfl
    rw [hz3] at h0
    have e1 : [evA g1, evB g1 w2.heap.size].flatMap evCells = evCells (evA g1) ++ evCells (evB g1 w2.heap.size) := by rw [List.flatMap_cons, List.flatMap_cons, List.flatMap_nil, List.append_nil]
    show Mem.Rd _ _ _ _
    rw [e1]
    exact h0.more (by omega)
  have HW4 : Hid (EBx w4 w.heap.size eW) := HW2.out.below hb4 HW2.out.lt
  have HB4 : Hid (Below w.heap.size w w4) := HB2.out.trans (hb4.mono HB2.out.size)
  have HEW : Hid (∀ j u, (entCells eW)[j]? = some u → w4.cell? ⟨w.heap.size, 0 + j, none⟩ = some u) := fun j u hu => by rw [Nat.zero_add]; exact HW4.out.cell hu
  have hb5 : Below w4.heap.size w4 (w4.alloc (.cells (entCells eW).toArray 35)) := Reg.below_new _ _
  have HCK : Hid (Calls Try.prog 12 #[.slice (some ⟨w2.heap.size + 1, 0, none⟩) 2 2, .slice (some ⟨w4.heap.size, 0, none⟩) 1 1] (w4.alloc (.cells (entCells eW).toArray 35)) fun x w' => ∃ X c, x = .returned (.slice X 1 c) ∧ Mem.Own w' 50 2 X 1 c [.int .i64 1, .int .i64 8] ∧ Mem.From w4.heap.size X ∧ Below w4.heap.size w4 w') := by
    have hz5 : (w4.alloc (.cells (entCells eW).toArray 35)).heap.size = w4.heap.size + 1 := Array.size_push _
    have h1 := checkL_any (hA := some ⟨w2.heap.size + 1, 0, none⟩) (hc := 2) (h := [evA g1, evB g1 w2.heap.size]) (wA := some ⟨w4.heap.size, 0, none⟩) (wc := 1) (ws := [eW]) (w := w4.alloc (.cells (entCells eW).toArray 35)) ((HH4.out.below hb5).more hb5.size)
      ((Mem.Rd.alloc_new w4 (entCells eW).toArray _ _ rfl : Mem.Rd _ (w4.heap.size + 1) _ _).more (by omega))
      (fun e he => by
        have hk := (HK4.out.below hb5).more hb5.size
        have hr := (HR4.out.below hb5).more hb5.size
        rcases List.mem_cons.1 he with rfl | he
        · exact ⟨⟨hk, .inl rfl, Nat.le_refl _, Nat.le_refl _, by show (1 : Nat) ≤ _; decide, by show (0 : Nat) ≤ _; decide⟩, ok1, by show (0 : Nat) ≤ _; decide⟩
        · rw [List.mem_singleton] at he
          subst he
          exact ⟨⟨hk, hr, Nat.le_refl _, Nat.le_refl _, by show (1 : Nat) ≤ _; decide, by show (1 : Nat) ≤ _; decide⟩, ok1, by show (1 : Nat) ≤ _; decide⟩)
      (Nat.le_refl _) (Nat.le_refl _) (by decide) (by decide) (by show (2 : Nat) ≤ _; decide)
    rw [able_finds] at h1
    refine h1.mono ?_
    rintro x w' ⟨X, c, hx, ho, hf, hb⟩
    exact ⟨X, c, hx, ho, hf.mono hb5.size, hb5.trans (hb.mono hb5.size)⟩
  rw [hw4]
  clear hw4 hw3 hw34 hb3 hz3 hb34 hz4 hb4 hb5 HA2 HK2 HAC HS2 HW2 HB2
  go_upto_region 5 with (first
    | ((with_reducible refine Mem.load_agg _ _ entry_agg w.heap.size 0 (entCells eW) ?hx (entCells_length _) HEW.out ?_); case hx => exact rfl)
    | ((with_reducible refine Mem.build1_agg _ _ 20 _ Try.underlying23 entry_zero (by decide) (by decide) (entCells eW) ?hra (entCells_length _) ?_); (case hra => exact rfl))
    | (go_at_call 12; (refine HCK.out.mono ?_); rintro x w5 ⟨X, cX, rfl, hO5, hF5, hB5⟩; have HO5 := Lib.hid hO5; have HF5 := Lib.hid hF5; have HB5 := Lib.hid hB5; clear hO5 hF5 hB5))
  have HW5 : Hid (EBx w5 w.heap.size eW) := HW4.out.below HB5.out HW4.out.lt
  have HBW5 : Hid (Below w.heap.size w w5) := HB4.out.trans (HB5.out.mono HB4.out.size)
  have HEW5 : Hid (∀ j u, (entCells eW)[j]? = some u → w5.cell? ⟨w.heap.size, 0 + j, none⟩ = some u) := fun j u hu => by rw [Nat.zero_add]; exact HW5.out.cell hu
  have HVS : Hid (Calls Try.prog 15 #[.string ⟨#[107]⟩, .agg (Vec.vcCells cW).toArray, .slice (some ⟨w5.heap.size, 0, none⟩) 1 1] (w5.alloc (.cells (entCells eW).toArray 35)) fun x w' => x = .returned (.tuple #[.agg (entCells eW).toArray, .bool true]) ∧ Below w5.heap.size w5 w') := by
    have hb6 : Below w5.heap.size w5 (w5.alloc (.cells (entCells eW).toArray 35)) := Reg.below_new _ _
    have h1 := visible_any ⟨#[107]⟩ cW (some ⟨w5.heap.size, 0, none⟩) 1 [eW] (w5.heap.size + 1) (w5.alloc (.cells (entCells eW).toArray 35)) (Mem.Rd.alloc_new w5 (entCells eW).toArray _ _ rfl) (Nat.le_of_eq (Array.size_push _).symm) (by decide)
    rw [able_sees] at h1
    refine h1.mono ?_
    rintro x w' ⟨hx, hb⟩
    exact ⟨hx, hb6.trans (hb.mono hb6.size)⟩
  have ho := ent_one eW
  go_upto_region 6 with (first
    | ((with_reducible refine Mem.load_agg _ _ entry_agg w.heap.size 0 (entCells eW) ?hx (entCells_length _) HEW5.out ?_); case hx => exact rfl)
    | ((with_reducible refine Mem.build1_agg _ _ 20 _ Try.underlying23 entry_zero (by decide) (by decide) (entCells eW) ?hra (entCells_length _) ?_); (case hra => exact rfl))
    | (go_at_call 15; (refine HVS.out.mono ?_); rintro x w6 ⟨rfl, hB6⟩; have HB6 := Lib.hid hB6; clear hB6)
    | ((with_reducible refine Mem.store_agg _ _ entry_agg w6.heap.size (entCells ent0) (entCells eW) ?hxj ?hyj ?hbj (entCells_length _) ho ?_); ((case hxj => exact rfl); (case hyj => exact rfl); (case hbj => exact Mem.Bx.new w6 _ (entCells ent0).toArray rfl rfl)); intro w7 hb7 hk7 hs7))
  have HB67 : Hid (Below w5.heap.size w5 w7) := HB6.out.trans ((hk7.newBox rfl).belowAll.mono HB6.out.size)
  have HE7 : Hid (EBx w7 w6.heap.size eW) := hb7
  have HW7 : Hid (EBx w7 w.heap.size eW) := HW5.out.below HB67.out HW5.out.lt
  have HBW7 : Hid (Below w.heap.size w w7) := HBW5.out.trans (HB67.out.mono HBW5.out.size)
  obtain ⟨gX, oX, rfl⟩ := HO5.out.form (by decide)
  have hO7 := HO5.out.below HB67.out (fun q hq => HO5.out.lt hq)
  have y0 : w7.cell? ⟨gX, oX, none⟩ = some (.int .i64 1) := by have := hO7.cell (j := 0) rfl; rwa [Nat.add_zero] at this
  have y1 : w7.cell? ⟨gX, oX + 1, none⟩ = some (.int .i64 8) := hO7.cell (j := 1) rfl
  have e0 : ∀ W, (binOp .eql 50 (.agg #[.int .i64 1, .int .i64 8]) (.agg #[.int .i64 1, .int .i64 8])).run Try.prog W = .ok (.bool true) W := fun W => eql_fi ⟨1, 8⟩ ⟨1, 8⟩ W
  have e1 : ∀ W, (binOp .eql 35 (.agg (entCells eW).toArray) (.agg (entCells eW).toArray)).run Try.prog W = .ok (.bool true) W := fun W => by rw [eql_ent, Vec.eqEnt_iff.2 rfl]
  have HF1 : Hid (∀ j u, (entCells eW)[j]? = some u → w7.cell? ⟨w6.heap.size, 0 + j, none⟩ = some u) := fun j u hu => by rw [Nat.zero_add]; exact HE7.out.cell hu
  have HF2 : Hid (∀ j u, (entCells eW)[j]? = some u → w7.cell? ⟨w.heap.size, 0 + j, none⟩ = some u) := fun j u hu => by rw [Nat.zero_add]; exact HW7.out.cell hu
  have HCL : Hid (Calls Try.prog 17 #[.agg (Vec.vcCells cW).toArray, .slice (some ⟨w7.heap.size, 0, none⟩) 1 1] (w7.alloc (.cells (entCells eW).toArray 35)) fun x w' => x = .returned (.bool true) ∧ Below w7.heap.size w7 w') := by
    have hb8 : Below w7.heap.size w7 (w7.alloc (.cells (entCells eW).toArray 35)) := Reg.below_new _ _
    have h1 := closed_any cW (some ⟨w7.heap.size, 0, none⟩) 1 [eW] (w7.heap.size + 1) (w7.alloc (.cells (entCells eW).toArray 35)) (Mem.Rd.alloc_new w7 (entCells eW).toArray _ _ rfl) (Nat.le_of_eq (Array.size_push _).symm) (by decide)
    rw [able_closed] at h1
    refine h1.mono ?_
    rintro x w' ⟨hx, hb⟩
    exact ⟨hx, hb8.trans (hb.mono hb8.size)⟩
  have HC0 : Hid (∀ w8 : World, Calls Try.prog 12 #[.slice none 0 0, .slice none 0 0] w8 fun x w' => ∃ X c, x = .returned (.slice X 0 c) ∧ Below w8.heap.size w8 w') := fun w8 => by
    have h1 := checkL_any (hA := none) (hc := 0) (h := []) (wA := none) (wc := 0) (ws := []) (w := w8) (.inl rfl) (.inl rfl) (fun e he => by cases he) (Nat.le_refl _) (Nat.le_refl _) (by decide) (by decide) (by show (0 : Nat) ≤ _; decide)
    rw [able_finds0] at h1
    refine h1.mono ?_
    rintro x w' ⟨X, c, hx, ho, hf, hb⟩
    exact ⟨X, c, hx, hb⟩
  clear hb7 hk7 hs7 ho hO7 HO5 HF5 HB5 HVS HCK HEW HEW5 HW4 HW5 HB4 HBW5 HB6 HH4 HK4 HR4
  go_wp2_with (first
    | ((with_reducible refine Mem.load_aggG _ _ entry_agg w6.heap.size 0 (entCells eW) ?hwa ?hxa (entCells_length _) HF1.out ?_); ((case hwa => rfl); (case hxa => exact rfl)))
    | ((with_reducible refine Mem.load_aggG _ _ entry_agg w.heap.size 0 (entCells eW) ?hwb ?hxb (entCells_length _) HF2.out ?_); ((case hwb => rfl); (case hxb => exact rfl)))
    | ((with_reducible refine Mem.build1_aggG _ _ 20 _ Try.underlying23 entry_zero (by decide) (by decide) (entCells eW) ?hwc ?hrc (entCells_length _) ?_); ((case hwc => rfl); (case hrc => exact rfl)))
    | (go_at_call 17; (refine HCL.out.mono ?_); rintro x w8 ⟨rfl, hB8⟩; have HB8 := Lib.hid hB8; clear hB8)
    | (go_at_call 12; (refine (HC0.out w8).mono ?_); rintro x w9 ⟨X9, c9, rfl, hB9⟩; have HB9 := Lib.hid hB9; clear hB9))
  go_ret
  exact ⟨rfl, HBW7.out.trans ((HB8.out.trans (HB9.out.mono HB8.out.size)).mono HBW7.out.size)⟩
end Go.Proofs.Ytelephoalpphkaa
end
section
/- What a cut sees, in plain lists; the walk of AuditVisible. No conditions. -/
set_option maxRecDepth 8000
namespace Go.Proofs.Ytelephoalpphkaa
open Go.ChangeShapes Go.WideShapes Go.ChangeAt Go.RowKit
set_option linter.unusedVariables false
set_option linter.unusedSimpArgs false
namespace Vec
theorem gtE_le {e m : Ent} (h : ¬ 0 < gtE e m) : e.st.c ≤ m.st.c := by
  rcases Int.lt_or_le m.st.c e.st.c with h1 | h1
  · exfalso; apply h
    have h2 : Stamp.cmpI e.st.c m.st.c = 1 := by unfold Stamp.cmpI; rw [if_neg (by omega), if_pos h1]
    simp [gtE, Stamp.cmpS, Stamp.firstNZ, h2]
  · exact h1
theorem gtE_ge {e m : Ent} (h : 0 < gtE e m) : m.st.c ≤ e.st.c := by
  rcases Int.lt_or_le e.st.c m.st.c with h1 | h1
  · exfalso
    have h2 : Stamp.cmpI e.st.c m.st.c = -1 := by unfold Stamp.cmpI; rw [if_pos h1]
    simp [gtE, Stamp.cmpS, Stamp.firstNZ, h2] at h
  · exact h1
theorem dot_at (e : Ent) {q : Nat} {u : Value} (hu : (dtCells (dotE e))[q]? = some u) : (entCells e)[q]? = some u := by
  match q, hu with
  | 0, hu => exact hu
  | 1, hu => exact hu
  | 2, hu => exact hu
  | q + 3, hu => cases hu
/-- is it a write of that key that the cut has? -/
def seenV (key : ByteArray) (cut : Vc) (e : Ent) : Bool := e.key.toList == key.toList && hasD cut (dotE e)
theorem seenV_iff {key : ByteArray} {cut : Vc} {e : Ent} : seenV key cut e = true ↔ e.key = key ∧ hasD cut (dotE e) = true := by
  unfold seenV
  rw [Bool.and_eq_true, beq_iff_eq]
  exact ⟨fun h => ⟨toList_inj h.1, h.2⟩, fun h => ⟨by rw [h.1], h.2⟩⟩
structure SInv (key : ByteArray) (cut : Vc) (seen : List Ent) (p : Ent × Bool) : Prop where
  yes : p.2 = true → p.1 ∈ seen ∧ seenV key cut p.1 = true ∧ ∀ e ∈ seen, seenV key cut e = true → e.st.c ≤ p.1.st.c
  no : p.2 = false → p.1 = ent0 ∧ ∀ e ∈ seen, seenV key cut e = false
theorem SInv.step {key : ByteArray} {cut : Vc} {seen : List Ent} {p : Ent × Bool} (h : SInv key cut seen p) (e : Ent) : SInv key cut (seen ++ [e]) (vStep key cut p e) := by
  have mem : ∀ {x : Ent}, x ∈ seen ++ [e] → x ∈ seen ∨ x = e := fun hx => (List.mem_append.1 hx).elim .inl (fun h => .inr (List.mem_singleton.1 h))
  unfold vStep
  by_cases hk : e.key = key ∧ hasD cut (dotE e) = true
  · have hk' := seenV_iff.2 hk
    rw [if_pos hk]
    by_cases hc : p.2 = false ∨ 0 < gtE e p.1
    · rw [if_pos hc]
      refine ⟨fun _ => ⟨by simp, hk', fun x hx hxk => ?_⟩, fun h => by cases h⟩
      rcases mem hx with hx | rfl
      · rcases hc with hc | hc
        · rw [(h.no hc).2 x hx] at hxk; cases hxk
        · cases hp : p.2
          · rw [(h.no hp).2 x hx] at hxk; cases hxk
          · exact Int.le_trans ((h.yes hp).2.2 x hx hxk) (gtE_ge hc)
      · exact Int.le_refl _
    · rw [if_neg hc]
      have hp : p.2 = true := by cases hp : p.2; exact absurd (.inl hp) hc; rfl
      refine ⟨fun _ => ⟨List.mem_append_left _ (h.yes hp).1, (h.yes hp).2.1, fun x hx hxk => ?_⟩, fun h => by rw [hp] at h; cases h⟩
      rcases mem hx with hx | rfl
      · exact (h.yes hp).2.2 x hx hxk
      · exact gtE_le (fun hg => hc (.inr hg))
  · have hk' : seenV key cut e = false := by cases hq : seenV key cut e; rfl; exact absurd (seenV_iff.1 hq) hk
    rw [if_neg hk]
    refine ⟨fun hp => ⟨List.mem_append_left _ (h.yes hp).1, (h.yes hp).2.1, fun x hx hxk => ?_⟩, fun hp => ⟨(h.no hp).1, fun x hx => ?_⟩⟩
    · rcases mem hx with hx | rfl
      · exact (h.yes hp).2.2 x hx hxk
      · rw [hk'] at hxk; cases hxk
    · rcases mem hx with hx | rfl
      · exact (h.no hp).2 x hx
      · exact hk'
theorem sinv_fold (key : ByteArray) (cut : Vc) : ∀ (l seen : List Ent) (p : Ent × Bool), SInv key cut seen p → SInv key cut (seen ++ l) (l.foldl (vStep key cut) p)
  | [], seen, p, h => by rw [List.append_nil]; exact h
  | e :: l, seen, p, h => by
    have := sinv_fold key cut l (seen ++ [e]) _ (h.step e)
    rw [List.append_assoc] at this
    exact this
theorem sinvV (key : ByteArray) (cut : Vc) (es : List Ent) : SInv key cut es (visible key cut es) := sinv_fold key cut es [] (ent0, false) ⟨fun h => (by cases h), fun _ => ⟨rfl, fun x hx => (by cases hx)⟩⟩
def anyS (key : ByteArray) (cut : Vc) (es : List Ent) : Bool := es.any (seenV key cut)
def anyT (key : ByteArray) (cut : Vc) (m : Ent) (es : List Ent) : Bool := es.any fun e => seenV key cut e && eqEnt e m
theorem anyS_snoc (key : ByteArray) (cut : Vc) (es : List Ent) (e : Ent) : anyS key cut (es ++ [e]) = (anyS key cut es || seenV key cut e) := by unfold anyS; rw [List.any_append]; simp
theorem anyT_snoc (key : ByteArray) (cut : Vc) (m : Ent) (es : List Ent) (e : Ent) : anyT key cut m (es ++ [e]) = (anyT key cut m es || (seenV key cut e && eqEnt e m)) := by unfold anyT; rw [List.any_append]; simp
/-- seen just if there is one; what is seen is one of them -/
theorem SInv.all {key : ByteArray} {cut : Vc} {es : List Ent} {m : Ent} {f : Bool} (h : SInv key cut es (m, f)) : f = anyS key cut es ∧ anyT key cut m es = anyS key cut es ∧ (f = false → m = ent0) := by
  cases f with
  | true =>
    have h1 := h.yes rfl
    have h2 : anyS key cut es = true := List.any_eq_true.2 ⟨m, h1.1, h1.2.1⟩
    have h3 : anyT key cut m es = true := List.any_eq_true.2 ⟨m, h1.1, by rw [h1.2.1, eqEnt_iff.2 rfl]; rfl⟩
    exact ⟨h2.symm, by rw [h2, h3], fun h => by cases h⟩
  | false =>
    have h1 := h.no rfl
    have h2 : anyS key cut es = false := List.any_eq_false.2 fun e he => by rw [h1.2 e he]; simp
    have h3 : anyT key cut m es = false := List.any_eq_false.2 fun e he => by rw [h1.2 e he]; simp
    exact ⟨h2.symm, by rw [h2, h3], fun _ => h1.1⟩
structure AvRel (w : World) (key : ByteArray) (cut : Vc) (es : List Ent) (m : Ent) (s : Nat) (vs vt vi : Value) (wr : World) : Prop where
  out : ∃ k : Nat, k ≤ es.length ∧ vs = .bool (anyS key cut (es.take k)) ∧ vt = .bool (anyT key cut m (es.take k)) ∧ vi = .int .i64 k ∧ Hid (EBx wr s m) ∧ Hid (Vec.VBx wr w.heap.size cut) ∧ Hid (Below w.heap.size w wr)
end Vec
namespace auditVisibleOpen
open Vec
set_option maxRecDepth 20000 in
set_option maxHeartbeats 8000000 in
theorem walk (key : ByteArray) (cut : Vc) (A : Option Addr) (c : Nat) (es : List Ent) (w : World) (hr : Mem.Rd w w.heap.size A (es.flatMap entCells)) (hn : es.length ≤ 8796093022208) (hd : ∀ e ∈ es, EntIn e) (hks : key.size ≤ 140737488351232) :
    Calls Try.prog 8 #[.string key, .agg (vcCells cut).toArray, .slice A es.length c] w fun e w' => e = .returned (.bool true) ∧ Below w.heap.size w w' := by
  have HR := Lib.hid hr
  have HD := Lib.hid hd
  clear hr hd
  go_enter Try.func8, Try.ntmps8
  go_upto_region 1 with fail
  obtain ⟨w1, hw1⟩ : ∃ z, w.alloc (.cells (vcCells cut).toArray 33) = z := ⟨_, rfl⟩
  have HV1 : Hid (Vec.VBx w1 w.heap.size cut) := by show Mem.Bx _ _ _ _ _; rw [← hw1]; exact Mem.Bx.new w 33 (vcCells cut).toArray rfl rfl
  have HB1 : Hid (Below w.heap.size w w1) := by show Below _ _ _; rw [← hw1]; exact Reg.below_new _ _
  rw [hw1]
  clear hw1
  go_wp2_with fail
  refine (auditAble_any w1).mono ?_
  rintro x w2 ⟨rfl, hb2⟩
  have HV2 : Hid (Vec.VBx w2 w.heap.size cut) := HV1.out.below hb2 HV1.out.lt
  have HB2 : Hid (Below w.heap.size w w2) := HB1.out.trans (hb2.mono HB1.out.size)
  clear hb2 HV1 HB1
  go_wp2_with fail
  refine (muchA_any none 0 [] A c es w w2 (.inl rfl) HR.out (by simp) (by omega) (fun e he => by cases he) HD.out HB2.out).mono ?_
  rintro x w3 ⟨b, rfl, hbn, hb3⟩
  have HV3 : Hid (Vec.VBx w3 w.heap.size cut) := HV2.out.below hb3 HV2.out.lt
  have HB3 : Hid (Below w.heap.size w w3) := HB2.out.trans (hb3.mono HB2.out.size)
  clear hb3 HV2 HB2
  by_cases hyes : b = true ∨ 1000 < key.size
  · skip
    rcases hyes with rfl | hk1
    · go_wp2
      go_ret
      exact ⟨rfl, HB3.out⟩
    · have hkd : decide ((1000 : Int) < (key.size : Int)) = true := by simp; omega
      cases b
      · go_wp2
        go_ret
        exact ⟨rfl, HB3.out⟩
      · go_wp2
        go_ret
        exact ⟨rfl, HB3.out⟩
  · obtain rfl : b = false := by cases b; rfl; exact absurd (.inl rfl) hyes
    have hkd : decide ((1000 : Int) < (key.size : Int)) = false := by simp; omega
    have hn3 : es.length ≤ 360 := by have := hbn rfl; simpa using this
    clear hyes hbn hn hks
    have hol := ents_len es
    have hoo := ents_one es
    obtain ⟨⟨m, fd⟩, hmf⟩ : ∃ mf, visible key cut es = mf := ⟨_, rfl⟩
    have HMF4 := Lib.hid hmf
    have HS := Lib.hid (hmf ▸ sinvV key cut es : SInv key cut es (m, fd))
    have HV4 := HV3
    have HB4 := HB3
    clear hmf
    go_upto_region 5 with fail
    refine Reg.wp_region_z (by kernel_rfl) 91 12 rfl rfl (by kernel_rfl) 90 91 (by decide) (10) (fun y => w3.heap.size ≤ y) (0) (fun _ => False) (0) (fun _ => False)
      (fun i f v u => match i with
        | 0 => v = .string key
        | 1 => v = .agg (vcCells cut).toArray
        | 2 => ∃ s0, v = .slice (some ⟨s0, 0, none⟩) 0 0 ∧ Mem.Own u 35 20 (some ⟨s0, 0, none⟩) 0 0 []
        | 3 => v = .slice A es.length c
        | 4 => ∃ A1 c1, v = .slice A1 es.length c1 ∧ Mem.Own u 35 20 A1 es.length c1 (es.flatMap entCells)
        | 5 => v = .tuple #[.agg (entCells m).toArray, .bool fd]
        | 6 => v = .tuple #[.agg (entCells m).toArray, .bool fd]
        | 7 => v = .agg (entCells m).toArray
        | 8 => v = .bool fd
        | 9 => ∃ s, v = .pointer (some ⟨s, 0, none⟩) ∧ w3.heap.size ≤ s ∧ EBx u s ent0
        | 10 => ∃ s, f 7 = .pointer (some ⟨s, 0, none⟩) ∧ w3.heap.size ≤ s ∧ EBx u s m
        | 11 => v = .bool fd
        | _ => True) ?_ ?_
    · refine Reg.StepsZ.cons ?_ (Reg.StepsZ.cons ?_ (Reg.StepsZ.cons ?_ (Reg.StepsZ.cons ?_ (Reg.StepsZ.cons ?_ (Reg.StepsZ.cons ?_ (Reg.StepsZ.cons ?_ (Reg.StepsZ.cons ?_ (Reg.StepsZ.cons ?_ (Reg.StepsZ.cons ?_ (Reg.StepsZ.cons ?_ (Reg.StepsZ.cons ?_ (Reg.StepsZ.nil _))))))))))))
      · intro val ac u hR hp hpq ha K hK0      -- 0: t22 := Op.move t0
        have hK := fun v w' h1 h2 => hK0 v w' h1 h2 (fun j f v' h _ => by omega)
        have e0 : (ac.tmps[0]?).getD undef = .string key := ha 0 (by decide)
        clear ha hp
        refine Reg.Op1.plain rfl ?_
        go_wp2
        exact ⟨rfl, hK _ _ rfl (Reg.Wr.same _)⟩
      · intro val ac u hR hp hpq ha K hK0      -- 1: t23 := Op.load 33 t4
        have hK := fun v w' h1 h2 => hK0 v w' h1 h2 (fun j f v' h _ => by omega)
        have e4 : (ac.tmps[4]?).getD undef = .pointer (some ⟨w.heap.size, 0, none⟩) := ha 4 (by decide)
        clear ha hp
        refine Reg.Op1.plain rfl ?_
        have hq : Mem.Keeps (fun _ => False ∨ False) w3 u := (Mem.Keeps.refl (fun _ => False ∨ False) w3).drew.trans (Reg.Wr.not1 hR (by decide +kernel)) (fun _ h _ => h)
        have hQu := HV4.out.keeps hq (fun h => h.elim id id)
        refine Mem.load_agg _ _ vec_agg w.heap.size 0 (vcCells cut) (Reg.eval_of e4) (vcCells_length _) (fun j u' hu => by rw [Nat.zero_add]; exact hQu.cell hu) ?_
        exact ⟨rfl, hK _ _ rfl (Reg.Wr.same _)⟩
      · intro val ac u hR hp hpq ha K hK0      -- 2: t24 := Op.buildSlice 23 0 #[]
        have hK := fun v w' h1 h2 => hK0 v w' h1 h2 (fun j f v' h _ => by omega)
        clear ha hp
        refine Reg.Op1.plain rfl ?_
        go_wp2
        exact ⟨rfl, hK _ _ ⟨u.heap.size, rfl, Mem.Own.lit u _ 20 #[] 0 rfl rfl (by simp [maxLen])⟩ (Reg.Wr.quiet ((Mem.Keeps.refl _ u).alloc _))⟩
      · intro val ac u hR hp hpq ha K hK0      -- 3: t25 := Op.move t2
        have hK := fun v w' h1 h2 => hK0 v w' h1 h2 (fun j f v' h _ => by omega)
        have e2 : (ac.tmps[2]?).getD undef = .slice A es.length c := ha 2 (by decide)
        clear ha hp
        refine Reg.Op1.plain rfl ?_
        go_wp2
        exact ⟨rfl, hK _ _ rfl (Reg.Wr.same _)⟩
      · intro val ac u hR hp hpq ha K hK0      -- 4: t26 := Op.call { builtin append, args := #[t24, t25], argTypes := #[23, 23] }
        have hK := fun v w' h1 h2 => hK0 v w' h1 h2 (fun j f v' h _ => by omega)
        obtain ⟨w24, h24, r24⟩ := hp 2 (by decide)
        have e24 : (ac.tmps[24]?).getD undef = val 2 := ha 24 (by decide)
        obtain ⟨w25, h25, r25⟩ := hp 3 (by decide)
        have e25 : (ac.tmps[25]?).getD undef = .slice A es.length c := (ha 25 (by decide)).trans h25
        clear h25
        clear ha hp
        refine Reg.Op1.plain rfl ?_
        obtain ⟨s0, hv, ho⟩ := h24
        rw [hv] at e24
        have ho' := ho.keeps (Reg.Wr.not1 r24 (by decide +kernel)) (fun _ _ h => h.elim id id)
        have hq : Mem.Keeps (fun _ => False ∨ False) w3 u := (Mem.Keeps.refl (fun _ => False ∨ False) w3).drew.trans (Reg.Wr.not1 hR (by decide +kernel)) (fun _ h _ => h)
        have hbu := HB4.out.trans (hq.below (B := w.heap.size) (fun k h => h.elim (fun h => h.elim) (fun h => h.elim)) HB4.out.size)
        refine Mem.wpList_app0 u rfl (.tmp 24) (.tmp 25) _ rfl entries_elem (some ⟨s0, 0, none⟩) (Reg.eval_of e24) w.heap.size A es.length c (es.flatMap entCells) (Reg.eval_of e25) ?_ ho' (HR.out.below hbu) hol hoo (by unfold maxLen; omega) (by omega)
        intro A' c' w' hown hbl hat
        exact ⟨rfl, hK _ _ ⟨A', c', rfl, hown⟩ (Reg.Wr.below hbl)⟩
      · intro val ac u hR hp hpq ha K hK0      -- 5: t27 := Op.call { value (Operand.func 15), args := #[t22, t23, t26], argTypes := #[9, 33, 23] }
        have hK := fun v w' h1 h2 => hK0 v w' h1 h2 (fun j f v' h _ => by omega)
        obtain ⟨w22, h22, r22⟩ := hp 0 (by decide)
        have e22 : (ac.tmps[22]?).getD undef = .string key := (ha 22 (by decide)).trans h22
        clear h22
        obtain ⟨w23, h23, r23⟩ := hp 1 (by decide)
        have e23 : (ac.tmps[23]?).getD undef = .agg (vcCells cut).toArray := (ha 23 (by decide)).trans h23
        clear h23
        obtain ⟨w26, h26, r26⟩ := hp 4 (by decide)
        have e26 : (ac.tmps[26]?).getD undef = val 4 := ha 26 (by decide)
        clear ha hp
        refine Reg.Op1.plain rfl ?_
        obtain ⟨A1, c1, hv, ho⟩ := h26
        rw [hv] at e26
        have ho' := ho.keeps (Reg.Wr.not1 r26 (by decide +kernel)) (fun _ _ h => h.elim id id)
        go_wp2_with fail
        refine (visible_any key cut A1 c1 es u.heap.size u ho'.rd (Nat.le_refl _) (by unfold maxLen; omega)).mono ?_
        rintro x w' ⟨rfl, hbw⟩
        rw [HMF4.out]
        go_wp2_with fail
        exact ⟨rfl, hK _ _ rfl (Reg.Wr.below hbw)⟩
      · intro val ac u hR hp hpq ha K hK0      -- 6: t21 := Op.move t27
        have hK := fun v w' h1 h2 => hK0 v w' h1 h2 (fun j f v' h _ => by omega)
        obtain ⟨w27, h27, r27⟩ := hp 5 (by decide)
        have e27 : (ac.tmps[27]?).getD undef = .tuple #[.agg (entCells m).toArray, .bool fd] := (ha 27 (by decide)).trans h27
        clear h27
        clear ha hp
        refine Reg.Op1.plain rfl ?_
        go_wp2
        exact ⟨rfl, hK _ _ rfl (Reg.Wr.same _)⟩
      · intro val ac u hR hp hpq ha K hK0      -- 7: t28 := Op.extract t21 0
        have hK := fun v w' h1 h2 => hK0 v w' h1 h2 (fun j f v' h _ => by omega)
        obtain ⟨w21, h21, r21⟩ := hp 6 (by decide)
        have e21 : (ac.tmps[21]?).getD undef = .tuple #[.agg (entCells m).toArray, .bool fd] := (ha 21 (by decide)).trans h21
        clear h21
        clear ha hp
        refine Reg.Op1.plain rfl ?_
        go_wp2
        exact ⟨rfl, hK _ _ rfl (Reg.Wr.same _)⟩
      · intro val ac u hR hp hpq ha K hK0      -- 8: t29 := Op.extract t21 1
        have hK := fun v w' h1 h2 => hK0 v w' h1 h2 (fun j f v' h _ => by omega)
        obtain ⟨w21, h21, r21⟩ := hp 6 (by decide)
        have e21 : (ac.tmps[21]?).getD undef = .tuple #[.agg (entCells m).toArray, .bool fd] := (ha 21 (by decide)).trans h21
        clear h21
        clear ha hp
        refine Reg.Op1.plain rfl ?_
        go_wp2
        exact ⟨rfl, hK _ _ rfl (Reg.Wr.same _)⟩
      · intro val ac u hR hp hpq ha K hK0      -- 9: t7 := Op.alloc 35
        have hK := fun v w' h1 h2 => hK0 v w' h1 h2 (fun j f v' h _ => by omega)
        clear ha hp
        refine Reg.Op1.plain rfl ?_
        have hbu : w3.heap.size ≤ u.heap.size := (Reg.Wr.all hR).size
        go_wp2
        exact ⟨rfl, hK _ _ ⟨u.heap.size, rfl, hbu, Mem.Bx.new u 35 (entCells ent0).toArray rfl rfl⟩ (Reg.Wr.quiet ((Mem.Keeps.refl _ u).alloc _))⟩
      · intro val ac u hR hp hpq ha K hK0      -- 10: Op.store 35 t7 t28
        have hK := fun v w' h1 h2 => hK0 v w' h1 h2 (fun j f v' h _ => by omega)
        obtain ⟨w7, h7, r7⟩ := hp 9 (by decide)
        have e7 : (ac.tmps[7]?).getD undef = val 9 := ha 7 (by decide)
        obtain ⟨w28, h28, r28⟩ := hp 7 (by decide)
        have e28 : (ac.tmps[28]?).getD undef = .agg (entCells m).toArray := (ha 28 (by decide)).trans h28
        clear h28
        clear ha hp
        refine Reg.Op1.plain rfl ?_
        obtain ⟨s, hv, hs, hbx⟩ := h7
        have hv7 := hv
        rw [hv] at e7
        have hbx' : EBx u s ent0 := hbx.keeps (Reg.Wr.not1 r7 (by decide +kernel)) (fun h => h.elim id id)
        refine Mem.store_agg _ _ entry_agg s (entCells ent0) (entCells m) (Reg.eval_of e7) (Reg.eval_of e28) hbx' (entCells_length _) (ent_one _) ?_
        intro w' hb hk hs'
        exact ⟨rfl, hK undef _ ⟨s, hv7, hs, hb⟩ (Reg.Wr.does1 (hk.mono (fun i h _ => by show w3.heap.size ≤ i; omega)))⟩
      · intro val ac u hR hp hpq ha K hK0      -- 11: t8 := Op.assign t29
        have hK := fun v w' h1 h2 => hK0 v w' h1 h2 (fun j f v' h _ => by omega)
        obtain ⟨w29, h29, r29⟩ := hp 8 (by decide)
        have e29 : (ac.tmps[29]?).getD undef = .bool fd := (ha 29 (by decide)).trans h29
        clear h29
        clear ha hp
        refine Reg.Op1.plain rfl ?_
        go_wp2
        exact ⟨rfl, hK _ _ rfl (Reg.Wr.same _)⟩
    intro val u hR H hZ
    obtain ⟨wA, ⟨s, hv7, hs, hb⟩, rA⟩ := H 10 (by decide)
    have hv7 : val 9 = .pointer (some ⟨s, 0, none⟩) := hv7
    obtain ⟨wB, hv8, rB⟩ := H 11 (by decide)
    have hv8 : val 11 = .bool fd := hv8
    have hq : Mem.Keeps (fun y => w3.heap.size ≤ y ∨ False ∨ False) w3 u := (Mem.Keeps.refl (fun y => w3.heap.size ≤ y ∨ False ∨ False) w3).drew.trans (Reg.Wr.all hR) (fun _ h _ => h)
    have hne : ∀ y, y < w3.heap.size → ¬ (w3.heap.size ≤ y ∨ False ∨ False) := fun y hy h => by rcases h with h | h | h <;> first | omega | exact h
    have HE7 : Hid (EBx u s m) := hb.keeps (Reg.Wr.not1 rA (by decide +kernel)) (fun h => h.elim id id)
    have HK7 : Hid (Below w3.heap.size w3 u) := hq.below (fun y h => by rcases h with h | h | h <;> first | exact h | exact h.elim) (Nat.le_refl _)
    simp only [List.map_cons, List.map_nil, Reg.lay, Act.put, List.setIfInBounds_toArray, List.set_cons_succ, List.set_cons_zero, Nat.reduceAdd, hv7, hv8]
    clear hR H hZ hq hb rA rB hv7 hv8 hne hs
    obtain ⟨w4, hw4⟩ : ∃ z, z = u := ⟨_, rfl⟩
    subst hw4
    have HV5 : Hid (Vec.VBx w4 w.heap.size cut) := HV4.out.below HK7.out HV4.out.lt
    have HB5 : Hid (Below w.heap.size w w4) := HB4.out.trans (HK7.out.mono HB4.out.size)
    clear HV4 HB4 HV3 HB3 HK7 hol hoo
    go_wp2
    go_loopw [9, 10, 11] (AvRel w key cut es m s) (fun _ _ t _ => es.length - (intOf t).toNat)
    case atStart => exact ⟨⟨0, by omega, rfl, rfl, rfl, HE7, HV5, HB5⟩⟩
    case round =>
      clear HE7 HV5 HB5
      obtain ⟨k, hk, rfl, rfl, rfl, HE, HV, HB⟩ := hrel.out
      clear hrel
      by_cases hlt : k < es.length
      · obtain ⟨b, o, e, rfl, hb, he, hat⟩ := Vec.ent_elem HR.out hlt
        have d0 : decide ((k : Int) < (es.length : Int)) = true := by simp; omega
        have HTK := Lib.hid (show anyS key cut (es.take (k + 1)) = (anyS key cut (es.take k) || seenV key cut e) by rw [Mem.take_snoc he, anyS_snoc])
        have HTT := Lib.hid (show anyT key cut m (es.take (k + 1)) = (anyT key cut m (es.take k) || (seenV key cut e && eqEnt e m)) by rw [Mem.take_snoc he, anyT_snoc])
        have HME := Lib.hid (List.mem_of_getElem? he)
        have HLT := Lib.hid hlt
        have HAT := Lib.hid (hat.below HB.out hb)
        have hbw := Nat.lt_of_lt_of_le hb HB.out.size
        clear hat he hlt
        go_upto_region 10 with fail
        by_cases hkey : e.key = key
        · have HKD : Hid ((e.key.toList == key.toList) = true) := Vec.str_eq hkey
          cases hhd : hasD cut (dotE e)
          · have hsv : seenV key cut e = false := by unfold seenV; rw [hhd, Bool.and_false]
            have HHD := Lib.hid hhd
            clear hkey hhd
            have HAK : Hid (anyS key cut (es.take (k + 1)) = anyS key cut (es.take k)) := by show _ = _; rw [HTK.out, hsv, Bool.or_false]
            have HAT2 : Hid (anyT key cut m (es.take (k + 1)) = anyT key cut m (es.take k)) := by show _ = _; rw [HTT.out, hsv, Bool.false_and, Bool.or_false]
            clear hsv HTK HTT HME
            refine Reg.wp_region_rel (by kernel_rfl) 91 17 rfl rfl (by kernel_rfl) (Reg.Adds) (Reg.Adds.refl) (Reg.Adds.trans)
              (fun i v u => match i with
                | 0 => v = .slice (some ⟨b, o, none⟩) es.length c
                | 1 => v = .int .i64 k
                | 2 => v = .pointer (some ⟨b, o + k * 20, none⟩)
                | 3 => v = .pointer (some ⟨b, o + k * 20 + 6, none⟩)
                | 4 => v = .string e.key
                | 5 => v = .string key
                | 6 => v = .bool false
                | 7 => v = .bool false
                | 8 => v = .agg (vcCells cut).toArray
                | 9 => v = .slice (some ⟨b, o, none⟩) es.length c
                | 10 => v = .int .i64 k
                | 11 => v = .pointer (some ⟨b, o + k * 20, none⟩)
                | 12 => v = .pointer (some ⟨b, o + k * 20, none⟩)
                | 13 => v = .agg (dtCells (dotE e)).toArray
                | 14 => v = .bool false
                | 15 => v = .bool true
                | 16 => v = .bool true
                | _ => True) ?_ ?_
            · refine Reg.Steps.cons ?_ (Reg.Steps.cons ?_ (Reg.Steps.cons ?_ (Reg.Steps.cons ?_ (Reg.Steps.cons ?_ (Reg.Steps.cons ?_ (Reg.Steps.cons ?_ (Reg.Steps.cons ?_ (Reg.Steps.cons ?_ (Reg.Steps.cons ?_ (Reg.Steps.cons ?_ (Reg.Steps.cons ?_ (Reg.Steps.cons ?_ (Reg.Steps.cons ?_ (Reg.Steps.cons ?_ (Reg.Steps.cons ?_ (Reg.Steps.cons ?_ (Reg.Steps.nil _)))))))))))))))))
              · intro val ac u hR hp ha K hK      -- 0: t36 := Op.move t2
                have e2 : (ac.tmps[2]?).getD undef = .slice (some ⟨b, o, none⟩) es.length c := ha 2 (by decide)
                clear ha hp
                refine Reg.Op1.plain rfl ?_
                go_wp2
                exact ⟨rfl, hK _ _ rfl (fun j k _ _ => Reg.Adds.refl _ _ _)⟩
              · intro val ac u hR hp ha K hK      -- 1: t37 := Op.move t11
                have e11 : (ac.tmps[11]?).getD undef = .int .i64 k := ha 11 (by decide)
                clear ha hp
                refine Reg.Op1.plain rfl ?_
                go_wp2
                exact ⟨rfl, hK _ _ rfl (fun j k _ _ => Reg.Adds.refl _ _ _)⟩
              · intro val ac u hR hp ha K hK      -- 2: t38 := Op.indexAddr 23 t36 t37
                obtain ⟨w36, h36, r36⟩ := hp 0 (by decide)
                have e36 : (ac.tmps[36]?).getD undef = .slice (some ⟨b, o, none⟩) es.length c := (ha 36 (by decide)).trans h36
                clear h36
                obtain ⟨w37, h37, r37⟩ := hp 1 (by decide)
                have e37 : (ac.tmps[37]?).getD undef = .int .i64 k := (ha 37 (by decide)).trans h37
                clear h37
                clear ha hp
                refine Reg.Op1.plain rfl ?_
                go_wp2
                exact ⟨rfl, hK _ _ rfl (fun j k _ _ => Reg.Adds.refl _ _ _)⟩
              · intro val ac u hR hp ha K hK      -- 3: t39 := Op.fieldAddr 35 t38 2
                obtain ⟨w38, h38, r38⟩ := hp 2 (by decide)
                have e38 : (ac.tmps[38]?).getD undef = .pointer (some ⟨b, o + k * 20, none⟩) := (ha 38 (by decide)).trans h38
                clear h38
                clear ha hp
                refine Reg.Op1.plain rfl ?_
                go_wp2
                exact ⟨rfl, hK _ _ rfl (fun j k _ _ => Reg.Adds.refl _ _ _)⟩
              · intro val ac u hR hp ha K hK      -- 4: t40 := Op.load 9 t39
                obtain ⟨w39, h39, r39⟩ := hp 3 (by decide)
                have e39 : (ac.tmps[39]?).getD undef = .pointer (some ⟨b, o + k * 20 + 6, none⟩) := (ha 39 (by decide)).trans h39
                clear h39
                clear ha hp
                refine Reg.Op1.plain rfl ?_
                have x6 := (hR.cell (p := ⟨b, o + k * 20 + 6, none⟩) hbw).trans (HAT.out.c 6 _ rfl)
                go_wp2
                exact ⟨rfl, hK _ _ rfl (fun j k _ _ => Reg.Adds.refl _ _ _)⟩
              · intro val ac u hR hp ha K hK      -- 5: t41 := Op.move t0
                have e0 : (ac.tmps[0]?).getD undef = .string key := ha 0 (by decide)
                clear ha hp
                refine Reg.Op1.plain rfl ?_
                go_wp2
                exact ⟨rfl, hK _ _ rfl (fun j k _ _ => Reg.Adds.refl _ _ _)⟩
              · intro val ac u hR hp ha K hK      -- 6: t42 := Op.binOp BinOp.neq 9 t40 t41 9
                obtain ⟨w40, h40, r40⟩ := hp 4 (by decide)
                have e40 : (ac.tmps[40]?).getD undef = .string e.key := (ha 40 (by decide)).trans h40
                clear h40
                obtain ⟨w41, h41, r41⟩ := hp 5 (by decide)
                have e41 : (ac.tmps[41]?).getD undef = .string key := (ha 41 (by decide)).trans h41
                clear h41
                clear ha hp
                have hkd := HKD.out
                refine Reg.Op1.plain rfl ?_
                go_wp2
                exact ⟨rfl, hK _ _ rfl (fun j k _ _ => Reg.Adds.refl _ _ _)⟩
              · intro val ac u hR hp ha K hK      -- 7: t43 := Op.move t42
                obtain ⟨w42, h42, r42⟩ := hp 6 (by decide)
                have e42 : (ac.tmps[42]?).getD undef = .bool false := (ha 42 (by decide)).trans h42
                clear h42
                clear ha hp
                refine Reg.Op1.plain rfl ?_
                go_wp2
                exact ⟨rfl, hK _ _ rfl (fun j k _ _ => Reg.Adds.refl _ _ _)⟩
              · intro val ac u hR hp ha K hK      -- 8: t44 := Op.load 33 t4
                have e4 : (ac.tmps[4]?).getD undef = .pointer (some ⟨w.heap.size, 0, none⟩) := ha 4 (by decide)
                obtain ⟨w43, h43, r43⟩ := hp 7 (by decide)
                have e43 : (ac.tmps[43]?).getD undef = .bool false := (ha 43 (by decide)).trans h43
                clear h43
                clear ha hp
                refine Reg.Op1.guarded rfl rfl e43 (fun _ => Reg.Op1.plain rfl ?_) (fun h => absurd rfl h)
                have hVu : Vec.VBx u w.heap.size cut := Mem.Bx.below (w := wr.drew) HV.out hR HV.out.lt
                refine Mem.load_aggG _ _ vec_agg w.heap.size 0 (vcCells cut) (by simp [Region.wanted]) (Reg.eval_of e4) (vcCells_length _) (fun j u' hu => by rw [Nat.zero_add]; exact hVu.cell hu) ?_
                exact ⟨rfl, hK _ _ rfl (fun j k _ _ => Reg.Adds.refl _ _ _)⟩
              · intro val ac u hR hp ha K hK      -- 9: t45 := Op.move t2
                have e2 : (ac.tmps[2]?).getD undef = .slice (some ⟨b, o, none⟩) es.length c := ha 2 (by decide)
                obtain ⟨w43, h43, r43⟩ := hp 7 (by decide)
                have e43 : (ac.tmps[43]?).getD undef = .bool false := (ha 43 (by decide)).trans h43
                clear h43
                clear ha hp
                refine Reg.Op1.guarded rfl rfl e43 (fun _ => Reg.Op1.plain rfl ?_) (fun h => absurd rfl h)
                go_wp2
                exact ⟨rfl, hK _ _ rfl (fun j k _ _ => Reg.Adds.refl _ _ _)⟩
              · intro val ac u hR hp ha K hK      -- 10: t46 := Op.move t11
                have e11 : (ac.tmps[11]?).getD undef = .int .i64 k := ha 11 (by decide)
                obtain ⟨w43, h43, r43⟩ := hp 7 (by decide)
                have e43 : (ac.tmps[43]?).getD undef = .bool false := (ha 43 (by decide)).trans h43
                clear h43
                clear ha hp
                refine Reg.Op1.guarded rfl rfl e43 (fun _ => Reg.Op1.plain rfl ?_) (fun h => absurd rfl h)
                go_wp2
                exact ⟨rfl, hK _ _ rfl (fun j k _ _ => Reg.Adds.refl _ _ _)⟩
              · intro val ac u hR hp ha K hK      -- 11: t47 := Op.indexAddr 23 t45 t46
                obtain ⟨w45, h45, r45⟩ := hp 9 (by decide)
                have e45 : (ac.tmps[45]?).getD undef = .slice (some ⟨b, o, none⟩) es.length c := (ha 45 (by decide)).trans h45
                clear h45
                obtain ⟨w46, h46, r46⟩ := hp 10 (by decide)
                have e46 : (ac.tmps[46]?).getD undef = .int .i64 k := (ha 46 (by decide)).trans h46
                clear h46
                obtain ⟨w43, h43, r43⟩ := hp 7 (by decide)
                have e43 : (ac.tmps[43]?).getD undef = .bool false := (ha 43 (by decide)).trans h43
                clear h43
                clear ha hp
                refine Reg.Op1.guarded rfl rfl e43 (fun _ => Reg.Op1.plain rfl ?_) (fun h => absurd rfl h)
                go_wp2
                exact ⟨rfl, hK _ _ rfl (fun j k _ _ => Reg.Adds.refl _ _ _)⟩
              · intro val ac u hR hp ha K hK      -- 12: t48 := Op.fieldAddr 35 t47 0
                obtain ⟨w47, h47, r47⟩ := hp 11 (by decide)
                have e47 : (ac.tmps[47]?).getD undef = .pointer (some ⟨b, o + k * 20, none⟩) := (ha 47 (by decide)).trans h47
                clear h47
                obtain ⟨w43, h43, r43⟩ := hp 7 (by decide)
                have e43 : (ac.tmps[43]?).getD undef = .bool false := (ha 43 (by decide)).trans h43
                clear h43
                clear ha hp
                refine Reg.Op1.guarded rfl rfl e43 (fun _ => Reg.Op1.plain rfl ?_) (fun h => absurd rfl h)
                go_wp2
                exact ⟨rfl, hK _ _ rfl (fun j k _ _ => Reg.Adds.refl _ _ _)⟩
              · intro val ac u hR hp ha K hK      -- 13: t49 := Op.load 28 t48
                obtain ⟨w48, h48, r48⟩ := hp 12 (by decide)
                have e48 : (ac.tmps[48]?).getD undef = .pointer (some ⟨b, o + k * 20, none⟩) := (ha 48 (by decide)).trans h48
                clear h48
                obtain ⟨w43, h43, r43⟩ := hp 7 (by decide)
                have e43 : (ac.tmps[43]?).getD undef = .bool false := (ha 43 (by decide)).trans h43
                clear h43
                clear ha hp
                refine Reg.Op1.guarded rfl rfl e43 (fun _ => Reg.Op1.plain rfl ?_) (fun h => absurd rfl h)
                refine Mem.load_aggG _ _ dot_agg b (o + k * 20) (dtCells (dotE e)) (by simp [Region.wanted]) (Reg.eval_of e48) (dtCells_length _) (fun q u' hu => (hR.cell (p := ⟨b, o + k * 20 + q, none⟩) hbw).trans (HAT.out.c q u' (Vec.dot_at e hu))) ?_
                exact ⟨rfl, hK _ _ rfl (fun j k _ _ => Reg.Adds.refl _ _ _)⟩
              · intro val ac u hR hp ha K hK      -- 14: t50 := Op.call { value (Operand.func 20), args := #[t44, t49], argTypes := #[33, 28] }
                obtain ⟨w44, h44, r44⟩ := hp 8 (by decide)
                have e44 : (ac.tmps[44]?).getD undef = .agg (vcCells cut).toArray := (ha 44 (by decide)).trans h44
                clear h44
                obtain ⟨w49, h49, r49⟩ := hp 13 (by decide)
                have e49 : (ac.tmps[49]?).getD undef = .agg (dtCells (dotE e)).toArray := (ha 49 (by decide)).trans h49
                clear h49
                obtain ⟨w43, h43, r43⟩ := hp 7 (by decide)
                have e43 : (ac.tmps[43]?).getD undef = .bool false := (ha 43 (by decide)).trans h43
                clear h43
                clear ha hp
                refine Reg.Op1.guarded rfl rfl e43 (fun _ => Reg.Op1.plain rfl ?_) (fun h => absurd rfl h)
                go_wp2_with fail
                refine (hasD_any cut (dotE e) u).mono ?_
                rintro x w' ⟨rfl, hbw⟩
                rw [HHD.out]
                go_wp2_with fail
                exact ⟨rfl, hK _ _ rfl (fun j k _ _ => hbw)⟩
              · intro val ac u hR hp ha K hK      -- 15: t51 := Op.unOp UnOp.not 4 t50
                obtain ⟨w50, h50, r50⟩ := hp 14 (by decide)
                have e50 : (ac.tmps[50]?).getD undef = .bool false := (ha 50 (by decide)).trans h50
                clear h50
                obtain ⟨w43, h43, r43⟩ := hp 7 (by decide)
                have e43 : (ac.tmps[43]?).getD undef = .bool false := (ha 43 (by decide)).trans h43
                clear h43
                clear ha hp
                refine Reg.Op1.guarded rfl rfl e43 (fun _ => Reg.Op1.plain rfl ?_) (fun h => absurd rfl h)
                go_wp2
                exact ⟨rfl, hK _ _ rfl (fun j k _ _ => Reg.Adds.refl _ _ _)⟩
              · intro val ac u hR hp ha K hK      -- 16: t52 := Op.pick t43 (const (Value.bool true)) t51
                obtain ⟨w43, h43, r43⟩ := hp 7 (by decide)
                have e43 : (ac.tmps[43]?).getD undef = .bool false := (ha 43 (by decide)).trans h43
                clear h43
                obtain ⟨w51, h51, r51⟩ := hp 15 (by decide)
                have e51 : (ac.tmps[51]?).getD undef = .bool true := (ha 51 (by decide)).trans h51
                clear h51
                clear ha hp
                refine Reg.Op1.plain rfl ?_
                go_wp2
                exact ⟨rfl, hK _ _ rfl (fun j k _ _ => Reg.Adds.refl _ _ _)⟩
            intro val u hR H
            obtain ⟨wB, hv, rB⟩ := H 16 (by decide)
            have hv : val 16 = .bool true := hv
            have HKu : Hid (Below wr.heap.size wr u) := (Below.refl _ wr).drew.trans hR
            simp only [List.map_cons, List.map_nil, Reg.lay, Act.put, List.setIfInBounds_toArray, List.set_cons_succ, List.set_cons_zero, Nat.reduceAdd, hv]
            clear hR H hv rB
            obtain ⟨wy, hwy⟩ : ∃ z, z = u := ⟨_, rfl⟩
            subst hwy
            go_wp2
            go_roundw
            case rel => exact ⟨⟨k + 1, HLT.out, by rw [HAK.out], by rw [HAT2.out], by go_num, HE.out.below HKu.out HE.out.lt, HV.out.below HKu.out HV.out.lt, HB.out.trans (HKu.out.mono HB.out.size)⟩⟩
            case measure => exact Au.meas_lt HLT.out
          · have hsv : seenV key cut e = true := by unfold seenV; rw [hhd, HKD.out]; rfl
            have HHD := Lib.hid hhd
            have hfd : fd = true := by
              cases hfd : fd
              · have h1 := (HS.out.no hfd).2 e HME.out
                rw [h1] at hsv; cases hsv
              · rfl
            have hcnt := (HS.out.yes hfd).2.2 e HME.out hsv
            have HAK : Hid (anyS key cut (es.take (k + 1)) = true) := by show _ = _; rw [HTK.out, hsv, Bool.or_true]
            have HAT2 : Hid (anyT key cut m (es.take (k + 1)) = (anyT key cut m (es.take k) || eqEnt e m)) := by show _ = _; rw [HTT.out, hsv, Bool.true_and]
            have HCNT : Hid (decide (m.st.c < e.st.c) = false) := by show _ = _; simp; omega
            subst hfd
            clear hkey hhd hsv hcnt HTK HTT HME
            refine Reg.wp_region_rel (by kernel_rfl) 91 17 rfl rfl (by kernel_rfl) (Reg.Adds) (Reg.Adds.refl) (Reg.Adds.trans)
              (fun i v u => match i with
                | 0 => v = .slice (some ⟨b, o, none⟩) es.length c
                | 1 => v = .int .i64 k
                | 2 => v = .pointer (some ⟨b, o + k * 20, none⟩)
                | 3 => v = .pointer (some ⟨b, o + k * 20 + 6, none⟩)
                | 4 => v = .string e.key
                | 5 => v = .string key
                | 6 => v = .bool false
                | 7 => v = .bool false
                | 8 => v = .agg (vcCells cut).toArray
                | 9 => v = .slice (some ⟨b, o, none⟩) es.length c
                | 10 => v = .int .i64 k
                | 11 => v = .pointer (some ⟨b, o + k * 20, none⟩)
                | 12 => v = .pointer (some ⟨b, o + k * 20, none⟩)
                | 13 => v = .agg (dtCells (dotE e)).toArray
                | 14 => v = .bool true
                | 15 => v = .bool false
                | 16 => v = .bool false
                | _ => True) ?_ ?_
            · refine Reg.Steps.cons ?_ (Reg.Steps.cons ?_ (Reg.Steps.cons ?_ (Reg.Steps.cons ?_ (Reg.Steps.cons ?_ (Reg.Steps.cons ?_ (Reg.Steps.cons ?_ (Reg.Steps.cons ?_ (Reg.Steps.cons ?_ (Reg.Steps.cons ?_ (Reg.Steps.cons ?_ (Reg.Steps.cons ?_ (Reg.Steps.cons ?_ (Reg.Steps.cons ?_ (Reg.Steps.cons ?_ (Reg.Steps.cons ?_ (Reg.Steps.cons ?_ (Reg.Steps.nil _)))))))))))))))))
              · intro val ac u hR hp ha K hK      -- 0: t36 := Op.move t2
                have e2 : (ac.tmps[2]?).getD undef = .slice (some ⟨b, o, none⟩) es.length c := ha 2 (by decide)
                clear ha hp
                refine Reg.Op1.plain rfl ?_
                go_wp2
                exact ⟨rfl, hK _ _ rfl (fun j k _ _ => Reg.Adds.refl _ _ _)⟩
              · intro val ac u hR hp ha K hK      -- 1: t37 := Op.move t11
                have e11 : (ac.tmps[11]?).getD undef = .int .i64 k := ha 11 (by decide)
                clear ha hp
                refine Reg.Op1.plain rfl ?_
                go_wp2
                exact ⟨rfl, hK _ _ rfl (fun j k _ _ => Reg.Adds.refl _ _ _)⟩
              · intro val ac u hR hp ha K hK      -- 2: t38 := Op.indexAddr 23 t36 t37
                obtain ⟨w36, h36, r36⟩ := hp 0 (by decide)
                have e36 : (ac.tmps[36]?).getD undef = .slice (some ⟨b, o, none⟩) es.length c := (ha 36 (by decide)).trans h36
                clear h36
                obtain ⟨w37, h37, r37⟩ := hp 1 (by decide)
                have e37 : (ac.tmps[37]?).getD undef = .int .i64 k := (ha 37 (by decide)).trans h37
                clear h37
                clear ha hp
                refine Reg.Op1.plain rfl ?_
                go_wp2
                exact ⟨rfl, hK _ _ rfl (fun j k _ _ => Reg.Adds.refl _ _ _)⟩
              · intro val ac u hR hp ha K hK      -- 3: t39 := Op.fieldAddr 35 t38 2
                obtain ⟨w38, h38, r38⟩ := hp 2 (by decide)
                have e38 : (ac.tmps[38]?).getD undef = .pointer (some ⟨b, o + k * 20, none⟩) := (ha 38 (by decide)).trans h38
                clear h38
                clear ha hp
                refine Reg.Op1.plain rfl ?_
                go_wp2
                exact ⟨rfl, hK _ _ rfl (fun j k _ _ => Reg.Adds.refl _ _ _)⟩
              · intro val ac u hR hp ha K hK      -- 4: t40 := Op.load 9 t39
                obtain ⟨w39, h39, r39⟩ := hp 3 (by decide)
                have e39 : (ac.tmps[39]?).getD undef = .pointer (some ⟨b, o + k * 20 + 6, none⟩) := (ha 39 (by decide)).trans h39
                clear h39
                clear ha hp
                refine Reg.Op1.plain rfl ?_
                have x6 := (hR.cell (p := ⟨b, o + k * 20 + 6, none⟩) hbw).trans (HAT.out.c 6 _ rfl)
                go_wp2
                exact ⟨rfl, hK _ _ rfl (fun j k _ _ => Reg.Adds.refl _ _ _)⟩
              · intro val ac u hR hp ha K hK      -- 5: t41 := Op.move t0
                have e0 : (ac.tmps[0]?).getD undef = .string key := ha 0 (by decide)
                clear ha hp
                refine Reg.Op1.plain rfl ?_
                go_wp2
                exact ⟨rfl, hK _ _ rfl (fun j k _ _ => Reg.Adds.refl _ _ _)⟩
              · intro val ac u hR hp ha K hK      -- 6: t42 := Op.binOp BinOp.neq 9 t40 t41 9
                obtain ⟨w40, h40, r40⟩ := hp 4 (by decide)
                have e40 : (ac.tmps[40]?).getD undef = .string e.key := (ha 40 (by decide)).trans h40
                clear h40
                obtain ⟨w41, h41, r41⟩ := hp 5 (by decide)
                have e41 : (ac.tmps[41]?).getD undef = .string key := (ha 41 (by decide)).trans h41
                clear h41
                clear ha hp
                have hkd := HKD.out
                refine Reg.Op1.plain rfl ?_
                go_wp2
                exact ⟨rfl, hK _ _ rfl (fun j k _ _ => Reg.Adds.refl _ _ _)⟩
              · intro val ac u hR hp ha K hK      -- 7: t43 := Op.move t42
                obtain ⟨w42, h42, r42⟩ := hp 6 (by decide)
                have e42 : (ac.tmps[42]?).getD undef = .bool false := (ha 42 (by decide)).trans h42
                clear h42
                clear ha hp
                refine Reg.Op1.plain rfl ?_
                go_wp2
                exact ⟨rfl, hK _ _ rfl (fun j k _ _ => Reg.Adds.refl _ _ _)⟩
              · intro val ac u hR hp ha K hK      -- 8: t44 := Op.load 33 t4
                have e4 : (ac.tmps[4]?).getD undef = .pointer (some ⟨w.heap.size, 0, none⟩) := ha 4 (by decide)
                obtain ⟨w43, h43, r43⟩ := hp 7 (by decide)
                have e43 : (ac.tmps[43]?).getD undef = .bool false := (ha 43 (by decide)).trans h43
                clear h43
                clear ha hp
                refine Reg.Op1.guarded rfl rfl e43 (fun _ => Reg.Op1.plain rfl ?_) (fun h => absurd rfl h)
                have hVu : Vec.VBx u w.heap.size cut := Mem.Bx.below (w := wr.drew) HV.out hR HV.out.lt
                refine Mem.load_aggG _ _ vec_agg w.heap.size 0 (vcCells cut) (by simp [Region.wanted]) (Reg.eval_of e4) (vcCells_length _) (fun j u' hu => by rw [Nat.zero_add]; exact hVu.cell hu) ?_
                exact ⟨rfl, hK _ _ rfl (fun j k _ _ => Reg.Adds.refl _ _ _)⟩
              · intro val ac u hR hp ha K hK      -- 9: t45 := Op.move t2
                have e2 : (ac.tmps[2]?).getD undef = .slice (some ⟨b, o, none⟩) es.length c := ha 2 (by decide)
                obtain ⟨w43, h43, r43⟩ := hp 7 (by decide)
                have e43 : (ac.tmps[43]?).getD undef = .bool false := (ha 43 (by decide)).trans h43
                clear h43
                clear ha hp
                refine Reg.Op1.guarded rfl rfl e43 (fun _ => Reg.Op1.plain rfl ?_) (fun h => absurd rfl h)
                go_wp2
                exact ⟨rfl, hK _ _ rfl (fun j k _ _ => Reg.Adds.refl _ _ _)⟩
              · intro val ac u hR hp ha K hK      -- 10: t46 := Op.move t11
                have e11 : (ac.tmps[11]?).getD undef = .int .i64 k := ha 11 (by decide)
                obtain ⟨w43, h43, r43⟩ := hp 7 (by decide)
                have e43 : (ac.tmps[43]?).getD undef = .bool false := (ha 43 (by decide)).trans h43
                clear h43
                clear ha hp
                refine Reg.Op1.guarded rfl rfl e43 (fun _ => Reg.Op1.plain rfl ?_) (fun h => absurd rfl h)
                go_wp2
                exact ⟨rfl, hK _ _ rfl (fun j k _ _ => Reg.Adds.refl _ _ _)⟩
              · intro val ac u hR hp ha K hK      -- 11: t47 := Op.indexAddr 23 t45 t46
                obtain ⟨w45, h45, r45⟩ := hp 9 (by decide)
                have e45 : (ac.tmps[45]?).getD undef = .slice (some ⟨b, o, none⟩) es.length c := (ha 45 (by decide)).trans h45
                clear h45
                obtain ⟨w46, h46, r46⟩ := hp 10 (by decide)
                have e46 : (ac.tmps[46]?).getD undef = .int .i64 k := (ha 46 (by decide)).trans h46
                clear h46
                obtain ⟨w43, h43, r43⟩ := hp 7 (by decide)
                have e43 : (ac.tmps[43]?).getD undef = .bool false := (ha 43 (by decide)).trans h43
                clear h43
                clear ha hp
                refine Reg.Op1.guarded rfl rfl e43 (fun _ => Reg.Op1.plain rfl ?_) (fun h => absurd rfl h)
                go_wp2
                exact ⟨rfl, hK _ _ rfl (fun j k _ _ => Reg.Adds.refl _ _ _)⟩
              · intro val ac u hR hp ha K hK      -- 12: t48 := Op.fieldAddr 35 t47 0
                obtain ⟨w47, h47, r47⟩ := hp 11 (by decide)
                have e47 : (ac.tmps[47]?).getD undef = .pointer (some ⟨b, o + k * 20, none⟩) := (ha 47 (by decide)).trans h47
                clear h47
                obtain ⟨w43, h43, r43⟩ := hp 7 (by decide)
                have e43 : (ac.tmps[43]?).getD undef = .bool false := (ha 43 (by decide)).trans h43
                clear h43
                clear ha hp
                refine Reg.Op1.guarded rfl rfl e43 (fun _ => Reg.Op1.plain rfl ?_) (fun h => absurd rfl h)
                go_wp2
                exact ⟨rfl, hK _ _ rfl (fun j k _ _ => Reg.Adds.refl _ _ _)⟩
              · intro val ac u hR hp ha K hK      -- 13: t49 := Op.load 28 t48
                obtain ⟨w48, h48, r48⟩ := hp 12 (by decide)
                have e48 : (ac.tmps[48]?).getD undef = .pointer (some ⟨b, o + k * 20, none⟩) := (ha 48 (by decide)).trans h48
                clear h48
                obtain ⟨w43, h43, r43⟩ := hp 7 (by decide)
                have e43 : (ac.tmps[43]?).getD undef = .bool false := (ha 43 (by decide)).trans h43
                clear h43
                clear ha hp
                refine Reg.Op1.guarded rfl rfl e43 (fun _ => Reg.Op1.plain rfl ?_) (fun h => absurd rfl h)
                refine Mem.load_aggG _ _ dot_agg b (o + k * 20) (dtCells (dotE e)) (by simp [Region.wanted]) (Reg.eval_of e48) (dtCells_length _) (fun q u' hu => (hR.cell (p := ⟨b, o + k * 20 + q, none⟩) hbw).trans (HAT.out.c q u' (Vec.dot_at e hu))) ?_
                exact ⟨rfl, hK _ _ rfl (fun j k _ _ => Reg.Adds.refl _ _ _)⟩
              · intro val ac u hR hp ha K hK      -- 14: t50 := Op.call { value (Operand.func 20), args := #[t44, t49], argTypes := #[33, 28] }
                obtain ⟨w44, h44, r44⟩ := hp 8 (by decide)
                have e44 : (ac.tmps[44]?).getD undef = .agg (vcCells cut).toArray := (ha 44 (by decide)).trans h44
                clear h44
                obtain ⟨w49, h49, r49⟩ := hp 13 (by decide)
                have e49 : (ac.tmps[49]?).getD undef = .agg (dtCells (dotE e)).toArray := (ha 49 (by decide)).trans h49
                clear h49
                obtain ⟨w43, h43, r43⟩ := hp 7 (by decide)
                have e43 : (ac.tmps[43]?).getD undef = .bool false := (ha 43 (by decide)).trans h43
                clear h43
                clear ha hp
                refine Reg.Op1.guarded rfl rfl e43 (fun _ => Reg.Op1.plain rfl ?_) (fun h => absurd rfl h)
                go_wp2_with fail
                refine (hasD_any cut (dotE e) u).mono ?_
                rintro x w' ⟨rfl, hbw⟩
                rw [HHD.out]
                go_wp2_with fail
                exact ⟨rfl, hK _ _ rfl (fun j k _ _ => hbw)⟩
              · intro val ac u hR hp ha K hK      -- 15: t51 := Op.unOp UnOp.not 4 t50
                obtain ⟨w50, h50, r50⟩ := hp 14 (by decide)
                have e50 : (ac.tmps[50]?).getD undef = .bool true := (ha 50 (by decide)).trans h50
                clear h50
                obtain ⟨w43, h43, r43⟩ := hp 7 (by decide)
                have e43 : (ac.tmps[43]?).getD undef = .bool false := (ha 43 (by decide)).trans h43
                clear h43
                clear ha hp
                refine Reg.Op1.guarded rfl rfl e43 (fun _ => Reg.Op1.plain rfl ?_) (fun h => absurd rfl h)
                go_wp2
                exact ⟨rfl, hK _ _ rfl (fun j k _ _ => Reg.Adds.refl _ _ _)⟩
              · intro val ac u hR hp ha K hK      -- 16: t52 := Op.pick t43 (const (Value.bool true)) t51
                obtain ⟨w43, h43, r43⟩ := hp 7 (by decide)
                have e43 : (ac.tmps[43]?).getD undef = .bool false := (ha 43 (by decide)).trans h43
                clear h43
                obtain ⟨w51, h51, r51⟩ := hp 15 (by decide)
                have e51 : (ac.tmps[51]?).getD undef = .bool false := (ha 51 (by decide)).trans h51
                clear h51
                clear ha hp
                refine Reg.Op1.plain rfl ?_
                go_wp2
                exact ⟨rfl, hK _ _ rfl (fun j k _ _ => Reg.Adds.refl _ _ _)⟩
            intro val u hR H
            obtain ⟨wB, hv, rB⟩ := H 16 (by decide)
            have hv : val 16 = .bool false := hv
            have HKu : Hid (Below wr.heap.size wr u) := (Below.refl _ wr).drew.trans hR
            simp only [List.map_cons, List.map_nil, Reg.lay, Act.put, List.setIfInBounds_toArray, List.set_cons_succ, List.set_cons_zero, Nat.reduceAdd, hv]
            clear hR H hv rB
            obtain ⟨wy, hwy⟩ : ∃ z, z = u := ⟨_, rfl⟩
            subst hwy
            have hbw2 : b < wy.heap.size := Nat.lt_of_lt_of_le hbw HKu.out.size
            have HAT3 : Hid (EntAt wy b (o + k * 20) e) := HAT.out.below HKu.out hbw
            have HE3 := Lib.hid (HE.out.below HKu.out HE.out.lt)
            have HV3 := Lib.hid (HV.out.below HKu.out HV.out.lt)
            have HB3 := Lib.hid (HB.out.trans (HKu.out.mono HB.out.size))
            clear HE HV HB HKu HAT HKD HHD hbw
            go_upto_region 12 with fail
            go_cut [9, 10, 11] (fun v9 v10 v11 wx => v9 = .bool true ∧ v10 = .bool (anyT key cut m (es.take (k + 1))) ∧ v11 = .int .i64 k ∧ Below wy.heap.size wy wx)
            case first =>
              cases hat : anyT key cut m (es.take k)
              case true =>
                have HAT4 : Hid (anyT key cut m (es.take (k + 1)) = true) := by show _ = _; rw [HAT2.out, hat, Bool.true_or]
                go_wp2
                go_quiet (fail)
                go_wp2
                go_meet
                case rel => exact ⟨rfl, by rw [HAT4.out], rfl, Mem.below_drewN (Below.refl _ _) _⟩
              case false =>
                obtain ⟨q, hq⟩ : ∃ q, eqEnt e m = q := ⟨_, rfl⟩
                have HAT4 : Hid (anyT key cut m (es.take (k + 1)) = q) := by show _ = _; rw [HAT2.out, hat, Bool.false_or, hq]
                have HQ : Hid (∀ W, (binOp .eql 35 (.agg (entCells e).toArray) (.agg (entCells m).toArray)).run Try.prog W = .ok (.bool q) W) := fun W => by rw [eql_ent, hq]
                clear hq
                refine Reg.wp_region_rel (by kernel_rfl) 91 10 rfl rfl (by kernel_rfl) (Reg.Adds) (Reg.Adds.refl) (Reg.Adds.trans)
                  (fun i v u => match i with
                    | 0 => v = .bool false
                    | 1 => v = .bool false
                    | 2 => v = .slice (some ⟨b, o, none⟩) es.length c
                    | 3 => v = .int .i64 k
                    | 4 => v = .pointer (some ⟨b, o + k * 20, none⟩)
                    | 5 => v = .agg (entCells e).toArray
                    | 6 => v = .agg (entCells m).toArray
                    | 7 => v = .bool q
                    | 8 => v = .bool q
                    | 9 => v = .bool q
                    | _ => True) ?_ ?_
                · refine Reg.Steps.cons ?_ (Reg.Steps.cons ?_ (Reg.Steps.cons ?_ (Reg.Steps.cons ?_ (Reg.Steps.cons ?_ (Reg.Steps.cons ?_ (Reg.Steps.cons ?_ (Reg.Steps.cons ?_ (Reg.Steps.cons ?_ (Reg.Steps.cons ?_ (Reg.Steps.nil _))))))))))
                  · intro val ac u hR hp ha K hK      -- 0: t53 := Op.move t10
                    have e10 : (ac.tmps[10]?).getD undef = .bool false := ha 10 (by decide)
                    clear ha hp
                    refine Reg.Op1.plain rfl ?_
                    go_wp2
                    exact ⟨rfl, hK _ _ rfl (fun j k _ _ => Reg.Adds.refl _ _ _)⟩
                  · intro val ac u hR hp ha K hK      -- 1: t54 := Op.move t53
                    obtain ⟨w53, h53, r53⟩ := hp 0 (by decide)
                    have e53 : (ac.tmps[53]?).getD undef = .bool false := (ha 53 (by decide)).trans h53
                    clear h53
                    clear ha hp
                    refine Reg.Op1.plain rfl ?_
                    go_wp2
                    exact ⟨rfl, hK _ _ rfl (fun j k _ _ => Reg.Adds.refl _ _ _)⟩
                  · intro val ac u hR hp ha K hK      -- 2: t55 := Op.move t2
                    have e2 : (ac.tmps[2]?).getD undef = .slice (some ⟨b, o, none⟩) es.length c := ha 2 (by decide)
                    obtain ⟨w54, h54, r54⟩ := hp 1 (by decide)
                    have e54 : (ac.tmps[54]?).getD undef = .bool false := (ha 54 (by decide)).trans h54
                    clear h54
                    clear ha hp
                    refine Reg.Op1.guarded rfl rfl e54 (fun _ => Reg.Op1.plain rfl ?_) (fun h => absurd rfl h)
                    go_wp2
                    exact ⟨rfl, hK _ _ rfl (fun j k _ _ => Reg.Adds.refl _ _ _)⟩
                  · intro val ac u hR hp ha K hK      -- 3: t56 := Op.move t11
                    have e11 : (ac.tmps[11]?).getD undef = .int .i64 k := ha 11 (by decide)
                    obtain ⟨w54, h54, r54⟩ := hp 1 (by decide)
                    have e54 : (ac.tmps[54]?).getD undef = .bool false := (ha 54 (by decide)).trans h54
                    clear h54
                    clear ha hp
                    refine Reg.Op1.guarded rfl rfl e54 (fun _ => Reg.Op1.plain rfl ?_) (fun h => absurd rfl h)
                    go_wp2
                    exact ⟨rfl, hK _ _ rfl (fun j k _ _ => Reg.Adds.refl _ _ _)⟩
                  · intro val ac u hR hp ha K hK      -- 4: t57 := Op.indexAddr 23 t55 t56
                    obtain ⟨w55, h55, r55⟩ := hp 2 (by decide)
                    have e55 : (ac.tmps[55]?).getD undef = .slice (some ⟨b, o, none⟩) es.length c := (ha 55 (by decide)).trans h55
                    clear h55
                    obtain ⟨w56, h56, r56⟩ := hp 3 (by decide)
                    have e56 : (ac.tmps[56]?).getD undef = .int .i64 k := (ha 56 (by decide)).trans h56
                    clear h56
                    obtain ⟨w54, h54, r54⟩ := hp 1 (by decide)
                    have e54 : (ac.tmps[54]?).getD undef = .bool false := (ha 54 (by decide)).trans h54
                    clear h54
                    clear ha hp
                    refine Reg.Op1.guarded rfl rfl e54 (fun _ => Reg.Op1.plain rfl ?_) (fun h => absurd rfl h)
                    go_wp2
                    exact ⟨rfl, hK _ _ rfl (fun j k _ _ => Reg.Adds.refl _ _ _)⟩
                  · intro val ac u hR hp ha K hK      -- 5: t58 := Op.load 35 t57
                    obtain ⟨w57, h57, r57⟩ := hp 4 (by decide)
                    have e57 : (ac.tmps[57]?).getD undef = .pointer (some ⟨b, o + k * 20, none⟩) := (ha 57 (by decide)).trans h57
                    clear h57
                    obtain ⟨w54, h54, r54⟩ := hp 1 (by decide)
                    have e54 : (ac.tmps[54]?).getD undef = .bool false := (ha 54 (by decide)).trans h54
                    clear h54
                    clear ha hp
                    refine Reg.Op1.guarded rfl rfl e54 (fun _ => Reg.Op1.plain rfl ?_) (fun h => absurd rfl h)
                    refine Mem.load_aggG _ _ entry_agg b (o + k * 20) (entCells e) (by simp [Region.wanted]) (Reg.eval_of e57) (entCells_length _) (fun j u' hu => (hR.cell (p := ⟨b, o + k * 20 + j, none⟩) hbw2).trans (HAT3.out.c j u' hu)) ?_
                    exact ⟨rfl, hK _ _ rfl (fun j k _ _ => Reg.Adds.refl _ _ _)⟩
                  · intro val ac u hR hp ha K hK      -- 6: t59 := Op.load 35 t7
                    have e7 : (ac.tmps[7]?).getD undef = .pointer (some ⟨s, 0, none⟩) := ha 7 (by decide)
                    obtain ⟨w54, h54, r54⟩ := hp 1 (by decide)
                    have e54 : (ac.tmps[54]?).getD undef = .bool false := (ha 54 (by decide)).trans h54
                    clear h54
                    clear ha hp
                    refine Reg.Op1.guarded rfl rfl e54 (fun _ => Reg.Op1.plain rfl ?_) (fun h => absurd rfl h)
                    refine Mem.load_aggG _ _ entry_agg s 0 (entCells m) (by simp [Region.wanted]) (Reg.eval_of e7) (entCells_length _) (fun j u' hu => by rw [Nat.zero_add]; exact (hR.cell (p := ⟨s, j, none⟩) HE3.out.lt).trans (HE3.out.cell hu)) ?_
                    exact ⟨rfl, hK _ _ rfl (fun j k _ _ => Reg.Adds.refl _ _ _)⟩
                  · intro val ac u hR hp ha K hK      -- 7: t60 := Op.binOp BinOp.eql 35 t58 t59 35
                    obtain ⟨w58, h58, r58⟩ := hp 5 (by decide)
                    have e58 : (ac.tmps[58]?).getD undef = .agg (entCells e).toArray := (ha 58 (by decide)).trans h58
                    clear h58
                    obtain ⟨w59, h59, r59⟩ := hp 6 (by decide)
                    have e59 : (ac.tmps[59]?).getD undef = .agg (entCells m).toArray := (ha 59 (by decide)).trans h59
                    clear h59
                    obtain ⟨w54, h54, r54⟩ := hp 1 (by decide)
                    have e54 : (ac.tmps[54]?).getD undef = .bool false := (ha 54 (by decide)).trans h54
                    clear h54
                    clear ha hp
                    refine Reg.Op1.guarded rfl rfl e54 (fun _ => Reg.Op1.plain rfl ?_) (fun h => absurd rfl h)
                    have hqq := HQ.out
                    go_wp2
                    exact ⟨rfl, hK _ _ rfl (fun j k _ _ => Reg.Adds.refl _ _ _)⟩
                  · intro val ac u hR hp ha K hK      -- 8: t61 := Op.pick t54 (const (Value.bool true)) t60
                    obtain ⟨w54, h54, r54⟩ := hp 1 (by decide)
                    have e54 : (ac.tmps[54]?).getD undef = .bool false := (ha 54 (by decide)).trans h54
                    clear h54
                    obtain ⟨w60, h60, r60⟩ := hp 7 (by decide)
                    have e60 : (ac.tmps[60]?).getD undef = .bool q := (ha 60 (by decide)).trans h60
                    clear h60
                    clear ha hp
                    refine Reg.Op1.plain rfl ?_
                    go_wp2
                    exact ⟨rfl, hK _ _ rfl (fun j k _ _ => Reg.Adds.refl _ _ _)⟩
                  · intro val ac u hR hp ha K hK      -- 9: t10 := Op.assign t61
                    obtain ⟨w61, h61, r61⟩ := hp 8 (by decide)
                    have e61 : (ac.tmps[61]?).getD undef = .bool q := (ha 61 (by decide)).trans h61
                    clear h61
                    clear ha hp
                    refine Reg.Op1.plain rfl ?_
                    go_wp2
                    exact ⟨rfl, hK _ _ rfl (fun j k _ _ => Reg.Adds.refl _ _ _)⟩
                · intro val u hR H
                  obtain ⟨_, hv, _⟩ := H 9 (by decide)
                  have hv : val 9 = .bool q := hv
                  have HR2 : Hid (Below wy.heap.size wy u) := (Below.refl _ wy).drew.trans hR
                  simp only [List.map_cons, List.map_nil, Reg.lay, Act.put, List.setIfInBounds_toArray, List.set_cons_succ, List.set_cons_zero, Nat.reduceAdd, hv]
                  clear hR H hv
                  go_wp2
                  go_meet
                  case rel => exact ⟨rfl, by rw [HAT4.out], rfl, HR2.out⟩
            case rest =>
              obtain ⟨rfl, rfl, rfl, hbc⟩ := hcut
              have HBC := Lib.hid hbc
              clear hbc HAT2
              rename World => wz
              have q3 := (HAT3.out.below HBC.out hbw2).c 3 _ rfl
              have x3 := (HE3.out.below HBC.out HE3.out.lt).cell (j := 3) rfl
              have hcd := HCNT.out
              clear hbw2
              go_wp2
              go_quiet (fail)
              go_wp2
              go_roundw
              case rel => exact ⟨⟨k + 1, HLT.out, by rw [HAK.out], rfl, by go_num, (HE3.out.below HBC.out HE3.out.lt).keeps ((Mem.Keeps.refl (fun _ => False) _).drewN _) id, (HV3.out.below HBC.out HV3.out.lt).keeps ((Mem.Keeps.refl (fun _ => False) _).drewN _) id, Mem.below_drewN (HB3.out.trans (HBC.out.mono HB3.out.size)) _⟩⟩
              case measure => exact Au.meas_lt HLT.out
        · have HKD : Hid ((e.key.toList == key.toList) = false) := Vec.str_ne hkey
          have hsv : seenV key cut e = false := by unfold seenV; rw [HKD.out, Bool.false_and]
          have HHD : Hid (hasD cut (dotE e) = hasD cut (dotE e)) := rfl
          clear hkey
          have HAK : Hid (anyS key cut (es.take (k + 1)) = anyS key cut (es.take k)) := by show _ = _; rw [HTK.out, hsv, Bool.or_false]
          have HAT2 : Hid (anyT key cut m (es.take (k + 1)) = anyT key cut m (es.take k)) := by show _ = _; rw [HTT.out, hsv, Bool.false_and, Bool.or_false]
          clear hsv HTK HTT HME
          refine Reg.wp_region_rel (by kernel_rfl) 91 17 rfl rfl (by kernel_rfl) (Reg.Adds) (Reg.Adds.refl) (Reg.Adds.trans)
            (fun i v u => match i with
              | 0 => v = .slice (some ⟨b, o, none⟩) es.length c
              | 1 => v = .int .i64 k
              | 2 => v = .pointer (some ⟨b, o + k * 20, none⟩)
              | 3 => v = .pointer (some ⟨b, o + k * 20 + 6, none⟩)
              | 4 => v = .string e.key
              | 5 => v = .string key
              | 6 => v = .bool true
              | 7 => v = .bool true
              | 8 => v = undef
              | 9 => v = undef
              | 10 => v = undef
              | 11 => v = undef
              | 12 => v = undef
              | 13 => v = undef
              | 14 => v = undef
              | 15 => v = undef
              | 16 => v = .bool true
              | _ => True) ?_ ?_
          · refine Reg.Steps.cons ?_ (Reg.Steps.cons ?_ (Reg.Steps.cons ?_ (Reg.Steps.cons ?_ (Reg.Steps.cons ?_ (Reg.Steps.cons ?_ (Reg.Steps.cons ?_ (Reg.Steps.cons ?_ (Reg.Steps.cons ?_ (Reg.Steps.cons ?_ (Reg.Steps.cons ?_ (Reg.Steps.cons ?_ (Reg.Steps.cons ?_ (Reg.Steps.cons ?_ (Reg.Steps.cons ?_ (Reg.Steps.cons ?_ (Reg.Steps.cons ?_ (Reg.Steps.nil _)))))))))))))))))
            · intro val ac u hR hp ha K hK      -- 0: t36 := Op.move t2
              have e2 : (ac.tmps[2]?).getD undef = .slice (some ⟨b, o, none⟩) es.length c := ha 2 (by decide)
              clear ha hp
              refine Reg.Op1.plain rfl ?_
              go_wp2
              exact ⟨rfl, hK _ _ rfl (fun j k _ _ => Reg.Adds.refl _ _ _)⟩
            · intro val ac u hR hp ha K hK      -- 1: t37 := Op.move t11
              have e11 : (ac.tmps[11]?).getD undef = .int .i64 k := ha 11 (by decide)
              clear ha hp
              refine Reg.Op1.plain rfl ?_
              go_wp2
              exact ⟨rfl, hK _ _ rfl (fun j k _ _ => Reg.Adds.refl _ _ _)⟩
            · intro val ac u hR hp ha K hK      -- 2: t38 := Op.indexAddr 23 t36 t37
              obtain ⟨w36, h36, r36⟩ := hp 0 (by decide)
              have e36 : (ac.tmps[36]?).getD undef = .slice (some ⟨b, o, none⟩) es.length c := (ha 36 (by decide)).trans h36
              clear h36
              obtain ⟨w37, h37, r37⟩ := hp 1 (by decide)
              have e37 : (ac.tmps[37]?).getD undef = .int .i64 k := (ha 37 (by decide)).trans h37
              clear h37
              clear ha hp
              refine Reg.Op1.plain rfl ?_
              go_wp2
              exact ⟨rfl, hK _ _ rfl (fun j k _ _ => Reg.Adds.refl _ _ _)⟩
            · intro val ac u hR hp ha K hK      -- 3: t39 := Op.fieldAddr 35 t38 2
              obtain ⟨w38, h38, r38⟩ := hp 2 (by decide)
              have e38 : (ac.tmps[38]?).getD undef = .pointer (some ⟨b, o + k * 20, none⟩) := (ha 38 (by decide)).trans h38
              clear h38
              clear ha hp
              refine Reg.Op1.plain rfl ?_
              go_wp2
              exact ⟨rfl, hK _ _ rfl (fun j k _ _ => Reg.Adds.refl _ _ _)⟩
            · intro val ac u hR hp ha K hK      -- 4: t40 := Op.load 9 t39
              obtain ⟨w39, h39, r39⟩ := hp 3 (by decide)
              have e39 : (ac.tmps[39]?).getD undef = .pointer (some ⟨b, o + k * 20 + 6, none⟩) := (ha 39 (by decide)).trans h39
              clear h39
              clear ha hp
              refine Reg.Op1.plain rfl ?_
              have x6 := (hR.cell (p := ⟨b, o + k * 20 + 6, none⟩) hbw).trans (HAT.out.c 6 _ rfl)
              go_wp2
              exact ⟨rfl, hK _ _ rfl (fun j k _ _ => Reg.Adds.refl _ _ _)⟩
            · intro val ac u hR hp ha K hK      -- 5: t41 := Op.move t0
              have e0 : (ac.tmps[0]?).getD undef = .string key := ha 0 (by decide)
              clear ha hp
              refine Reg.Op1.plain rfl ?_
              go_wp2
              exact ⟨rfl, hK _ _ rfl (fun j k _ _ => Reg.Adds.refl _ _ _)⟩
            · intro val ac u hR hp ha K hK      -- 6: t42 := Op.binOp BinOp.neq 9 t40 t41 9
              obtain ⟨w40, h40, r40⟩ := hp 4 (by decide)
              have e40 : (ac.tmps[40]?).getD undef = .string e.key := (ha 40 (by decide)).trans h40
              clear h40
              obtain ⟨w41, h41, r41⟩ := hp 5 (by decide)
              have e41 : (ac.tmps[41]?).getD undef = .string key := (ha 41 (by decide)).trans h41
              clear h41
              clear ha hp
              have hkd := HKD.out
              refine Reg.Op1.plain rfl ?_
              go_wp2
              exact ⟨rfl, hK _ _ rfl (fun j k _ _ => Reg.Adds.refl _ _ _)⟩
            · intro val ac u hR hp ha K hK      -- 7: t43 := Op.move t42
              obtain ⟨w42, h42, r42⟩ := hp 6 (by decide)
              have e42 : (ac.tmps[42]?).getD undef = .bool true := (ha 42 (by decide)).trans h42
              clear h42
              clear ha hp
              refine Reg.Op1.plain rfl ?_
              go_wp2
              exact ⟨rfl, hK _ _ rfl (fun j k _ _ => Reg.Adds.refl _ _ _)⟩
            · intro val ac u hR hp ha K hK      -- 8: t44 := Op.load 33 t4
              obtain ⟨w43, h43, r43⟩ := hp 7 (by decide)
              have e43 : (ac.tmps[43]?).getD undef = .bool true := (ha 43 (by decide)).trans h43
              clear h43
              clear ha hp
              exact Reg.Op1.guarded rfl rfl e43 (fun h => by cases h) (fun _ => hK _ _ rfl (fun j k _ _ => Reg.Adds.refl _ _ _))
            · intro val ac u hR hp ha K hK      -- 9: t45 := Op.move t2
              obtain ⟨w43, h43, r43⟩ := hp 7 (by decide)
              have e43 : (ac.tmps[43]?).getD undef = .bool true := (ha 43 (by decide)).trans h43
              clear h43
              clear ha hp
              exact Reg.Op1.guarded rfl rfl e43 (fun h => by cases h) (fun _ => hK _ _ rfl (fun j k _ _ => Reg.Adds.refl _ _ _))
            · intro val ac u hR hp ha K hK      -- 10: t46 := Op.move t11
              obtain ⟨w43, h43, r43⟩ := hp 7 (by decide)
              have e43 : (ac.tmps[43]?).getD undef = .bool true := (ha 43 (by decide)).trans h43
              clear h43
              clear ha hp
              exact Reg.Op1.guarded rfl rfl e43 (fun h => by cases h) (fun _ => hK _ _ rfl (fun j k _ _ => Reg.Adds.refl _ _ _))
            · intro val ac u hR hp ha K hK      -- 11: t47 := Op.indexAddr 23 t45 t46
              obtain ⟨w43, h43, r43⟩ := hp 7 (by decide)
              have e43 : (ac.tmps[43]?).getD undef = .bool true := (ha 43 (by decide)).trans h43
              clear h43
              clear ha hp
              exact Reg.Op1.guarded rfl rfl e43 (fun h => by cases h) (fun _ => hK _ _ rfl (fun j k _ _ => Reg.Adds.refl _ _ _))
            · intro val ac u hR hp ha K hK      -- 12: t48 := Op.fieldAddr 35 t47 0
              obtain ⟨w43, h43, r43⟩ := hp 7 (by decide)
              have e43 : (ac.tmps[43]?).getD undef = .bool true := (ha 43 (by decide)).trans h43
              clear h43
              clear ha hp
              exact Reg.Op1.guarded rfl rfl e43 (fun h => by cases h) (fun _ => hK _ _ rfl (fun j k _ _ => Reg.Adds.refl _ _ _))
            · intro val ac u hR hp ha K hK      -- 13: t49 := Op.load 28 t48
              obtain ⟨w43, h43, r43⟩ := hp 7 (by decide)
              have e43 : (ac.tmps[43]?).getD undef = .bool true := (ha 43 (by decide)).trans h43
              clear h43
              clear ha hp
              exact Reg.Op1.guarded rfl rfl e43 (fun h => by cases h) (fun _ => hK _ _ rfl (fun j k _ _ => Reg.Adds.refl _ _ _))
            · intro val ac u hR hp ha K hK      -- 14: t50 := Op.call { value (Operand.func 20), args := #[t44, t49], argTypes := #[33, 28] }
              obtain ⟨w43, h43, r43⟩ := hp 7 (by decide)
              have e43 : (ac.tmps[43]?).getD undef = .bool true := (ha 43 (by decide)).trans h43
              clear h43
              clear ha hp
              exact Reg.Op1.guarded rfl rfl e43 (fun h => by cases h) (fun _ => hK _ _ rfl (fun j k _ _ => Reg.Adds.refl _ _ _))
            · intro val ac u hR hp ha K hK      -- 15: t51 := Op.unOp UnOp.not 4 t50
              obtain ⟨w43, h43, r43⟩ := hp 7 (by decide)
              have e43 : (ac.tmps[43]?).getD undef = .bool true := (ha 43 (by decide)).trans h43
              clear h43
              clear ha hp
              exact Reg.Op1.guarded rfl rfl e43 (fun h => by cases h) (fun _ => hK _ _ rfl (fun j k _ _ => Reg.Adds.refl _ _ _))
            · intro val ac u hR hp ha K hK      -- 16: t52 := Op.pick t43 (const (Value.bool true)) t51
              obtain ⟨w43, h43, r43⟩ := hp 7 (by decide)
              have e43 : (ac.tmps[43]?).getD undef = .bool true := (ha 43 (by decide)).trans h43
              clear h43
              obtain ⟨w51, h51, r51⟩ := hp 15 (by decide)
              have e51 : (ac.tmps[51]?).getD undef = undef := (ha 51 (by decide)).trans h51
              clear h51
              clear ha hp
              refine Reg.Op1.plain rfl ?_
              go_wp2
              exact ⟨rfl, hK _ _ rfl (fun j k _ _ => Reg.Adds.refl _ _ _)⟩
          intro val u hR H
          obtain ⟨wB, hv, rB⟩ := H 16 (by decide)
          have hv : val 16 = .bool true := hv
          have HKu : Hid (Below wr.heap.size wr u) := (Below.refl _ wr).drew.trans hR
          simp only [List.map_cons, List.map_nil, Reg.lay, Act.put, List.setIfInBounds_toArray, List.set_cons_succ, List.set_cons_zero, Nat.reduceAdd, hv]
          clear hR H hv rB
          obtain ⟨wy, hwy⟩ : ∃ z, z = u := ⟨_, rfl⟩
          subst hwy
          go_wp2
          go_roundw
          case rel => exact ⟨⟨k + 1, HLT.out, by rw [HAK.out], by rw [HAT2.out], by go_num, HE.out.below HKu.out HE.out.lt, HV.out.below HKu.out HV.out.lt, HB.out.trans (HKu.out.mono HB.out.size)⟩⟩
          case measure => exact Au.meas_lt HLT.out
      · obtain rfl : k = es.length := by omega
        have d0 : decide ((es.length : Int) < (es.length : Int)) = false := by simp
        rw [List.take_length]
        obtain ⟨h1, h2, h3⟩ := HS.out.all
        rw [h2, ← h1]
        clear h1 h2
        cases fd
        case true =>
          go_wp2
          go_ret
          exact ⟨rfl, HB.out⟩
        case false =>
          obtain rfl := h3 rfl
          have e1 : ∀ W, (binOp .eql 35 (.agg (entCells ent0).toArray) (.agg #[.int .i64 0, .int .i64 0, .int .i64 0, .int .i64 0, .int .i64 0, .int .i64 0, .string ⟨#[]⟩, .string ⟨#[]⟩, .bool false, .int .i64 0, .int .i64 0, .int .i64 0, .int .i64 0, .int .i64 0, .int .i64 0, .int .i64 0, .int .i64 0, .int .i64 0, .int .i64 0, .int .i64 0])).run Try.prog W = .ok (.bool true) W := fun W => (eql_ent ent0 ent0 W).trans (by rw [eqEnt_iff.2 rfl])
          go_wp2_with ((with_reducible refine Mem.load_aggG _ _ entry_agg s 0 (entCells ent0) ?hwa ?hxb (entCells_length _) (fun j u hu => by rw [Nat.zero_add]; exact HE.out.cell hu) ?_); ((case hwa => rfl); (case hxb => exact rfl)))
          go_ret
          exact ⟨rfl, HB.out⟩
set_option maxRecDepth 20000 in
theorem opened {H : Type} (enc : TypeId × Value → H) (W : World) (base : Nat) (v0 v1 v2 : Value) {d0 d1 d2 : DataW H} {p0 p1 p2 : List MemPlace}
    (o0 : Value.okWide Try.prog W .any base 9 v0) (o1 : Value.okWide Try.prog W .any base 33 v1) (o2 : Value.okWide Try.prog W .any base 23 v2)
    (k0 : DataW.Trod enc Try.prog W 0 (fun _ => true) true 9 v0 d0 p0) (k1 : DataW.Trod enc Try.prog W 0 (fun _ => true) true 33 v1 d1 p1) (k2 : DataW.Trod enc Try.prog W 0 (fun _ => true) true 23 v2 d2 p2)
    (z0 : (d0.weights Try.prog 9).all (· ≤ reachBytes) = true) (z1 : (d1.weights Try.prog 33).all (· ≤ reachBytes) = true) (z2 : (d2.weights Try.prog 23).all (· ≤ reachBytes) = true) :
    Calls Try.prog 8 #[v0, v1, v2] W fun e w' => e = .returned (.bool true) ∧ Below W.heap.size W w' := by
  obtain ⟨s, rfl, hs⟩ := open_text o0 k0 z0
  obtain ⟨v, rfl⟩ := open_vec o1 k1
  obtain ⟨A, c, es, rfl, h1, h2, h3, h4⟩ := open_ents o2 k2 z2
  exact walk s v A c es W h3 (by omega) h4 hs
end auditVisibleOpen
end Go.Proofs.Ytelephoalpphkaa
end
