/- A coder in memory, and what it does, in plain lists; the walk of take. No conditions. -/
import Derived.Test.YtkfgedgjpgehoaaRegW
import Derived.Test.YtkfgedgjpgehoaaOwnX
import Derived.Test.YtkfgedgjpgehoaaAgg2
import Derived.WalkKit
import Derived.LoopTactic
import Derived.Below
import Derived.Lib.Hide
import Derived.Deep.DeepCutAuto
import Derived.Deep.CutBlock
import Derived.WalkMore
import Derived.ScopeJumps
import Derived.Deep.QuietTactic
import Derived.BigQuiet
namespace Go.Proofs.Ytkfgedgjpgehoaa
open Go.ChangeShapes Go.WideShapes Go.ChangeAt Go.RowKit
set_option linter.unusedVariables false
set_option linter.unusedSimpArgs false
namespace Wi
/-- a coder -/
structure Cd where
  bs : List UInt8
  pos : Nat
  reads : Bool
  bad : Bool
  arg : Bool
  long : Bool
def cdCells (A : Option Addr) (cap : Nat) (c : Cd) : List Value := [.slice A c.bs.length cap, .int .i64 c.pos, .bool c.reads, .bool c.bad, .bool c.arg, .bool c.long]
structure CAt (w : World) (g : Nat) (A : Option Addr) (cap : Nat) (c : Cd) : Prop where
  B : Mem.Bx w 67 6 g (cdCells A cap c)
  R : Mem.Rd w w.heap.size A (c.bs.map Mem.byteV)
  O : c.reads = false → Mem.Own w 5 1 A c.bs.length cap (c.bs.map Mem.byteV)
  ne : ∀ k, Mem.blk A = some k → k ≠ g
  le : c.bs.length ≤ cap ∧ cap ≤ maxLen
  lt : ∀ k, Mem.blk A = some k → k < w.heap.size
theorem CAt.keeps {w w' : World} {g : Nat} {A : Option Addr} {cap : Nat} {c : Cd} {S : Nat → Prop} (h : CAt w g A cap c) (hk : Mem.Keeps S w w') (hS : ∀ k, k = g ∨ Mem.blk A = some k → ¬ S k) : CAt w' g A cap c :=
  ⟨h.B.keeps hk (hS g (.inl rfl)), h.R.keepsAt hk (Nat.le_refl _) (fun k hb => hS k (.inr hb)), fun hr => (h.O hr).keeps hk (fun k hb => hS k (.inr hb)), h.ne, h.le, fun k hb => Nat.lt_of_lt_of_le (h.lt k hb) hk.size⟩
/-- a flag or the place is set -/
theorem CAt.set {w : World} {g : Nat} {A : Option Addr} {cap : Nat} {c c' : Cd} (h : CAt w g A cap c) (j : Nat) (u : Value) (hb : c'.bs = c.bs) (hr : c'.reads = c.reads) (hj : (cdCells A cap c).set j u = cdCells A cap c') : CAt (w.setCell ⟨g, j, none⟩ u) g A cap c' := by
  have hk : Mem.Keeps (fun k => k = g) w (w.setCell ⟨g, j, none⟩ u) := (Mem.Keeps.refl (fun k => k = g) w).setCell (p := ⟨g, j, none⟩) (fun _ => rfl) _
  refine ⟨hj ▸ h.B.set j u, ?_, ?_, h.ne, by rw [hb]; exact h.le, fun k hb => Nat.lt_of_lt_of_le (h.lt k hb) hk.size⟩
  · rw [hb]; exact h.R.keepsAt hk (Nat.le_refl _) (fun k hb => h.ne k hb)
  · rw [hb, hr]; exact fun hr2 => (h.O hr2).keeps hk (fun k hb => h.ne k hb)
/-- a number read: what it is (none: bad), and where what follows begins -/
def takeF (bs : List UInt8) : Nat → Nat → Nat → Nat → Option Nat × Nat
  | 0, _, _, p => (none, p)
  | f + 1, i, n, p => match bs[p]? with
    | none => (none, p)
    | some x =>
      let n2 := n + x.toNat % 128 * 2 ^ (7 * i)
      if 128 ≤ x.toNat then takeF bs f (i + 1) n2 (p + 1)
      else if 4611686018427387904 < n2 ∨ (x.toNat = 0 ∧ 0 < i) then (none, p + 1) else (some n2, p + 1)
def takeC (c : Cd) : Cd × Nat := match takeF c.bs 9 0 0 c.pos with
  | (none, p) => ({ c with pos := p, bad := true }, 0)
  | (some n, p) => ({ c with pos := p }, n)
theorem takeF_step {bs : List UInt8} {f i n p : Nat} {x : UInt8} (h : bs[p]? = some x) : takeF bs (f + 1) i n p = if 128 ≤ x.toNat then takeF bs f (i + 1) (n + x.toNat % 128 * 2 ^ (7 * i)) (p + 1) else if 4611686018427387904 < n + x.toNat % 128 * 2 ^ (7 * i) ∨ (x.toNat = 0 ∧ 0 < i) then (none, p + 1) else (some (n + x.toNat % 128 * 2 ^ (7 * i)), p + 1) := by
  rw [takeF, h]
theorem takeF_end (bs : List UInt8) (f i n p : Nat) (h : bs[p]? = none) : takeF bs f i n p = (none, p) := by
  cases f with
  | zero => rfl
  | succ f => unfold takeF; rw [h]
theorem tk_pow {i : Nat} (hi : i < 9) : 2 ^ (7 * (i + 1)) = 128 * 2 ^ (7 * i) ∧ 128 * 2 ^ (7 * i) ≤ 9223372036854775808 := by
  have h : i = 0 ∨ i = 1 ∨ i = 2 ∨ i = 3 ∨ i = 4 ∨ i = 5 ∨ i = 6 ∨ i = 7 ∨ i = 8 := by omega
  rcases h with rfl | rfl | rfl | rfl | rfl | rfl | rfl | rfl | rfl <;> exact ⟨by decide, by decide⟩
theorem u64_nat {m : Nat} (h : m < 18446744073709551616) : IntKind.u64.wrap (m : Int) = (m : Int) := by
  unfold IntKind.wrap
  simp [IntKind.signed, IntKind.bits]
  omega
theorem tk_nums {i n xn : Nat} (hi : i < 9) (hn : n < 2 ^ (7 * i)) (hx : xn < 256) :
    IntKind.u64.wrap ((xn : Int) % 128 * 2 ^ (7 * i)) = ((xn % 128 * 2 ^ (7 * i) : Nat) : Int) ∧ IntKind.u64.wrap ((n : Int) + ((xn % 128 * 2 ^ (7 * i) : Nat) : Int)) = ((n + xn % 128 * 2 ^ (7 * i) : Nat) : Int) ∧
      (n + xn % 128 * 2 ^ (7 * i) < 2 ^ (7 * (i + 1)) ∧ n + xn % 128 * 2 ^ (7 * i) < 9223372036854775808) := by
  obtain ⟨p1, p2⟩ := tk_pow hi
  have h1 : xn % 128 * 2 ^ (7 * i) ≤ 127 * 2 ^ (7 * i) := Nat.mul_le_mul_right _ (by omega)
  have e1 : (xn : Int) % 128 * 2 ^ (7 * i) = ((xn % 128 * 2 ^ (7 * i) : Nat) : Int) := by push_cast; rfl
  rw [e1]
  generalize 2 ^ (7 * i) = P at *
  generalize xn % 128 * P = m at *
  rw [p1]
  refine ⟨u64_nat (by omega), ?_, by omega, by omega⟩
  rw [← Int.natCast_add]
  exact u64_nat (by omega)
theorem tk_conv {n2 : Nat} (h : ¬ 4611686018427387904 < n2) : IntKind.i64.wrap (n2 : Int) = (n2 : Int) ∧ wrap64 (n2 : Int) = (n2 : Int) := ⟨IntWalk.i64_in _ (by omega), IntWalk.wrap64_in _ (by omega)⟩
structure TkRel (w : World) (g : Nat) (A : Option Addr) (cap : Nat) (c : Cd) (v3 v4 : Value) (wr : World) : Prop where
  out : ∃ i n p : Nat, i ≤ 9 ∧ n < 2 ^ (7 * i) ∧ p ≤ c.bs.length ∧ v3 = .int .u64 n ∧ v4 = .int .i64 i ∧ Hid (CAt wr g A cap { c with pos := p }) ∧ Hid (takeF c.bs 9 0 0 c.pos = takeF c.bs (9 - i) i n p) ∧ Hid (Mem.Keeps (fun k => k = g) w wr)
structure TkBad (w : World) (g : Nat) (A : Option Addr) (cap : Nat) (c : Cd) (wr : World) : Prop where
  out : ∃ p : Nat, takeF c.bs 9 0 0 c.pos = (none, p) ∧ Hid (CAt wr g A cap { c with pos := p }) ∧ Hid (Mem.Keeps (fun k => k = g) w wr)
structure TkEnd (w : World) (g : Nat) (A : Option Addr) (cap : Nat) (c : Cd) (x : Ending) (w' : World) : Prop where
  r : x = .returned (.int .i64 ((takeC c).2 : Nat))
  h : CAt w' g A cap (takeC c).1
  k : Mem.Keeps (fun k => k = g) w w'
end Wi
open Wi in
set_option maxRecDepth 8000 in
set_option maxHeartbeats 4000000 in
theorem take_any (w : World) (g : Nat) (A : Option Addr) (cap : Nat) (c : Wi.Cd) (h : Wi.CAt w g A cap c) (hp : c.pos ≤ c.bs.length) :
    Calls Try.prog 62 #[.pointer (some ⟨g, 0, none⟩)] w (Wi.TkEnd w g A cap c) := by
  have HC := Lib.hid h
  have hml : c.bs.length ≤ 9223372036854775807 := by have := h.le; unfold maxLen at this; omega
  clear h
  go_enter Try.func62, Try.ntmps62
  go_wp2
  refine wp_scope_jumps 0 (fun a' w' => TkBad w g A cap c w' ∧ ∃ (u1 u2 u3 u4 u5 u6 u7 u8 u9 u10 u11 u12 u13 u14 u15 u16 u17 u18 u19 u20 u21 u22 u23 u24 u25 u26 u27 u28 u29 u30 u31 u32 u33 u34 u35 u36 u37 u38 u39 u40 u41 u42 u43 u44 u45 u46 u47 u48 u49 u50 u51 u52 u53 u54 u55 u56 u57 u58 u59 u60 u61 : Value), a' = { tmps := #[.pointer (some ⟨g, 0, none⟩), u1, u2, u3, u4, u5, u6, u7, u8, u9, u10, u11, u12, u13, u14, u15, u16, u17, u18, u19, u20, u21, u22, u23, u24, u25, u26, u27, u28, u29, u30, u31, u32, u33, u34, u35, u36, u37, u38, u39, u40, u41, u42, u43, u44, u45, u46, u47, u48, u49, u50, u51, u52, u53, u54, u55, u56, u57, u58, u59, u60, u61], defers := [] }) (fun _ _ => 0) rfl ?_ ?_
  · go_wp2
    go_loopw [3, 4] (TkRel w g A cap c) (fun _ t _ => 9 - (intOf t).toNat)
    case atStart => exact ⟨⟨0, 0, c.pos, by omega, by decide, hp, rfl, rfl, HC, rfl, Mem.Keeps.refl _ _⟩⟩
    case round =>
      obtain ⟨i, n, p, hi, hn, hpl, rfl, rfl, HCr, HTk, HKr⟩ := hrel.out
      clear hrel
      have x0 : wr.cell? ⟨g, 0, none⟩ = some (.slice A c.bs.length cap) := HCr.out.B.cell (j := 0) rfl
      have x1 : wr.cell? ⟨g, 1, none⟩ = some (.int .i64 p) := HCr.out.B.cell (j := 1) rfl
      by_cases hi9 : i < 9
      · by_cases hpe : p = c.bs.length
        · subst hpe
          have d1 : ((c.bs.length : Int) == (c.bs.length : Int)) = true := by simp
          go_upto_region 5 with fail
          go_quiet (fail)
          obtain ⟨w5, hw5⟩ : ∃ w5, wr.drewN nq = w5 := ⟨_, rfl⟩
          have HC5 : Hid (CAt w5 g A cap { c with pos := c.bs.length }) := by show CAt _ _ _ _ _; rw [← hw5]; exact HCr.out.keeps ((Mem.Keeps.refl (fun _ => False) _).drewN _) (fun _ _ h => h)
          have HK5 : Hid (Mem.Keeps (fun k => k = g) w w5) := by show Mem.Keeps _ _ _; rw [← hw5]; exact HKr.out.drewN _
          rw [hw5]
          clear hw5 x0 x1 HCr HKr
          have HTB : Hid (TkBad w g A cap c w5) := ⟨⟨c.bs.length, by rw [HTk.out, takeF_end _ _ _ _ _ (List.getElem?_eq_none (Nat.le_refl _))], HC5, HK5⟩⟩
          go_wp2
          go_step3
          exact ⟨rfl, HTB.out, _, _, _, _, _, _, _, _, _, _, _, _, _, _, _, _, _, _, _, _, _, _, _, _, _, _, _, _, _, _, _, _, _, _, _, _, _, _, _, _, _, _, _, _, _, _, _, _, _, _, _, _, _, _, _, _, _, _, _, _, _, rfl⟩
        · have d1 : ((p : Int) == (c.bs.length : Int)) = false := by simp; omega
          go_upto_region 5 with fail
          go_quiet (fail)
          obtain ⟨w5, hw5⟩ : ∃ w5, wr.drewN nq = w5 := ⟨_, rfl⟩
          have HC5 : Hid (CAt w5 g A cap { c with pos := p }) := by show CAt _ _ _ _ _; rw [← hw5]; exact HCr.out.keeps ((Mem.Keeps.refl (fun _ => False) _).drewN _) (fun _ _ h => h)
          have HK5 : Hid (Mem.Keeps (fun k => k = g) w w5) := by show Mem.Keeps _ _ _; rw [← hw5]; exact HKr.out.drewN _
          rw [hw5]
          clear hw5 x0 x1 HCr HKr
          have hpl2 : p < c.bs.length := by omega
          obtain ⟨b, o, rfl, hbb, hcc⟩ := HC5.out.R.at (k := p) (by show p < (c.bs.map Mem.byteV).length; simpa using hpl2)
          have x0 : w5.cell? ⟨g, 0, none⟩ = some (.slice (some ⟨b, o, none⟩) c.bs.length cap) := HC5.out.B.cell (j := 0) rfl
          have x1 : w5.cell? ⟨g, 1, none⟩ = some (.int .i64 p) := HC5.out.B.cell (j := 1) rfl
          obtain ⟨x, hx⟩ : ∃ x, c.bs[p] = x := ⟨_, rfl⟩
          have x2 : w5.cell? ⟨b, o + p, none⟩ = some (Mem.byteV x) := by rw [← hx]; simpa using hcc
          have d2 : (p : Int) < (c.bs.length : Int) := by omega
          have HX := Lib.hid hx
          clear hcc hx
          go_upto_region 6 with fail
          go_quiet (fail)
          obtain ⟨w6, hw6⟩ : ∃ w6, w5.drewN nq = w6 := ⟨_, rfl⟩
          have HC6 : Hid (CAt w6 g (some ⟨b, o, none⟩) cap { c with pos := p }) := by show CAt _ _ _ _ _; rw [← hw6]; exact HC5.out.keeps ((Mem.Keeps.refl (fun _ => False) _).drewN _) (fun _ _ h => h)
          have HK6 : Hid (Mem.Keeps (fun k => k = g) w w6) := by show Mem.Keeps _ _ _; rw [← hw6]; exact HK5.out.drewN _
          rw [hw6]
          clear hw6 x0 x1 x2 HC5 HK5 d2 d1
          have x1 : w6.cell? ⟨g, 1, none⟩ = some (.int .i64 p) := HC6.out.B.cell (j := 1) rfl
          have xf := HC6.out.B.fr
          go_upto_region 8 with fail
          obtain ⟨xn, hxn⟩ : ∃ xn, x.toNat = xn := ⟨_, rfl⟩
          have hx8 : xn < 256 := by rw [← hxn]; exact x.toNat_lt
          rw [show Mem.byteV x = .int .u8 (xn : Int) by rw [← hxn]]
          go_upto_region 9 with fail
          have hq := tk_nums hi9 hn hx8
          obtain ⟨n2, hn2⟩ : ∃ n2, n + xn % 128 * 2 ^ (7 * i) = n2 := ⟨_, rfl⟩
          rw [hn2] at hq
          obtain ⟨q1, q2, q3⟩ := hq
          rw [q1, q2]
          have hxx : x.toNat = xn := hxn
          have HTk2 : Hid (takeF c.bs 9 0 0 c.pos = if 128 ≤ xn then takeF c.bs (8 - i) (i + 1) n2 (p + 1) else if 4611686018427387904 < n2 ∨ (xn = 0 ∧ 0 < i) then (none, p + 1) else (some n2, p + 1)) := by
            show _ = _
            rw [HTk.out, show 9 - i = (8 - i) + 1 by omega, takeF_step (List.getElem?_eq_getElem hpl2), HX.out, hxx, hn2]
          have hA7 := HC6.out.set (c' := { c with pos := p + 1 }) 1 (.int .i64 ((p : Int) + 1)) rfl rfl (by simp [cdCells])
          have hk7 : Mem.Keeps (fun k => k = g) w (w6.setCell ⟨g, 1, none⟩ (.int .i64 ((p : Int) + 1))) := HK6.out.setCell (p := ⟨g, 1, none⟩) (fun _ => rfl) _
          obtain ⟨w7, hw7⟩ : ∃ w7, w6.setCell ⟨g, 1, none⟩ (.int .i64 ((p : Int) + 1)) = w7 := ⟨_, rfl⟩
          rw [hw7] at hA7 hk7 ⊢
          have HC7 := Lib.hid hA7
          have HK7 := Lib.hid hk7
          clear hw7 hA7 hk7 x1 xf HC6 HK6 HTk HX hxx hxn q1 q2
          by_cases hge : 128 ≤ xn
          · have d3 : decide ((128 : Int) ≤ (xn : Int)) = true := by simp; omega
            have HT8 : Hid (takeF c.bs 9 0 0 c.pos = takeF c.bs (9 - (i + 1)) (i + 1) n2 (p + 1)) := by show _ = _; rw [HTk2.out, if_pos hge, show 9 - (i + 1) = 8 - i by omega]
            have Q3 := Lib.hid q3.1
            clear HTk2 hge q3 hn2
            go_wp2
            go_roundw
            case rel => exact ⟨⟨i + 1, n2, p + 1, by omega, Q3.out, by omega, rfl, by go_num, HC7, HT8, HK7⟩⟩
            case measure => simp [intOf]; omega
          · have d3 : decide ((128 : Int) ≤ (xn : Int)) = false := by simp; omega
            by_cases hbig : 4611686018427387904 < n2
            · have d4 : decide ((4611686018427387904 : Int) < (n2 : Int)) = true := by simp; omega
              have HTB : Hid (TkBad w g (some ⟨b, o, none⟩) cap c w7) := ⟨⟨p + 1, by rw [HTk2.out, if_neg hge, if_pos (.inl hbig)], HC7, HK7⟩⟩
              clear HTk2 hge hbig q3 hn2
              go_wp2
              go_step3
              exact ⟨rfl, HTB.out, _, _, _, _, _, _, _, _, _, _, _, _, _, _, _, _, _, _, _, _, _, _, _, _, _, _, _, _, _, _, _, _, _, _, _, _, _, _, _, _, _, _, _, _, _, _, _, _, _, _, _, _, _, _, _, _, _, _, _, _, _, rfl⟩
            · have d4 : decide ((4611686018427387904 : Int) < (n2 : Int)) = false := by simp; omega
              by_cases hx0 : xn = 0
              · have d5 : ((xn : Int) == 0) = true := by simp [hx0]
                by_cases hi0 : 0 < i
                · have d6 : decide ((0 : Int) < (i : Int)) = true := by simp; omega
                  have HTB : Hid (TkBad w g (some ⟨b, o, none⟩) cap c w7) := ⟨⟨p + 1, by rw [HTk2.out, if_neg hge, if_pos (.inr ⟨hx0, hi0⟩)], HC7, HK7⟩⟩
                  clear HTk2 hge hbig q3 hn2 hx0
                  go_wp2
                  go_step3
                  exact ⟨rfl, HTB.out, _, _, _, _, _, _, _, _, _, _, _, _, _, _, _, _, _, _, _, _, _, _, _, _, _, _, _, _, _, _, _, _, _, _, _, _, _, _, _, _, _, _, _, _, _, _, _, _, _, _, _, _, _, _, _, _, _, _, _, _, _, rfl⟩
                · have d6 : decide ((0 : Int) < (i : Int)) = false := by simp; omega
                  have HTG : Hid (takeF c.bs 9 0 0 c.pos = (some n2, p + 1)) := by show _ = _; rw [HTk2.out, if_neg hge, if_neg (fun h => h.elim hbig (fun h => hi0 h.2))]
                  obtain ⟨hc8, hc9⟩ := tk_conv hbig
                  clear HTk2 hge hbig q3 hn2 hx0
                  go_wp2
                  simp only [Exit.jump]
                  go_ret
                  have htc : takeC c = ({ c with pos := p + 1 }, n2) := by unfold takeC; rw [HTG.out]
                  exact ⟨by rw [htc]; rfl, by rw [htc]; exact HC7.out, HK7.out⟩
              · have d5 : ((xn : Int) == 0) = false := by simp [hx0]
                have HTG : Hid (takeF c.bs 9 0 0 c.pos = (some n2, p + 1)) := by show _ = _; rw [HTk2.out, if_neg hge, if_neg (fun h => h.elim hbig (fun h => hx0 h.1))]
                obtain ⟨hc8, hc9⟩ := tk_conv hbig
                clear HTk2 hge hbig q3 hn2 hx0
                go_wp2
                simp only [Exit.jump]
                go_ret
                have htc : takeC c = ({ c with pos := p + 1 }, n2) := by unfold takeC; rw [HTG.out]
                exact ⟨by rw [htc]; rfl, by rw [htc]; exact HC7.out, HK7.out⟩
      · obtain rfl : i = 9 := by omega
        have HTG : Hid (takeF c.bs 9 0 0 c.pos = (none, p)) := by show _ = _; rw [HTk.out]; rfl
        obtain ⟨wb, hwb⟩ : ∃ wb, wb = wr := ⟨_, rfl⟩
        subst hwb
        have HCb := HCr
        have HKb := HKr
        clear x0 x1 HCr HKr HTk
        have htc : takeC c = ({ c with pos := p, bad := true }, 0) := by unfold takeC; rw [HTG.out]
        have HTC := Lib.hid htc
        have y1 := HCb.out.B.cell (j := 3) rfl
        have yf := HCb.out.B.fr
        have hA9 := HCb.out.set (c' := { c with pos := p, bad := true }) 3 (.bool true) rfl rfl (by simp [cdCells])
        have hk9 : Mem.Keeps (fun k => k = g) w (wb.setCell ⟨g, 3, none⟩ (.bool true)) := HKb.out.setCell (p := ⟨g, 3, none⟩) (fun _ => rfl) _
        have HA9 := Lib.hid hA9
        have HK9 := Lib.hid hk9
        clear htc hA9 hk9 HTG
        go_wp2
        go_step3
        go_wp2
        simp only [Exit.jump]
        go_ret
        exact ⟨by rw [HTC.out]; rfl, by rw [HTC.out]; exact HA9.out, HK9.out⟩
  · rintro a' wb ⟨hTB, u1, u2, u3, u4, u5, u6, u7, u8, u9, u10, u11, u12, u13, u14, u15, u16, u17, u18, u19, u20, u21, u22, u23, u24, u25, u26, u27, u28, u29, u30, u31, u32, u33, u34, u35, u36, u37, u38, u39, u40, u41, u42, u43, u44, u45, u46, u47, u48, u49, u50, u51, u52, u53, u54, u55, u56, u57, u58, u59, u60, u61, rfl⟩
    obtain ⟨p, htg, HCb, HKb⟩ := hTB.out
    have HTG := Lib.hid htg
    clear htg hTB
    have htc : takeC c = ({ c with pos := p, bad := true }, 0) := by unfold takeC; rw [HTG.out]
    have HTC := Lib.hid htc
    have y1 := HCb.out.B.cell (j := 3) rfl
    have yf := HCb.out.B.fr
    have hA9 := HCb.out.set (c' := { c with pos := p, bad := true }) 3 (.bool true) rfl rfl (by simp [cdCells])
    have hk9 : Mem.Keeps (fun k => k = g) w (wb.setCell ⟨g, 3, none⟩ (.bool true)) := HKb.out.setCell (p := ⟨g, 3, none⟩) (fun _ => rfl) _
    have HA9 := Lib.hid hA9
    have HK9 := Lib.hid hk9
    clear htc hA9 hk9 HTG
    go_wp2
    simp only [Exit.jump]
    go_ret
    exact ⟨by rw [HTC.out]; rfl, by rw [HTC.out]; exact HA9.out, HK9.out⟩
end Go.Proofs.Ytkfgedgjpgehoaa
