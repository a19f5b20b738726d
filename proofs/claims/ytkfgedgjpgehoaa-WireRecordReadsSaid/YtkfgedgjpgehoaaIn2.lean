/- The document's In in memory; the walks of its next, number, truth, text. No conditions. -/
import Derived.Test.YtkfgedgjpgehoaaWireK3
import Derived.Test.YtkfgedgjpgehoaaWire22
namespace Go.Proofs.Ytkfgedgjpgehoaa
open Go.ChangeShapes Go.WideShapes Go.ChangeAt Go.RowKit
set_option linter.unusedVariables false
set_option linter.unusedSimpArgs false
namespace Wi
structure Id where
  bs : List UInt8
  pos : Nat
  bad : Bool
def idCells (A : Option Addr) (cap : Nat) (i : Id) : List Value := [.slice A i.bs.length cap, .int .i64 i.pos, .bool i.bad]
structure IAt (w : World) (g : Nat) (A : Option Addr) (cap : Nat) (i : Id) : Prop where
  B : Mem.Bx w 86 3 g (idCells A cap i)
  R : Mem.Rd w w.heap.size A (i.bs.map Mem.byteV)
  ne : ∀ k, Mem.blk A = some k → k ≠ g ∧ k < w.heap.size
  le : i.bs.length ≤ cap ∧ i.bs.length ≤ 1000000000
  pl : i.pos ≤ i.bs.length
theorem IAt.keeps {w w' : World} {g : Nat} {A : Option Addr} {cap : Nat} {i : Id} {S : Nat → Prop} (h : IAt w g A cap i) (hk : Mem.Keeps S w w') (hS : ∀ k, k = g ∨ Mem.blk A = some k → ¬ S k) : IAt w' g A cap i :=
  ⟨h.B.keeps hk (hS g (.inl rfl)), h.R.keepsAt hk (Nat.le_refl _) (fun k hb => hS k (.inr hb)), fun k hb => ⟨(h.ne k hb).1, Nat.lt_of_lt_of_le (h.ne k hb).2 hk.size⟩, h.le, h.pl⟩
theorem IAt.set {w : World} {g : Nat} {A : Option Addr} {cap : Nat} {i i' : Id} (h : IAt w g A cap i) (j : Nat) (u : Value) (hb : i'.bs = i.bs) (hp : i'.pos ≤ i.bs.length) (hj : (idCells A cap i).set j u = idCells A cap i') : IAt (w.setCell ⟨g, j, none⟩ u) g A cap i' := by
  have hk : Mem.Keeps (fun k => k = g) w (w.setCell ⟨g, j, none⟩ u) := (Mem.Keeps.refl (fun k => k = g) w).setCell (p := ⟨g, j, none⟩) (fun _ => rfl) _
  refine ⟨hj ▸ h.B.set j u, ?_, fun k hk2 => ⟨(h.ne k hk2).1, Nat.lt_of_lt_of_le (h.ne k hk2).2 hk.size⟩, by rw [hb]; exact h.le, by rw [hb]; exact hp⟩
  rw [hb]; exact h.R.keepsAt hk (Nat.le_refl _) (fun k hb => (h.ne k hb).1)
def nextI (i : Id) : Id × Nat := if i.bad = true ∨ i.bs.length ≤ i.pos then ({ i with bad := true }, 0) else ({ i with pos := i.pos + 1 }, (i.bs[i.pos]?.getD 0).toNat)
def numF : Nat → Nat → Nat → Id → Id × Nat
  | 0, _, _, i => ({ i with bad := true }, 0)
  | f + 1, k, n, i =>
    if (nextI i).2 < 128 then
      (if ((nextI i).2 = 0 ∧ 0 < k) ∨ 4611686018427387904 < n + (nextI i).2 % 128 * 2 ^ (7 * k) ∨ (nextI i).1.bad = true then ({ (nextI i).1 with bad := true }, 0) else ((nextI i).1, n + (nextI i).2 % 128 * 2 ^ (7 * k)))
    else numF f (k + 1) (n + (nextI i).2 % 128 * 2 ^ (7 * k)) (nextI i).1
def inNum (i : Id) : Id × Nat := numF 9 0 0 i
theorem nextI_bs (i : Id) : (nextI i).1.bs = i.bs := by unfold nextI; split <;> rfl
theorem nextI_lt (i : Id) : (nextI i).2 < 256 := by
  unfold nextI; split
  · omega
  · exact UInt8.toNat_lt _
theorem nextI_pl {i : Id} (h : i.pos ≤ i.bs.length) : (nextI i).1.pos ≤ (nextI i).1.bs.length := by
  unfold nextI; split
  · exact h
  · show i.pos + 1 ≤ i.bs.length; omega
structure IEnd (w : World) (g : Nat) (A : Option Addr) (cap : Nat) (v : Value) (i : Id) (x : Ending) (w' : World) : Prop where
  r : x = .returned v
  h : IAt w' g A cap i
  k : Mem.Keeps (fun q => q = g) w w'
end Wi
open Wi in
set_option maxRecDepth 8000 in
set_option maxHeartbeats 4000000 in
theorem iNext_any {w : World} {g : Nat} {A : Option Addr} {cap : Nat} {i : Wi.Id} (h : Wi.IAt w g A cap i) :
    Calls Try.prog 53 #[.pointer (some ⟨g, 0, none⟩)] w (Wi.IEnd w g A cap (.int .u8 ((Wi.nextI i).2 : Nat)) (Wi.nextI i).1) := by
  have HC := Lib.hid h
  have x0 : w.cell? ⟨g, 0, none⟩ = some (.slice A i.bs.length cap) := h.B.cell (j := 0) rfl
  have x1 : w.cell? ⟨g, 1, none⟩ = some (.int .i64 i.pos) := h.B.cell (j := 1) rfl
  have x2 : w.cell? ⟨g, 2, none⟩ = some (.bool i.bad) := h.B.cell (j := 2) rfl
  have yf := h.B.fr
  have hl := h.le.2
  have hpl := h.pl
  clear h
  go_enter Try.func53, Try.ntmps53
  cases hb : i.bad
  case true =>
    have hn : nextI i = ({ i with bad := true }, 0) := by unfold nextI; rw [if_pos (.inl hb)]
    have HN := Lib.hid hn
    rw [hb] at x2
    clear hb hn
    go_wp2
    go_quiet (fail)
    obtain ⟨w2, hw2⟩ : ∃ w2, w.drewN nq = w2 := ⟨_, rfl⟩
    have hk2 : Mem.Keeps (fun _ => False) w w2 := by rw [← hw2]; exact (Mem.Keeps.refl _ _).drewN _
    have HC2 := Lib.hid (HC.out.keeps hk2 (fun _ _ h => h))
    have HK2 := Lib.hid hk2
    have y2 := HC2.out.B.cell (j := 2) rfl
    have yf2 := HC2.out.B.fr
    rw [hw2]
    clear hw2 hk2 x0 x1 x2 yf
    go_wp2
    go_ret
    refine ⟨by rw [HN.out]; rfl, ?_, ?_⟩
    · rw [HN.out]; exact HC2.out.set 2 (.bool true) rfl HC2.out.pl (by simp [idCells])
    · exact (HK2.out.mono (T := fun q => q = g) (fun q h _ => h.elim)).setCell (p := ⟨g, 2, none⟩) (fun _ => rfl) _
  rw [hb] at x2
  have HBD := Lib.hid hb
  by_cases hp : i.bs.length ≤ i.pos
  case pos =>
    have hn : nextI i = ({ i with bad := true }, 0) := by unfold nextI; rw [if_pos (.inr hp)]
    have HN := Lib.hid hn
    have d1 : decide ((i.bs.length : Int) ≤ (i.pos : Int)) = true := by simp; omega
    have d1' : decide (i.bs.length ≤ i.pos) = true := by simpa using hp
    clear hb hn
    go_wp2
    go_quiet (fail)
    obtain ⟨w2, hw2⟩ : ∃ w2, w.drewN nq = w2 := ⟨_, rfl⟩
    have hk2 : Mem.Keeps (fun _ => False) w w2 := by rw [← hw2]; exact (Mem.Keeps.refl _ _).drewN _
    have HC2 := Lib.hid (HC.out.keeps hk2 (fun _ _ h => h))
    have HK2 := Lib.hid hk2
    have y2 := HC2.out.B.cell (j := 2) rfl
    have yf2 := HC2.out.B.fr
    rw [hw2]
    clear hw2 hk2 x0 x1 x2 yf
    go_wp2
    go_ret
    refine ⟨by rw [HN.out]; rfl, ?_, ?_⟩
    · rw [HN.out]; exact HC2.out.set 2 (.bool true) rfl HC2.out.pl (by simp [idCells])
    · exact (HK2.out.mono (T := fun q => q = g) (fun q h _ => h.elim)).setCell (p := ⟨g, 2, none⟩) (fun _ => rfl) _
  have d1 : decide ((i.bs.length : Int) ≤ (i.pos : Int)) = false := by simp; omega
  have d1' : decide (i.bs.length ≤ i.pos) = false := by simpa using hp
  obtain ⟨b, o, hA, hbb, hcc⟩ := HC.out.R.at (k := i.pos) (by rw [List.length_map]; omega)
  subst hA
  have hx := (HC.out.ne b rfl).1
  obtain ⟨c, hc⟩ : ∃ c, i.bs[i.pos]? = some c := ⟨_, List.getElem?_eq_getElem (by omega)⟩
  have hcv : w.cell? ⟨b, o + i.pos, none⟩ = some (.int .u8 (c.toNat : Nat)) := by
    rw [hcc]
    obtain ⟨h1, h2⟩ := List.getElem?_eq_some_iff.1 hc
    simp [h2, Mem.byteV]
  have hn : nextI i = ({ i with pos := i.pos + 1 }, c.toNat) := by unfold nextI; rw [if_neg (by rw [HBD.out]; simp; omega), hc]; rfl
  have HN := Lib.hid hn
  clear hn hcc hc
  have HCV := Lib.hid hcv
  clear hcv
  go_upto_region 1 with fail
  go_quiet (fail)
  obtain ⟨w2, hw2⟩ : ∃ w2, w.drewN nq = w2 := ⟨_, rfl⟩
  have hk2 : Mem.Keeps (fun _ => False) w w2 := by rw [← hw2]; exact (Mem.Keeps.refl _ _).drewN _
  have HC2 := Lib.hid (HC.out.keeps hk2 (fun _ _ h => h))
  have HK2 := Lib.hid hk2
  have y1 : w2.cell? ⟨g, 1, none⟩ = some (.int .i64 (i.pos : Nat)) := HC2.out.B.cell (j := 1) rfl
  have yf2 := HC2.out.B.fr
  rw [hw2]
  clear hw2 hk2 x0 x1 x2 yf d1
  go_upto_region 5 with fail
  obtain ⟨w3, hw3⟩ : ∃ w3, w2.setCell ⟨g, 1, none⟩ (.int .i64 ((i.pos : Int) + 1)) = w3 := ⟨_, rfl⟩
  have hA3 : IAt w3 g (some ⟨b, o, none⟩) cap { i with pos := i.pos + 1 } := by rw [← hw3]; exact HC2.out.set 1 _ rfl (by show i.pos + 1 ≤ _; omega) (by simp [idCells])
  have hk3 : Mem.Keeps (fun q => q = g) w w3 := by rw [← hw3]; exact (HK2.out.mono (T := fun q => q = g) (fun q h _ => h.elim)).setCell (p := ⟨g, 1, none⟩) (fun _ => rfl) _
  have x0 : w3.cell? ⟨g, 0, none⟩ = some (.slice (some ⟨b, o, none⟩) i.bs.length cap) := hA3.B.cell (j := 0) rfl
  have x1 : w3.cell? ⟨g, 1, none⟩ = some (.int .i64 ((i.pos + 1 : Nat) : Int)) := hA3.B.cell (j := 1) rfl
  have x2 : w3.cell? ⟨b, o + i.pos, none⟩ = some (.int .u8 (c.toNat : Nat)) := by
    have h9 := (HC.out.R.keepsAt hk3 (Nat.le_refl _) (fun k hb => (HC.out.ne k hb).1)).cells0 (k := i.pos) (by rw [List.length_map]; omega)
    rw [h9]
    have h8 := HC.out.R.cells0 (k := i.pos) (by rw [List.length_map]; omega)
    rw [← h8, HCV.out]
  have HA3 := Lib.hid hA3
  have HK3 := Lib.hid hk3
  rw [hw3]
  clear hw3 hA3 hk3 y1 yf2 HC2 HK2
  go_quiet (fail)
  go_wp2
  go_ret
  have hkd : Mem.Keeps (fun q => q = g) w (w3.drewN nq) := HK3.out.drewN _
  refine ⟨by rw [HN.out]; rfl, ?_, hkd⟩
  rw [HN.out]
  exact HA3.out.keeps ((Mem.Keeps.refl (fun _ => False) _).drewN _) (fun _ _ h => h)
end Go.Proofs.Ytkfgedgjpgehoaa

namespace Go.Proofs.Ytkfgedgjpgehoaa
open Go.ChangeShapes Go.WideShapes Go.ChangeAt Go.RowKit
set_option linter.unusedVariables false
set_option linter.unusedSimpArgs false
namespace Wi
theorem and127 {c : Nat} (h : c < 256) : bits .and .u8 (c : Int) 127 = (c : Int) % 128 := by
  have key : ∀ p : Fin 256, bits .and .u8 (p.val : Int) 127 = (p.val : Int) % 128 := by decide +kernel
  exact key ⟨c, h⟩
theorem numF_next {f k n : Nat} {i i1 : Id} {c : Nat} (h : nextI i = (i1, c)) : numF (f + 1) k n i = if c < 128 then (if (c = 0 ∧ 0 < k) ∨ 4611686018427387904 < n + c % 128 * 2 ^ (7 * k) ∨ i1.bad = true then ({ i1 with bad := true }, 0) else (i1, n + c % 128 * 2 ^ (7 * k))) else numF f (k + 1) (n + c % 128 * 2 ^ (7 * k)) i1 := by
  rw [numF, h]
structure InRel (w : World) (g : Nat) (A : Option Addr) (cap : Nat) (i : Id) (v3 v4 : Value) (wr : World) : Prop where
  out : ∃ (k n : Nat) (i1 : Id), k ≤ 9 ∧ n < 2 ^ (7 * k) ∧ v3 = .int .u64 n ∧ v4 = .int .i64 k ∧ Hid (IAt wr g A cap i1) ∧ Hid (numF 9 0 0 i = numF (9 - k) k n i1) ∧ Hid (Mem.Keeps (fun q => q = g) w wr)
end Wi
open Wi in
set_option maxRecDepth 8000 in
set_option maxHeartbeats 4000000 in
theorem iNumber_any {w : World} {g : Nat} {A : Option Addr} {cap : Nat} {i : Wi.Id} (h : Wi.IAt w g A cap i) :
    Calls Try.prog 35 #[.pointer (some ⟨g, 0, none⟩)] w (Wi.IEnd w g A cap (.int .i64 ((Wi.inNum i).2 : Nat)) (Wi.inNum i).1) := by
  have HC := Lib.hid h
  have HU : Hid (inNum i = numF 9 0 0 i) := rfl
  clear h
  go_enter Try.func35, Try.ntmps35
  go_wp2
  go_loopw [3, 4] (InRel w g A cap i) (fun _ t _ => 9 - (intOf t).toNat)
  case atStart => exact ⟨⟨0, 0, i, by omega, by decide, rfl, rfl, HC, rfl, Mem.Keeps.refl _ _⟩⟩
  case round =>
    obtain ⟨k, n, i1, hk, hn, rfl, rfl, HCr, HNr, HKr⟩ := hrel.out
    clear hrel
    by_cases hk9 : k < 9
    · obtain ⟨i2, c, hnx⟩ : ∃ i2 c, nextI i1 = (i2, c) := ⟨_, _, rfl⟩
      have hc256 : c < 256 := by have := nextI_lt i1; rw [hnx] at this; exact this
      have hx := iNext_any HCr.out
      rw [hnx] at hx
      have HX := Lib.hid hx
      have hst := numF_next (f := 8 - k) (k := k) (n := n) hnx
      rw [show 8 - k + 1 = 9 - k by omega] at hst
      have HST := Lib.hid hst
      obtain ⟨q1, q2, q3, q4⟩ := tk_nums hk9 hn hc256
      have qa := and127 hc256
      obtain ⟨n2, hn2⟩ : ∃ n2, n + c % 128 * 2 ^ (7 * k) = n2 := ⟨_, rfl⟩
      have d1 : decide ((k : Int) < 9) = true := by simp; omega
      have qn : IntKind.u64.wrap ((n : Int) + (c : Int) % 128 * 2 ^ (7 * k)) = (n2 : Int) := by
        rw [← hn2, ← q2]; push_cast; rfl
      rw [hn2] at q2 q3 q4
      have HN2 := Lib.hid hn2
      have hsh : (2 : Int) ^ (7 * k) = 2 ^ (7 * k) := rfl
      clear hnx hx hst hn2
      go_upto_region 7 with (go_at_call 53; refine HX.out.mono ?_; rintro x5 w5 ⟨rfl, ha, hk5⟩; have HA5 := Lib.hid ha; have HK5 := Lib.hid (HKr.out.trans hk5 (fun q h _ => h)); clear ha hk5 HX)
      try rw [qn]
      rw [HN2.out] at HST
      have HQ3 := Lib.hid q3
      clear q1 q2 qa qn hsh d1 q3
      by_cases hc : c < 128
      · have d1 : decide ((c : Int) < 128) = true := by simp; omega
        by_cases hz : c = 0 ∧ 0 < k
        · have d2 : ((c : Int) == 0) = true := by simp; omega
          have d3 : decide ((0 : Int) < (k : Int)) = true := by simp; omega
          have d3' : decide (0 < k) = true := by simp; omega
          have he : inNum i = ({ i2 with bad := true }, 0) := by rw [HU.out, HNr.out, HST.out, if_pos hc, if_pos (.inl hz)]
          have y2 : w5.cell? ⟨g, 2, none⟩ = some (.bool i2.bad) := HA5.out.B.cell (j := 2) rfl
          have yf := HA5.out.B.fr
          have HE := Lib.hid he
          clear he hz hc
          go_wp2
          go_ret
          refine ⟨by rw [HE.out]; rfl, ?_, ?_⟩
          · rw [HE.out]; exact HA5.out.set 2 (.bool true) rfl HA5.out.pl (by simp [idCells])
          · exact HK5.out.setCell (p := ⟨g, 2, none⟩) (fun _ => rfl) _
        · by_cases hb : 4611686018427387904 < n2
          · have d4 : decide ((4611686018427387904 : Int) < (n2 : Int)) = true := by simp; omega
            have he : inNum i = ({ i2 with bad := true }, 0) := by rw [HU.out, HNr.out, HST.out, if_pos hc, if_pos (.inr (.inl hb))]
            have y2 : w5.cell? ⟨g, 2, none⟩ = some (.bool i2.bad) := HA5.out.B.cell (j := 2) rfl
            have yf := HA5.out.B.fr
            have HE := Lib.hid he
            have hzz : ((c : Int) == 0) = false ∨ ((c : Int) == 0) = true ∧ decide ((0 : Int) < (k : Int)) = false ∧ decide (0 < k) = false := by
              by_cases h0 : c = 0
              · exact .inr ⟨by simp; omega, by simp; omega, by simp; omega⟩
              · exact .inl (by simp; omega)
            clear he hz hc hb
            rcases hzz with d2 | ⟨d2, d3, d3'⟩
            · go_wp2
              go_ret
              refine ⟨by rw [HE.out]; rfl, ?_, ?_⟩
              · rw [HE.out]; exact HA5.out.set 2 (.bool true) rfl HA5.out.pl (by simp [idCells])
              · exact HK5.out.setCell (p := ⟨g, 2, none⟩) (fun _ => rfl) _
            · go_wp2
              go_ret
              refine ⟨by rw [HE.out]; rfl, ?_, ?_⟩
              · rw [HE.out]; exact HA5.out.set 2 (.bool true) rfl HA5.out.pl (by simp [idCells])
              · exact HK5.out.setCell (p := ⟨g, 2, none⟩) (fun _ => rfl) _
          · have d4 : decide ((4611686018427387904 : Int) < (n2 : Int)) = false := by simp; omega
            have hzz : ((c : Int) == 0) = false ∨ ((c : Int) == 0) = true ∧ decide ((0 : Int) < (k : Int)) = false ∧ decide (0 < k) = false := by
              by_cases h0 : c = 0
              · exact .inr ⟨by simp; omega, by simp; omega, by simp; omega⟩
              · exact .inl (by simp; omega)
            have y2 : w5.cell? ⟨g, 2, none⟩ = some (.bool i2.bad) := HA5.out.B.cell (j := 2) rfl
            obtain ⟨hcv1, hcv2⟩ := tk_conv hb
            cases hbd : i2.bad
            · have he : inNum i = (i2, n2) := by
                rw [HU.out, HNr.out, HST.out, if_pos hc, if_neg (by
                  intro h9
                  rcases h9 with h9 | h9 | h9
                  · exact hz h9
                  · exact hb h9
                  · rw [hbd] at h9; cases h9)]
              rw [hbd] at y2
              have HE := Lib.hid he
              clear he hz hc hb hbd
              rcases hzz with d2 | ⟨d2, d3, d3'⟩
              · go_wp2
                go_ret
                exact ⟨by rw [HE.out]; rfl, by rw [HE.out]; exact HA5.out, HK5.out⟩
              · go_wp2
                go_ret
                exact ⟨by rw [HE.out]; rfl, by rw [HE.out]; exact HA5.out, HK5.out⟩
            · have he : inNum i = (i2, 0) := by
                have e9 : ({ i2 with bad := true } : Wi.Id) = i2 := by cases i2; simp at hbd; subst hbd; rfl
                rw [HU.out, HNr.out, HST.out, if_pos hc, if_pos (.inr (.inr hbd)), e9]
              rw [hbd] at y2
              have HE := Lib.hid he
              clear he hz hc hb hbd
              rcases hzz with d2 | ⟨d2, d3, d3'⟩
              · go_wp2
                go_ret
                exact ⟨by rw [HE.out]; rfl, by rw [HE.out]; exact HA5.out, HK5.out⟩
              · go_wp2
                go_ret
                exact ⟨by rw [HE.out]; rfl, by rw [HE.out]; exact HA5.out, HK5.out⟩
      · have d1 : decide ((c : Int) < 128) = false := by simp; omega
        have hn3 : numF 9 0 0 i = numF (9 - (k + 1)) (k + 1) n2 i2 := by rw [HNr.out, HST.out, if_neg hc, show 9 - (k + 1) = 8 - k by omega]
        have HN3 := Lib.hid hn3
        clear hn3 hc
        go_wp2
        go_roundw
        case rel => exact ⟨⟨k + 1, n2, i2, by omega, HQ3.out, rfl, by go_num, HA5, HN3, HK5⟩⟩
        case measure => simp [intOf]; omega
    · obtain rfl : k = 9 := by omega
      have he : inNum i = ({ i1 with bad := true }, 0) := by rw [HU.out, HNr.out]; rfl
      have y2 : wr.cell? ⟨g, 2, none⟩ = some (.bool i1.bad) := HCr.out.B.cell (j := 2) rfl
      have yf := HCr.out.B.fr
      have HE := Lib.hid he
      have d1 : decide (((9 : Nat) : Int) < 9) = false := by decide
      clear he hk9 hk
      go_wp2
      go_ret
      refine ⟨by rw [HE.out]; rfl, ?_, ?_⟩
      · rw [HE.out]; exact HCr.out.set 2 (.bool true) rfl HCr.out.pl (by simp [idCells])
      · exact HKr.out.setCell (p := ⟨g, 2, none⟩) (fun _ => rfl) _
end Go.Proofs.Ytkfgedgjpgehoaa

namespace Go.Proofs.Ytkfgedgjpgehoaa
open Go.ChangeShapes Go.WideShapes Go.ChangeAt Go.RowKit
set_option linter.unusedVariables false
set_option linter.unusedSimpArgs false
namespace Wi
def inTru (i : Id) : Id × Bool := if 1 < (nextI i).2 then ({ (nextI i).1 with bad := true }, false) else ((nextI i).1, (nextI i).2 == 1)
def inTxt (i : Id) (m : Nat) : Id × ByteArray := if (inNum i).1.bad = true ∨ m < (inNum i).2 ∨ (inNum i).1.bs.length - (inNum i).1.pos < (inNum i).2 then ({ (inNum i).1 with bad := true }, ⟨#[]⟩)
  else ({ (inNum i).1 with pos := (inNum i).1.pos + (inNum i).2 }, strB (Mem.sub (inNum i).1.bs (inNum i).1.pos (inNum i).2))
theorem numF_bs : ∀ (f k n : Nat) (i : Id), (numF f k n i).1.bs = i.bs
  | 0, k, n, i => rfl
  | f + 1, k, n, i => by
    rw [numF]
    split
    · split
      · exact nextI_bs i
      · exact nextI_bs i
    · rw [numF_bs]; exact nextI_bs i
theorem inNum_bs (i : Id) : (inNum i).1.bs = i.bs := numF_bs 9 0 0 i
theorem numF_le : ∀ (f k n : Nat) (i : Id), (numF f k n i).2 ≤ 4611686018427387904
  | 0, k, n, i => Nat.zero_le _
  | f + 1, k, n, i => by
    rw [numF]
    split
    · split
      · exact Nat.zero_le _
      · rename_i h; exact Nat.le_of_not_lt fun h9 => h (.inr (.inl h9))
    · exact numF_le f _ _ _
theorem inNum_le (i : Id) : (inNum i).2 ≤ 4611686018427387904 := numF_le 9 0 0 i
theorem conv_nil {P : Program} {w : World} {p : Option Addr} {cap : Nat} (src dst e : TypeId) (hs : P.underlying src = some (.slice e)) (he : P.underlying e = some (.int .u8)) (hd : P.underlying dst = some .string) : (convert src dst (.slice p 0 cap)).run P w = .ok (.string ⟨#[]⟩) w := by
  rw [run_convert_bytes_string w src dst e p 0 cap hs he hd]
  cases p <;> simp [Conv.bytesToString, loadCells]
  all_goals rfl
end Wi
open Wi in
set_option maxRecDepth 8000 in
set_option maxHeartbeats 4000000 in
theorem iTruth_any {w : World} {g : Nat} {A : Option Addr} {cap : Nat} {i : Wi.Id} (h : Wi.IAt w g A cap i) :
    Calls Try.prog 42 #[.pointer (some ⟨g, 0, none⟩)] w (Wi.IEnd w g A cap (.bool (Wi.inTru i).2) (Wi.inTru i).1) := by
  obtain ⟨i2, c, hnx⟩ : ∃ i2 c, nextI i = (i2, c) := ⟨_, _, rfl⟩
  have hx := iNext_any h
  have hu : inTru i = if 1 < c then ({ i2 with bad := true }, false) else (i2, c == 1) := by unfold inTru; rw [hnx]
  rw [hnx] at hx
  have HX := Lib.hid hx
  have HU := Lib.hid hu
  clear h hx hu hnx
  go_enter Try.func42, Try.ntmps42
  go_upto_region 2 with (go_at_call 53; refine HX.out.mono ?_; rintro x5 w5 ⟨rfl, ha, hk5⟩; have HA5 := Lib.hid ha; have HK5 := Lib.hid hk5; clear ha hk5 HX)
  have y2 : w5.cell? ⟨g, 2, none⟩ = some (.bool i2.bad) := HA5.out.B.cell (j := 2) rfl
  have yf := HA5.out.B.fr
  by_cases hc : 1 < c
  · have he : inTru i = ({ i2 with bad := true }, false) := by rw [HU.out, if_pos hc]
    have d1 : decide ((1 : Int) < (c : Int)) = true := by simp; omega
    have d2 : ((c : Int) == 1) = false := by simp; omega
    have HE := Lib.hid he
    clear he hc
    go_wp2
    go_ret
    refine ⟨by rw [HE.out]; rfl, ?_, ?_⟩
    · rw [HE.out]; exact HA5.out.set 2 (.bool true) rfl HA5.out.pl (by simp [idCells])
    · exact HK5.out.setCell (p := ⟨g, 2, none⟩) (fun _ => rfl) _
  · have he : inTru i = (i2, c == 1) := by rw [HU.out, if_neg hc]
    have d1 : decide ((1 : Int) < (c : Int)) = false := by simp; omega
    have d2 : ((c : Int) == 1) = (c == 1) := by rw [Bool.eq_iff_iff]; simp; omega
    have HE := Lib.hid he
    clear he hc
    go_wp2
    go_ret
    exact ⟨by rw [HE.out]; rfl, by rw [HE.out]; exact HA5.out, HK5.out⟩
open Wi in
set_option maxRecDepth 8000 in
set_option maxHeartbeats 4000000 in
theorem iText_any {w : World} {g : Nat} {A : Option Addr} {cap : Nat} {i : Wi.Id} (m : Nat) (hm : m ≤ 100) (h : Wi.IAt w g A cap i) (hcap : cap ≤ maxLen) :
    Calls Try.prog 43 #[.pointer (some ⟨g, 0, none⟩), .int .i64 m] w (Wi.IEnd w g A cap (.string (Wi.inTxt i m).2) (Wi.inTxt i m).1) := by
  obtain ⟨i2, n, hnx⟩ : ∃ i2 n, inNum i = (i2, n) := ⟨_, _, rfl⟩
  have hx := iNumber_any h
  have hu : inTxt i m = if i2.bad = true ∨ m < n ∨ i2.bs.length - i2.pos < n then ({ i2 with bad := true }, ⟨#[]⟩) else ({ i2 with pos := i2.pos + n }, strB (Mem.sub i2.bs i2.pos n)) := by unfold inTxt; rw [hnx]
  rw [hnx] at hx
  have hnl : n ≤ 4611686018427387904 := by have := inNum_le i; rw [hnx] at this; exact this
  have HX := Lib.hid hx
  have HU := Lib.hid hu
  clear h hx hu hnx
  go_enter Try.func43, Try.ntmps43
  go_upto_region 2 with (go_at_call 35; refine HX.out.mono ?_; rintro x5 w5 ⟨rfl, ha, hk5⟩; have HA5 := Lib.hid ha; have HK5 := Lib.hid hk5; clear ha hk5 HX)
  have x0 : w5.cell? ⟨g, 0, none⟩ = some (.slice A i2.bs.length cap) := HA5.out.B.cell (j := 0) rfl
  have x1 : w5.cell? ⟨g, 1, none⟩ = some (.int .i64 (i2.pos : Nat)) := HA5.out.B.cell (j := 1) rfl
  have x2 : w5.cell? ⟨g, 2, none⟩ = some (.bool i2.bad) := HA5.out.B.cell (j := 2) rfl
  have hpl := HA5.out.pl
  have hll := HA5.out.le
  obtain ⟨hll1, hll2⟩ := hll
  by_cases hbad : i2.bad = true ∨ m < n ∨ i2.bs.length - i2.pos < n
  · have he : inTxt i m = ({ i2 with bad := true }, ⟨#[]⟩) := by rw [HU.out, if_pos hbad]
    have HE := Lib.hid he
    have fin : ∀ w6 : World, Mem.Keeps (fun _ => False) w5 w6 → IEnd w g A cap (.string (inTxt i m).2) (inTxt i m).1 (.returned (.string ⟨#[]⟩)) (w6.setCell ⟨g, 2, none⟩ (.bool true)) := fun w6 hk6 => by
      have hA6 := HA5.out.keeps hk6 (fun _ _ h => h)
      refine ⟨by rw [HE.out], ?_, ?_⟩
      · rw [HE.out]; exact hA6.set 2 (.bool true) rfl hA6.pl (by simp [idCells])
      · exact (HK5.out.trans hk6 (fun _ h _ => h.elim)).setCell (p := ⟨g, 2, none⟩) (fun _ => rfl) _
    have FIN := Lib.hid fin
    have cells : ∀ k, (w5.drewN k).cell? ⟨g, 2, none⟩ = some (.bool i2.bad) := fun k => (HA5.out.keeps ((Mem.Keeps.refl (fun _ => False) w5).drewN k) (fun _ _ h => h)).B.cell (j := 2) rfl
    have frs : ∀ k j, (w5.drewN k).frozen? ⟨g, j, none⟩ = false := fun k j => (HA5.out.keeps ((Mem.Keeps.refl (fun _ => False) w5).drewN k) (fun _ _ h => h)).B.fr j
    have CE := Lib.hid cells
    have FE := Lib.hid frs
    clear he fin cells frs
    cases hb : i2.bad
    case true =>
      rw [hb] at x2
      clear hb hbad
      go_quiet (fail)
      obtain ⟨w6, hw6⟩ : ∃ w6, w5.drewN nq = w6 := ⟨_, rfl⟩
      have hk6 : Mem.Keeps (fun _ => False) w5 w6 := by rw [← hw6]; exact (Mem.Keeps.refl _ _).drewN _
      have z2 := CE.out nq
      have zf := FE.out nq
      have HK6 := Lib.hid hk6
      rw [hw6] at z2 zf ⊢
      clear hw6 hk6 x0 x1 x2
      go_wp2
      go_ret
      exact FIN.out w6 HK6.out
    rw [hb] at x2
    have HBD := Lib.hid hb
    by_cases hmn : m < n
    · have d1 : decide ((m : Int) < (n : Int)) = true := by simp; omega
      have d1' : decide (m < n) = true := by simpa using hmn
      clear hb hbad
      go_quiet (fail)
      obtain ⟨w6, hw6⟩ : ∃ w6, w5.drewN nq = w6 := ⟨_, rfl⟩
      have hk6 : Mem.Keeps (fun _ => False) w5 w6 := by rw [← hw6]; exact (Mem.Keeps.refl _ _).drewN _
      have z2 := CE.out nq
      have zf := FE.out nq
      have HK6 := Lib.hid hk6
      rw [hw6] at z2 zf ⊢
      clear hw6 hk6 x0 x1 x2
      go_wp2
      go_ret
      exact FIN.out w6 HK6.out
    · have hbig : i2.bs.length - i2.pos < n := by
        rcases hbad with h9 | h9 | h9
        · rw [hb] at h9; cases h9
        · exact absurd h9 hmn
        · exact h9
      have d1 : decide ((m : Int) < (n : Int)) = false := by simp; omega
      have d1' : decide (m < n) = false := by simpa using hmn
      have d2 : decide ((i2.bs.length : Int) - (i2.pos : Int) < (n : Int)) = true := by simp; omega
      have d2' : decide (i2.bs.length - i2.pos < n) = true := by simpa using hbig
      clear hb hbad
      go_quiet (fail)
      obtain ⟨w6, hw6⟩ : ∃ w6, w5.drewN nq = w6 := ⟨_, rfl⟩
      have hk6 : Mem.Keeps (fun _ => False) w5 w6 := by rw [← hw6]; exact (Mem.Keeps.refl _ _).drewN _
      have z2 := CE.out nq
      have zf := FE.out nq
      have HK6 := Lib.hid hk6
      rw [hw6] at z2 zf ⊢
      clear hw6 hk6 x0 x1 x2
      go_wp2
      go_ret
      exact FIN.out w6 HK6.out
  · have he : inTxt i m = ({ i2 with pos := i2.pos + n }, strB (Mem.sub i2.bs i2.pos n)) := by rw [HU.out, if_neg hbad]
    have HE := Lib.hid he
    have hb : i2.bad = false := by cases h9 : i2.bad; rfl; exact absurd (.inl h9) hbad
    have hmn : ¬ m < n := fun h9 => hbad (.inr (.inl h9))
    have hln : ¬ i2.bs.length - i2.pos < n := fun h9 => hbad (.inr (.inr h9))
    rw [hb] at x2
    have d1 : decide ((m : Int) < (n : Int)) = false := by simp; omega
    have d1' : decide (m < n) = false := by simpa using hmn
    have d2 : decide ((i2.bs.length : Int) - (i2.pos : Int) < (n : Int)) = false := by simp; omega
    have d2' : decide (i2.bs.length - i2.pos < n) = false := by simpa using hln
    clear hbad he
    go_quiet (fail)
    obtain ⟨w6, hw6⟩ : ∃ w6, w5.drewN nq = w6 := ⟨_, rfl⟩
    have hA6 : IAt w6 g A cap i2 := by rw [← hw6]; exact HA5.out.keeps ((Mem.Keeps.refl (fun _ => False) w5).drewN _) (fun _ _ h => h)
    have hk6 : Mem.Keeps (fun q => q = g) w w6 := by rw [← hw6]; exact HK5.out.drewN _
    have y1 : w6.cell? ⟨g, 1, none⟩ = some (.int .i64 (i2.pos : Nat)) := hA6.B.cell (j := 1) rfl
    have yf := hA6.B.fr
    have HA6 := Lib.hid hA6
    have HK6 := Lib.hid hk6
    rw [hw6]
    clear hw6 hA6 hk6 x0 x1 x2 d1 d2
    go_upto_region 6 with fail
    obtain ⟨w7, hw7⟩ : ∃ w7, w6.setCell ⟨g, 1, none⟩ (.int .i64 ((i2.pos : Int) + (n : Int))) = w7 := ⟨_, rfl⟩
    have hA7 : IAt w7 g A cap { i2 with pos := i2.pos + n } := by rw [← hw7]; exact HA6.out.set 1 _ rfl (by show i2.pos + n ≤ _; omega) (by simp [idCells])
    have hk7 : Mem.Keeps (fun q => q = g) w w7 := by rw [← hw7]; exact HK6.out.setCell (p := ⟨g, 1, none⟩) (fun _ => rfl) _
    have x0 : w7.cell? ⟨g, 0, none⟩ = some (.slice A i2.bs.length cap) := hA7.B.cell (j := 0) rfl
    have x1 : w7.cell? ⟨g, 1, none⟩ = some (.int .i64 ((i2.pos : Int) + (n : Int))) := hA7.B.cell (j := 1) rfl
    have HA7 := Lib.hid hA7
    have HK7 := Lib.hid hk7
    rw [hw7]
    have fin : ∀ k, IEnd w g A cap (.string (inTxt i m).2) (inTxt i m).1 (.returned (.string (strB (Mem.sub i2.bs i2.pos n)))) (w7.drewN k) := fun k =>
      ⟨by rw [HE.out], by rw [HE.out]; exact HA7.out.keeps ((Mem.Keeps.refl (fun _ => False) w7).drewN k) (fun _ _ h => h), HK7.out.drewN k⟩
    have FIN := Lib.hid fin
    clear hw7 hA7 hk7 y1 yf HA6 HK6 fin
    by_cases hn0 : n = 0
    · subst hn0
      have hs0 : strB (Mem.sub i2.bs i2.pos 0) = ⟨#[]⟩ := by unfold Mem.sub; rw [List.take_zero]; rfl
      have kcv : ∀ (p : Option Addr) (cc k : Nat), (convert 39 9 (.slice p 0 cc)).run Try.prog (w7.drewN k) = .ok (.string ⟨#[]⟩) (w7.drewN k) := fun p cc k => conv_nil _ _ _ bytes_under u8_under string_under
      rw [hs0] at FIN
      clear hs0
      go_quiet (fail)
      all_goals go_wp2
      all_goals go_ret
      all_goals first | exact FIN.out _ | (have e9 : cap = i2.pos := (by first | assumption | omega); rw [e9] at FIN; exact FIN.out _)
    · obtain ⟨b, o, hA, hbb, hcc⟩ := HA7.out.R.at (k := i2.pos) (by rw [List.length_map]; show i2.pos < i2.bs.length; omega)
      subst hA
      have hsl : (Mem.sub i2.bs i2.pos n).length = n := Mem.sub_len (by omega)
      have kcv : ∀ k, (convert 39 9 (.slice (some ⟨b, o + i2.pos, none⟩) n (cap - i2.pos))).run Try.prog (w7.drewN k) = .ok (.string (strB (Mem.sub i2.bs i2.pos n))) (w7.drewN k) := fun k => by
        have hR : Mem.Rd (w7.drewN k) w7.heap.size (some ⟨b, o + i2.pos, none⟩) ((Mem.sub i2.bs i2.pos n).map Mem.byteV) := by
          refine .inr ⟨b, o + i2.pos, rfl, (HA7.out.ne b rfl).2, fun q v hq => ?_⟩
          obtain ⟨h1, h2⟩ := List.getElem?_eq_some_iff.1 hq
          rw [List.length_map, hsl] at h1
          have h9 := (HA7.out.R.drewN k).cells0 (k := i2.pos + q) (by rw [List.length_map]; show i2.pos + q < i2.bs.length; omega)
          rw [Nat.add_assoc, h9, ← h2]
          simp [Mem.sub]
        exact Mem.conv_all _ _ _ bytes_under u8_under string_under hR hsl
      have hpc : i2.pos < cap := by omega
      clear hcc hsl hbb
      go_quiet (fail)
      all_goals go_wp2
      all_goals go_ret
      all_goals first | exact FIN.out _ | (have e9 : cap = i2.pos := (by first | assumption | omega); rw [e9] at FIN; exact FIN.out _)
end Go.Proofs.Ytkfgedgjpgehoaa
