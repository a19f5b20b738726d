/- The walk of number: a number is written, or read. No conditions but that the bytes are few. -/
import Derived.Test.YtkfgedgjpgehoaaWire0
namespace Go.Proofs.Ytkfgedgjpgehoaa
open Go.ChangeShapes Go.WideShapes Go.ChangeAt Go.RowKit
set_option linter.unusedVariables false
set_option linter.unusedSimpArgs false
namespace Wi
/-- a number's bytes -/
def vb (n : Nat) : List UInt8 := if n < 128 then [n.toUInt8] else (128 + n % 128).toUInt8 :: vb (n / 128)
termination_by n
decreasing_by omega
theorem vb_len : ∀ (k n : Nat), n < 128 ^ (k + 1) → (vb n).length ≤ k + 1
  | 0, n, h => by rw [vb, if_pos (by simpa using h)]; simp
  | k + 1, n, h => by
    rw [vb]
    split
    · simp
    · have := vb_len k (n / 128) (by rw [Nat.div_lt_iff_lt_mul (by omega), ← Nat.pow_succ]; exact h)
      simp only [List.length_cons]; omega
theorem vb_9 {n : Nat} (h : n ≤ 4611686018427387904) : (vb n).length ≤ 9 := vb_len 8 n (Nat.lt_of_le_of_lt h (by decide))
def stepNum (c : Cd) (v : Int) : Cd × Int :=
  if c.reads = true then ((takeC c).1, ((takeC c).2 : Nat)) else if v < 0 ∨ 4611686018427387904 < v then ({ c with arg := true }, v) else ({ c with bs := c.bs ++ vb v.toNat }, v)
structure NmRel (w : World) (g : Nat) (A : Option Addr) (c : Cd) (n : Nat) (v4 : Value) (wr : World) : Prop where
  out : ∃ (m : Nat) (A2 : Option Addr) (cap2 : Nat) (xs : List UInt8), v4 = .int .i64 m ∧ m ≤ n ∧ xs.length + (vb m).length = (vb n).length ∧ Hid (xs ++ vb m = vb n) ∧ Hid (CAt wr g A2 cap2 { c with bs := c.bs ++ xs }) ∧
    Hid (Mem.Keeps (fun k => k = g ∨ Mem.blk A = some k) w wr) ∧ Hid (∀ q, Mem.blk A2 = some q → Mem.blk A = some q ∨ w.heap.size ≤ q)
/-- what a pass over one cell leaves -/
structure Pass1 (w : World) (g : Nat) (A : Option Addr) (t : TypeId) (n gm : Nat) (zs : List Value) (k : Nat) (r : Cd × Int) (w' : World) : Prop where
  out : ∃ (A2 : Option Addr) (cap2 : Nat), CAt w' g A2 cap2 r.1 ∧ Mem.Bx w' t n gm (zs.set k (.int .i64 r.2)) ∧ Mem.Keeps (fun q => (q = g ∨ Mem.blk A = some q) ∨ q = gm) w w' ∧ (∀ q, Mem.blk A2 = some q → Mem.blk A = some q ∨ w.heap.size ≤ q)
  rd : r.1.reads = true → Mem.Keeps (fun q => q = g ∨ q = gm) w w'
theorem CAt.grow {wr w2 : World} {g : Nat} {A2 A3 : Option Addr} {cap2 cap3 : Nat} {c : Cd} (h : CAt wr g A2 cap2 c) (hr : c.reads = false) (hk : Mem.Keeps (fun y => Mem.blk A2 = some y) wr w2) (ys : List UInt8)
    (hO : Mem.Own w2 5 1 A3 (c.bs.length + ys.length) cap3 (c.bs.map Mem.byteV ++ ys.map Mem.byteV)) (hne : ∀ q, Mem.blk A3 = some q → q ≠ g) :
    CAt (w2.setCell ⟨g, 0, none⟩ (.slice A3 (c.bs.length + ys.length) cap3)) g A3 cap3 { c with bs := c.bs ++ ys } := by
  have hB := h.B.keeps hk (fun h9 => h.ne g h9 rfl)
  have hk2 : Mem.Keeps (fun k => k = g) w2 (w2.setCell ⟨g, 0, none⟩ (.slice A3 (c.bs.length + ys.length) cap3)) := (Mem.Keeps.refl (fun k => k = g) w2).setCell (p := ⟨g, 0, none⟩) (fun _ => rfl) _
  have hO2 := hO.keeps hk2 (fun q h1 h2 => hne q h1 h2)
  have e1 : (c.bs ++ ys).map Mem.byteV = c.bs.map Mem.byteV ++ ys.map Mem.byteV := List.map_append
  refine ⟨?_, ?_, fun _ => ?_, hne, ?_, fun k hk => hO2.lt hk⟩
  · have h9 := hB.set 0 (.slice A3 (c.bs.length + ys.length) cap3)
    have e2 : (cdCells A2 cap2 c).set 0 (.slice A3 (c.bs.length + ys.length) cap3) = cdCells A3 cap3 { c with bs := c.bs ++ ys } := by simp [cdCells]
    rw [e2] at h9
    exact h9
  · show Mem.Rd _ _ _ ((c.bs ++ ys).map Mem.byteV); rw [e1]; exact hO2.rd
  · show Mem.Own _ _ _ _ (c.bs ++ ys).length _ ((c.bs ++ ys).map Mem.byteV); rw [e1, List.length_append]; exact hO2
  · show (c.bs ++ ys).length ≤ cap3 ∧ _; rw [List.length_append]; exact ⟨hO2.le, hO2.cap⟩
theorem b_hi (m : Nat) : (128 + (m : Int) % 128) = ((128 + m % 128).toUInt8.toNat : Nat) := by
  have h : (128 + m % 128) < 256 := by omega
  simp [Nat.toUInt8, UInt8.toNat_ofNat, Nat.mod_eq_of_lt h]
theorem b_lo {m : Nat} (h : m < 128) : (m : Int) = (m.toUInt8.toNat : Nat) := by
  simp [Nat.toUInt8, UInt8.toNat_ofNat]; omega
theorem len_ok {n : Nat} (h : n ≤ 2000000000) : n ≤ maxLen ∧ n * 1 ≤ 140737488355328 := by unfold maxLen; omega
theorem vb_hi {m : Nat} (h : 128 ≤ m) : vb m = (128 + m % 128).toUInt8 :: vb (m / 128) := by rw [vb, if_neg (by omega)]
theorem vb_lo {m : Nat} (h : m < 128) : vb m = [m.toUInt8] := by rw [vb, if_pos h]
end Wi
theorem bytes_elem : Mem.Elem Try.prog 39 5 1 1 := Mem.elem_of Try.underlying39 (z := .int .u8 0) (by kernel_rfl) rfl (by omega)
open Wi in
set_option maxRecDepth 8000 in
set_option maxHeartbeats 4000000 in
theorem number_any (w : World) (g : Nat) (A : Option Addr) (cap : Nat) (c : Wi.Cd) (t : TypeId) (n gm : Nat) (zs : List Value) (k : Nat) (v : Int) (h : Wi.CAt w g A cap c) (hp : c.pos ≤ c.bs.length) (hb : c.bs.length ≤ 1000000000) (hz : Mem.Bx w t n gm zs) (hv : zs[k]? = some (.int .i64 v)) (hg : gm ≠ g) (ha : Mem.blk A ≠ some gm) :
    Calls Try.prog 45 #[.pointer (some ⟨g, 0, none⟩), .pointer (some ⟨gm, k, none⟩)] w fun x w' => x = .returned (.tuple #[]) ∧ Wi.Pass1 w g A t n gm zs k (Wi.stepNum c v) w' := by
  have HC := Lib.hid h
  have HZ := Lib.hid hz
  have HA := Lib.hid ha
  have z0 := hz.cell hv
  have zf := hz.fr
  have x2 : w.cell? ⟨g, 2, none⟩ = some (.bool c.reads) := h.B.cell (j := 2) rfl
  clear h ha
  cases hr : c.reads
  · rw [hr] at x2
    by_cases hneg : v < 0
    · have d1 : decide (v < 0) = true := by simpa using hneg
      have hs : stepNum c v = ({ c with arg := true }, v) := by unfold stepNum; rw [hr, if_neg (by simp), if_pos (.inl hneg)]
      clear hneg
      have HS := Lib.hid hs
      have y1 : w.cell? ⟨g, 4, none⟩ = some (.bool c.arg) := HC.out.B.cell (j := 4) rfl
      have yf := HC.out.B.fr
      have HA9 := Lib.hid (HC.out.set (c' := { c with arg := true }) 4 (.bool true) rfl rfl (by simp [cdCells]))
      have HK9 : Hid (Mem.Keeps (fun k => k = g) w (w.setCell ⟨g, 4, none⟩ (.bool true))) := (Mem.Keeps.refl (fun k => k = g) w).setCell (p := ⟨g, 4, none⟩) (fun _ => rfl) _
      have HV9 := Lib.hid hv
      clear hs hv
      go_enter Try.func45, Try.ntmps45
      go_wp2
      first | go_end0 | ((try simp only [Exit.inBlock, Exit.then]); refine bodyPost_ret (results_none rfl _ _ _) rfl ?_)
      refine ⟨rfl, ⟨⟨A, cap, ?_, ?_, HK9.out.mono (fun q h _ => .inl (.inl h)), fun q h => .inl h⟩, fun _ => HK9.out.mono (fun q h _ => .inl h)⟩⟩
      · rw [HS.out]; exact HA9.out
      · rw [HS.out]
        have e5 : zs.set k (.int .i64 v) = zs := by
          obtain ⟨hk1, hk2⟩ := List.getElem?_eq_some_iff.1 HV9.out
          rw [← hk2, List.set_getElem_self]
        show Mem.Bx _ _ _ _ (zs.set k (.int .i64 v))
        rw [e5]
        exact HZ.out.keeps HK9.out (fun h => hg h)
    · have d1 : decide (v < 0) = false := by simp; omega
      by_cases hbig : 4611686018427387904 < v
      · have d2 : decide (4611686018427387904 < v) = true := by simpa using hbig
        have hs : stepNum c v = ({ c with arg := true }, v) := by unfold stepNum; rw [hr, if_neg (by simp), if_pos (.inr hbig)]
        clear hbig hneg
        have HS := Lib.hid hs
        have y1 : w.cell? ⟨g, 4, none⟩ = some (.bool c.arg) := HC.out.B.cell (j := 4) rfl
        have yf := HC.out.B.fr
        have HA9 := Lib.hid (HC.out.set (c' := { c with arg := true }) 4 (.bool true) rfl rfl (by simp [cdCells]))
        have HK9 : Hid (Mem.Keeps (fun k => k = g) w (w.setCell ⟨g, 4, none⟩ (.bool true))) := (Mem.Keeps.refl (fun k => k = g) w).setCell (p := ⟨g, 4, none⟩) (fun _ => rfl) _
        have HV9 := Lib.hid hv
        clear hs hv
        go_enter Try.func45, Try.ntmps45
        go_wp2
        first | go_end0 | ((try simp only [Exit.inBlock, Exit.then]); refine bodyPost_ret (results_none rfl _ _ _) rfl ?_)
        refine ⟨rfl, ⟨⟨A, cap, ?_, ?_, HK9.out.mono (fun q h _ => .inl (.inl h)), fun q h => .inl h⟩, fun _ => HK9.out.mono (fun q h _ => .inl h)⟩⟩
        · rw [HS.out]; exact HA9.out
        · rw [HS.out]
          have e5 : zs.set k (.int .i64 v) = zs := by
            obtain ⟨hk1, hk2⟩ := List.getElem?_eq_some_iff.1 HV9.out
            rw [← hk2, List.set_getElem_self]
          show Mem.Bx _ _ _ _ (zs.set k (.int .i64 v))
          rw [e5]
          exact HZ.out.keeps HK9.out (fun h => hg h)
      · have d2 : decide (4611686018427387904 < v) = false := by simp; omega
        obtain ⟨nn, rfl⟩ : ∃ nn : Nat, v = nn := ⟨v.toNat, by omega⟩
        have hs : stepNum c (nn : Int) = ({ c with bs := c.bs ++ vb nn }, (nn : Int)) := by unfold stepNum; rw [hr, if_neg (by simp), if_neg (by omega), Int.toNat_natCast]
        have HS := Lib.hid hs
        clear hs
        go_enter Try.func45, Try.ntmps45
        go_wp2
        go_loopw [4] (NmRel w g A c nn) (fun t _ => (intOf t).toNat)
        case atStart => exact ⟨⟨nn, A, cap, [], rfl, Nat.le_refl _, by simp, rfl, by simpa using HC, Mem.Keeps.refl _ _, fun q h => .inl h⟩⟩
        case round =>
          obtain ⟨m, A2, cap2, xs, rfl, hmn, hlen, HV, HCr, HKr, HQr⟩ := hrel.out
          clear hrel
          have HO : Hid (Mem.Own wr 5 1 A2 (c.bs ++ xs).length cap2 ((c.bs ++ xs).map Mem.byteV)) := HCr.out.O hr
          have x0 : wr.cell? ⟨g, 0, none⟩ = some (.slice A2 (c.bs ++ xs).length cap2) := HCr.out.B.cell (j := 0) rfl
          by_cases hge : 128 ≤ m
          · have d3 : decide ((128 : Int) ≤ (m : Int)) = true := by simp; omega
            obtain ⟨x, hx⟩ : ∃ x, (128 + m % 128).toUInt8 = x := ⟨_, rfl⟩
            have hxe := b_hi m
            rw [hx] at hxe
            have hvm := vb_hi hge
            rw [hx] at hvm
            have hln : (vb m).length = (vb (m / 128)).length + 1 := by rw [hvm]; rfl
            have HV2 : Hid ((xs ++ [x]) ++ vb (m / 128) = vb nn) := by show _ = _; rw [← HV.out, hvm]; simp
            have h9 := vb_9 (n := nn) (by omega)
            have hlx : (xs ++ [x]).length = xs.length + 1 := by simp
            clear hx hvm HV
            have HRD : Hid (Mem.Rd (wr.alloc (.cells #[.int .u8 (128 + (m : Int) % 128)] 5)) (wr.heap.size + 1) (some ⟨wr.heap.size, 0, none⟩) [Mem.byteV x]) := by
              have h9 := Mem.Rd.alloc_new wr #[.int .u8 (128 + (m : Int) % 128)] 5 (0, 0) rfl
              have e9 : Mem.byteV x = .int .u8 (128 + (m : Int) % 128) := by rw [hxe]
              show Mem.Rd _ _ _ _
              rw [e9]; exact h9
            have HO9 := Lib.hid (HO.out.keeps ((Mem.Keeps.refl (fun _ => False) wr).alloc (.cells #[.int .u8 (128 + (m : Int) % 128)] 5)) (fun _ _ h => h))
            have hl9 : c.bs.length + xs.length + 1 ≤ 2000000000 := by omega
            have hone : ∀ u ∈ [Mem.byteV x], u.oneCell' = true := by simp [Value.oneCell']
            have HL9 : Hid ((c.bs ++ xs).length = c.bs.length + xs.length) := List.length_append
            rw [HL9.out] at HO9
            clear hxe
            go_upto_region 6 with (at_builtin; refine Mem.wpList_app _ rfl (.tmp 33) (.tmp 38) _ rfl bytes_elem A2 (c.bs.length + xs.length) cap2 ((c.bs ++ xs).map Mem.byteV) rfl (wr.heap.size + 1) (some ⟨wr.heap.size, 0, none⟩) 1 1 [Mem.byteV x] rfl ?_ HO9.out HRD.out rfl hone (len_ok hl9).1 (len_ok hl9).2; intro A3 cap3 w2 hown hgr hat; have HOwn := Lib.hid hown; have HK2 : Hid (Mem.Keeps (fun y => Mem.blk A2 = some y) wr w2) := (((Mem.Keeps.refl (fun y => Mem.blk A2 = some y) wr).alloc _).grown hgr (fun k h _ => h)); have HAt := Lib.hid hat; have hB2 : Hid (Mem.Bx w2 67 6 g (cdCells A2 cap2 { c with bs := c.bs ++ xs })) := HCr.out.B.keeps HK2.out (fun h => HCr.out.ne g h rfl); have y1 := hB2.out.cell (j := 0) rfl; have yf := hB2.out.fr; clear hown hgr hat)
            have hq3 : ∀ q, Mem.blk A3 = some q → Mem.blk A2 = some q ∨ wr.heap.size ≤ q := fun q h => by
              rcases HAt.out with h1 | h1
              · rw [h1] at h; exact .inl h
              · rw [h1] at h; simp [Mem.blk] at h; exact .inr (by omega)
            have hgw := HCr.out.B.lt
            have hA5 := HCr.out.grow hr HK2.out [x] (A3 := A3) (cap3 := cap3) (by show Mem.Own _ _ _ _ ((c.bs ++ xs).length + 1) _ _; rw [HL9.out]; exact HOwn.out) (fun q h => by rcases hq3 q h with h1 | h1; exact HCr.out.ne q h1; omega)
            have e7 : (c.bs ++ xs).length + [x].length = c.bs.length + xs.length + 1 := by rw [HL9.out]; rfl
            have hA6 : CAt (w2.setCell ⟨g, 0, none⟩ (.slice A3 ((c.bs ++ xs).length + [x].length) cap3)) g A3 cap3 { c with bs := c.bs ++ (xs ++ [x]) } := by
              have h9 := hA5
              have e8 : (c.bs ++ xs) ++ [x] = c.bs ++ (xs ++ [x]) := List.append_assoc _ _ _
              simp only [e8] at h9
              exact h9
            rw [e7] at hA6
            have hk5 : Mem.Keeps (fun k => k = g ∨ Mem.blk A = some k) w (w2.setCell ⟨g, 0, none⟩ (.slice A3 (c.bs.length + xs.length + 1) cap3)) := (HKr.out.trans HK2.out (fun q h hlt => by
              rcases HQr.out q h with h1 | h1
              · exact .inr h1
              · omega)).setCell (p := ⟨g, 0, none⟩) (fun _ => .inl rfl) _
            have HQ5 : Hid (∀ q, Mem.blk A3 = some q → Mem.blk A = some q ∨ w.heap.size ≤ q) := fun q h => by
              rcases hq3 q h with h1 | h1
              · exact HQr.out q h1
              · have := HKr.out.size; exact .inr (by omega)
            have HA6 := Lib.hid hA6
            have HK5 := Lib.hid hk5
            clear hA5 hA6 hk5 hq3 hB2 HOwn HK2 HAt HO9 HRD HL9 HCr HKr HQr HO x0 e7 hl9 hone hgw
            clear y1 yf
            go_wp2
            go_roundw
            case rel => exact ⟨⟨m / 128, A3, cap3, xs ++ [x], by go_num, by omega, by rw [hlx]; omega, HV2, HA6, HK5, HQ5⟩⟩
            case measure => simp [intOf]; omega
          · have d3 : decide ((128 : Int) ≤ (m : Int)) = false := by simp; omega
            obtain ⟨x, hx⟩ : ∃ x, m.toUInt8 = x := ⟨_, rfl⟩
            have hm128 : m < 128 := by omega
            have hxe := b_lo hm128
            rw [hx] at hxe
            have hvm := vb_lo hm128
            rw [hx] at hvm
            have HV2 : Hid (xs ++ [x] = vb nn) := by show _ = _; rw [← HV.out, hvm]
            have h9 := vb_9 (n := nn) (by omega)
            have hln : (vb m).length = 1 := by rw [hvm]; rfl
            clear hx hvm HV
            have HRD : Hid (Mem.Rd (wr.alloc (.cells #[.int .u8 (m : Int)] 5)) (wr.heap.size + 1) (some ⟨wr.heap.size, 0, none⟩) [Mem.byteV x]) := by
              have h9 := Mem.Rd.alloc_new wr #[.int .u8 (m : Int)] 5 (0, 0) rfl
              have e9 : Mem.byteV x = .int .u8 (m : Int) := by rw [hxe]
              show Mem.Rd _ _ _ _
              rw [e9]; exact h9
            have HO9 := Lib.hid (HO.out.keeps ((Mem.Keeps.refl (fun _ => False) wr).alloc (.cells #[.int .u8 (m : Int)] 5)) (fun _ _ h => h))
            have hl9 : c.bs.length + xs.length + 1 ≤ 2000000000 := by omega
            have hone : ∀ u ∈ [Mem.byteV x], u.oneCell' = true := by simp [Value.oneCell']
            have HL9 : Hid ((c.bs ++ xs).length = c.bs.length + xs.length) := List.length_append
            rw [HL9.out] at HO9
            clear hxe
            go_wp2_with (at_builtin; refine Mem.wpList_app _ rfl (.tmp 46) (.tmp 49) _ rfl bytes_elem A2 (c.bs.length + xs.length) cap2 ((c.bs ++ xs).map Mem.byteV) rfl (wr.heap.size + 1) (some ⟨wr.heap.size, 0, none⟩) 1 1 [Mem.byteV x] rfl ?_ HO9.out HRD.out rfl hone (len_ok hl9).1 (len_ok hl9).2; intro A3 cap3 w2 hown hgr hat; have HOwn := Lib.hid hown; have HK2 : Hid (Mem.Keeps (fun y => Mem.blk A2 = some y) wr w2) := (((Mem.Keeps.refl (fun y => Mem.blk A2 = some y) wr).alloc _).grown hgr (fun k h _ => h)); have HAt := Lib.hid hat; have hB2 : Hid (Mem.Bx w2 67 6 g (cdCells A2 cap2 { c with bs := c.bs ++ xs })) := HCr.out.B.keeps HK2.out (fun h => HCr.out.ne g h rfl); have y1 := hB2.out.cell (j := 0) rfl; have yf := hB2.out.fr; clear hown hgr hat)
            have hq3 : ∀ q, Mem.blk A3 = some q → Mem.blk A2 = some q ∨ wr.heap.size ≤ q := fun q h => by
              rcases HAt.out with h1 | h1
              · rw [h1] at h; exact .inl h
              · rw [h1] at h; simp [Mem.blk] at h; exact .inr (by omega)
            have hgw := HCr.out.B.lt
            have hA5 := HCr.out.grow hr HK2.out [x] (A3 := A3) (cap3 := cap3) (by show Mem.Own _ _ _ _ ((c.bs ++ xs).length + 1) _ _; rw [HL9.out]; exact HOwn.out) (fun q h => by rcases hq3 q h with h1 | h1; exact HCr.out.ne q h1; omega)
            have e7 : (c.bs ++ xs).length + [x].length = c.bs.length + xs.length + 1 := by rw [HL9.out]; rfl
            have hA6 : CAt (w2.setCell ⟨g, 0, none⟩ (.slice A3 ((c.bs ++ xs).length + [x].length) cap3)) g A3 cap3 { c with bs := c.bs ++ (xs ++ [x]) } := by
              have h9 := hA5
              have e8 : (c.bs ++ xs) ++ [x] = c.bs ++ (xs ++ [x]) := List.append_assoc _ _ _
              simp only [e8] at h9
              exact h9
            rw [e7] at hA6
            have hk5 : Mem.Keeps (fun k => k = g ∨ Mem.blk A = some k) w (w2.setCell ⟨g, 0, none⟩ (.slice A3 (c.bs.length + xs.length + 1) cap3)) := (HKr.out.trans HK2.out (fun q h hlt => by
              rcases HQr.out q h with h1 | h1
              · exact .inr h1
              · omega)).setCell (p := ⟨g, 0, none⟩) (fun _ => .inl rfl) _
            have HQ5 : Hid (∀ q, Mem.blk A3 = some q → Mem.blk A = some q ∨ w.heap.size ≤ q) := fun q h => by
              rcases hq3 q h with h1 | h1
              · exact HQr.out q h1
              · have := HKr.out.size; exact .inr (by omega)
            have HA6 := Lib.hid hA6
            have HK5 := Lib.hid hk5
            clear hA5 hA6 hk5 hq3 hB2 HOwn HK2 HAt HO9 HRD HL9 HCr HKr HQr HO x0 e7 hl9 hone hgw
            first | go_end0 | ((try simp only [Exit.inBlock, Exit.then]); refine bodyPost_ret (results_none rfl _ _ _) rfl ?_)
            refine ⟨rfl, ⟨⟨A3, cap3, ?_, ?_, HK5.out.mono (fun q h _ => .inl h), HQ5.out⟩, fun h => by rw [HS.out] at h; have h9 : c.reads = true := h; rw [hr] at h9; cases h9⟩⟩
            · rw [HS.out]; have h8 := HA6.out; rw [HV2.out] at h8; exact h8
            · rw [HS.out]
              have e5 : zs.set k (.int .i64 ((nn : Nat) : Int)) = zs := by
                obtain ⟨hk1, hk2⟩ := List.getElem?_eq_some_iff.1 hv
                rw [← hk2, List.set_getElem_self]
              rw [e5]
              exact HZ.out.keeps HK5.out (fun h => by rcases h with h | h; exact hg h; exact HA.out h)
  · rw [hr] at x2
    have hs : stepNum c v = ((takeC c).1, (((takeC c).2 : Nat) : Int)) := by unfold stepNum; rw [hr, if_pos rfl]
    have HS := Lib.hid hs
    have HT := Lib.hid (take_any w g A cap c HC.out hp)
    clear hs hr z0 zf
    go_enter Try.func45, Try.ntmps45
    go_wp2_with (go_at_call 62; refine HT.out.mono ?_; rintro x w2 ⟨rfl, hA2, hk2⟩; have HA2 := Lib.hid hA2; have HK2 := Lib.hid hk2; have hZ2 : Hid (Mem.Bx w2 t n gm zs) := HZ.out.keeps hk2 (fun h => hg h); have z1 := hZ2.out.cell hv; have zf := hZ2.out.fr; clear hA2 hk2)
    first | go_end0 | ((try simp only [Exit.inBlock, Exit.then]); refine bodyPost_ret (results_none rfl _ _ _) rfl ?_)
    refine ⟨rfl, ⟨⟨A, cap, ?_, ?_, ?_, fun q h => .inl h⟩, fun _ => (HK2.out.mono (T := fun q => q = g ∨ q = gm) (fun q h _ => .inl h)).setCell (p := ⟨gm, k, none⟩) (fun _ => .inr rfl) _⟩⟩
    · rw [HS.out]
      exact HA2.out.keeps ((Mem.Keeps.refl (fun q => q = gm) w2).setCell (p := ⟨gm, k, none⟩) (fun _ => rfl) _) (fun q h1 h2 => by rcases h1 with h1 | h1; (exact hg (h2 ▸ h1 ▸ rfl)); (exact HA.out (h2 ▸ h1)))
    · rw [HS.out]; exact hZ2.out.set k _
    · exact (HK2.out.mono (T := fun q => (q = g ∨ Mem.blk A = some q) ∨ q = gm) (fun q h _ => .inl (.inl h))).setCell (p := ⟨gm, k, none⟩) (fun _ => .inr rfl) _
end Go.Proofs.Ytkfgedgjpgehoaa
