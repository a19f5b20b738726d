/- The document's Out in memory; the walk of its number. No conditions but that the bytes are few. -/
import Derived.Test.YtkfgedgjpgehoaaWireK3
namespace Go.Proofs.Ytkfgedgjpgehoaa
open Go.ChangeShapes Go.WideShapes Go.ChangeAt Go.RowKit
set_option linter.unusedVariables false
set_option linter.unusedSimpArgs false
namespace Wi
structure Od where
  bs : List UInt8
  bad : Bool
def odCells (A : Option Addr) (cap : Nat) (o : Od) : List Value := [.slice A o.bs.length cap, .bool o.bad]
structure OAt (w : World) (g : Nat) (A : Option Addr) (cap : Nat) (o : Od) : Prop where
  B : Mem.Bx w 73 2 g (odCells A cap o)
  O : Mem.Own w 5 1 A o.bs.length cap (o.bs.map Mem.byteV)
  ne : ∀ k, Mem.blk A = some k → k ≠ g
theorem OAt.keeps {w w' : World} {g : Nat} {A : Option Addr} {cap : Nat} {o : Od} {S : Nat → Prop} (h : OAt w g A cap o) (hk : Mem.Keeps S w w') (hS : ∀ k, k = g ∨ Mem.blk A = some k → ¬ S k) : OAt w' g A cap o :=
  ⟨h.B.keeps hk (hS g (.inl rfl)), h.O.keeps hk (fun k hb => hS k (.inr hb)), h.ne⟩
/-- what was done to an Out since a world -/
structure OP (w : World) (g : Nat) (A : Option Addr) (o : Od) (w' : World) : Prop where
  out : ∃ (A2 : Option Addr) (cap2 : Nat), OAt w' g A2 cap2 o ∧ Mem.Keeps (fun q => q = g ∨ Mem.blk A = some q) w w' ∧ ∀ q, Mem.blk A2 = some q → Mem.blk A = some q ∨ w.heap.size ≤ q
theorem OP.refl {w : World} {g : Nat} {A : Option Addr} {cap : Nat} {o : Od} (h : OAt w g A cap o) : OP w g A o w := ⟨A, cap, h, Mem.Keeps.refl _ _, fun q h => .inl h⟩
theorem OP.step {w w1 w2 : World} {g : Nat} {A A1 : Option Addr} {o : Od} (hk : Mem.Keeps (fun q => q = g ∨ Mem.blk A = some q) w w1) (hq : ∀ q, Mem.blk A1 = some q → Mem.blk A = some q ∨ w.heap.size ≤ q) (h : OP w1 g A1 o w2) : OP w g A o w2 := by
  obtain ⟨A2, c2, h1, h2, h3⟩ := h.out
  refine ⟨A2, c2, h1, hk.trans h2 (fun q hS hlt => ?_), fun q hb => ?_⟩
  · rcases hS with hS | hS
    · exact .inl hS
    · rcases hq q hS with h9 | h9
      · exact .inr h9
      · omega
  · rcases h3 q hb with h9 | h9
    · exact hq q h9
    · exact .inr (Nat.le_trans hk.size h9)
theorem OP.base {w w1 w2 : World} {g : Nat} {A : Option Addr} {o : Od} (hb : Below w.heap.size w w1) (h : OP w1 g A o w2) : OP w g A o w2 :=
  OP.step ((Mem.Keeps.of_below hb).mono (fun q h _ => h.elim)) (fun q h => .inl h) h
theorem OP.below {w w1 w2 : World} {g : Nat} {A : Option Addr} {o : Od} (h : OP w g A o w1) (hb : Below w1.heap.size w1 w2) : OP w g A o w2 := by
  obtain ⟨A2, c2, h1, h2, h3⟩ := h.out
  exact ⟨A2, c2, h1.keeps (Mem.Keeps.of_below hb) (fun _ _ h => h), h2.trans ((Mem.Keeps.of_below hb).mono (fun q h _ => h.elim)) (fun q hS _ => hS), h3⟩
/-- a box that is no part of the Out stays -/
theorem OP.box {w w1 : World} {g gm n : Nat} {A : Option Addr} {o : Od} {t : TypeId} {xs : List Value} (h : OP w g A o w1) (hb : Mem.Bx w t n gm xs) (hg : gm ≠ g) (ha : Mem.blk A ≠ some gm) : Mem.Bx w1 t n gm xs := by
  obtain ⟨A2, c2, h1, h2, h3⟩ := h.out
  exact hb.keeps h2 (fun h => h.elim hg ha)
def OEnd (w : World) (g : Nat) (A : Option Addr) (o : Od) (x : Ending) (w' : World) : Prop := x = .returned (.tuple #[]) ∧ OP w g A o w'
theorem OP.lift {P : Program} {f : Nat} {args : Array Value} {w w1 : World} {g : Nat} {A : Option Addr} {o o2 : Od} (h : OP w g A o w1) (hf : ∀ A1 c1, OAt w1 g A1 c1 o → Calls P f args w1 (OEnd w1 g A1 o2)) : Calls P f args w1 (OEnd w g A o2) := by
  obtain ⟨A1, c1, h1, h2, h3⟩ := h.out
  exact (hf A1 c1 h1).mono fun x w2 hx => ⟨hx.1, OP.step h2 h3 hx.2⟩
theorem OAt.grow {wr w2 : World} {g : Nat} {A2 A3 : Option Addr} {cap2 cap3 : Nat} {o : Od} (h : OAt wr g A2 cap2 o) (hk : Mem.Keeps (fun y => Mem.blk A2 = some y) wr w2) (ys : List UInt8) (n : Nat) (hn : o.bs.length + ys.length = n)
    (hO : Mem.Own w2 5 1 A3 n cap3 (o.bs.map Mem.byteV ++ ys.map Mem.byteV)) (hne : ∀ q, Mem.blk A3 = some q → q ≠ g) :
    OAt (w2.setCell ⟨g, 0, none⟩ (.slice A3 n cap3)) g A3 cap3 { o with bs := o.bs ++ ys } := by
  subst hn
  have hB := h.B.keeps hk (fun h9 => h.ne g h9 rfl)
  have hk2 : Mem.Keeps (fun k => k = g) w2 (w2.setCell ⟨g, 0, none⟩ (.slice A3 (o.bs.length + ys.length) cap3)) := (Mem.Keeps.refl (fun k => k = g) w2).setCell (p := ⟨g, 0, none⟩) (fun _ => rfl) _
  have hO2 := hO.keeps hk2 (fun q h1 h2 => hne q h1 h2)
  have e1 : (o.bs ++ ys).map Mem.byteV = o.bs.map Mem.byteV ++ ys.map Mem.byteV := List.map_append
  refine ⟨?_, ?_, hne⟩
  · have h9 := hB.set 0 (.slice A3 (o.bs.length + ys.length) cap3)
    have e2 : (odCells A2 cap2 o).set 0 (.slice A3 (o.bs.length + ys.length) cap3) = odCells A3 cap3 { o with bs := o.bs ++ ys } := by simp [odCells]
    rw [e2] at h9
    exact h9
  · show Mem.Own _ _ _ _ (o.bs ++ ys).length _ ((o.bs ++ ys).map Mem.byteV); rw [e1, List.length_append]; exact hO2
/-- bytes are appended, then stored in the Out -/
theorem OP.app {w wr wa w2 : World} {g : Nat} {A A2 A3 : Option Addr} {cap2 cap3 : Nat} {o : Od} (h : OAt wr g A2 cap2 o) (hk : Mem.Keeps (fun q => q = g ∨ Mem.blk A = some q) w wr) (hq : ∀ q, Mem.blk A2 = some q → Mem.blk A = some q ∨ w.heap.size ≤ q)
    (hka : Mem.Keeps (fun _ => False) wr wa) (hg : wa.grownBy w2 (Mem.blk A2)) (hat : A3 = A2 ∨ A3 = some ⟨wa.heap.size, 0, none⟩) (ys : List UInt8) (n : Nat) (hn : o.bs.length + ys.length = n) (hO : Mem.Own w2 5 1 A3 n cap3 (o.bs.map Mem.byteV ++ ys.map Mem.byteV)) :
    OAt (w2.setCell ⟨g, 0, none⟩ (.slice A3 n cap3)) g A3 cap3 { o with bs := o.bs ++ ys } ∧ Mem.Keeps (fun q => q = g ∨ Mem.blk A = some q) w (w2.setCell ⟨g, 0, none⟩ (.slice A3 n cap3)) ∧ ∀ q, Mem.blk A3 = some q → Mem.blk A = some q ∨ w.heap.size ≤ q := by
  have hk2 : Mem.Keeps (fun y => Mem.blk A2 = some y) wr w2 := (hka.mono (fun q h _ => h.elim)).grown hg (fun k hk _ => hk)
  have hgw := h.B.lt
  have hwr := hka.size
  have hq3 : ∀ q, Mem.blk A3 = some q → Mem.blk A2 = some q ∨ wr.heap.size ≤ q := fun q h => by
    rcases hat with h1 | h1
    · rw [h1] at h; exact .inl h
    · rw [h1] at h; simp [Mem.blk] at h; exact .inr (by omega)
  refine ⟨h.grow hk2 ys n hn hO (fun q hb => by rcases hq3 q hb with h1 | h1; exact h.ne q h1; omega), ?_, fun q hb => ?_⟩
  · exact (hk.trans hk2 (fun q h hlt => by
      rcases hq q h with h1 | h1
      · exact .inr h1
      · omega)).setCell (p := ⟨g, 0, none⟩) (fun _ => .inl rfl) _
  · rcases hq3 q hb with h1 | h1
    · exact hq q h1
    · exact .inr (Nat.le_trans hk.size h1)
def outN (o : Od) (v : Int) : Od := if v < 0 ∨ 4611686018427387904 < v then { o with bad := true } else { o with bs := o.bs ++ vb v.toNat }
structure OnRel (w : World) (g : Nat) (A : Option Addr) (o : Od) (n : Nat) (v1 : Value) (wr : World) : Prop where
  out : ∃ (m : Nat) (A2 : Option Addr) (cap2 : Nat) (xs : List UInt8), v1 = .int .i64 m ∧ m ≤ n ∧ xs.length + (vb m).length = (vb n).length ∧ Hid (xs ++ vb m = vb n) ∧ Hid (OAt wr g A2 cap2 { o with bs := o.bs ++ xs }) ∧
    Hid (Mem.Keeps (fun q => q = g ∨ Mem.blk A = some q) w wr) ∧ Hid (∀ q, Mem.blk A2 = some q → Mem.blk A = some q ∨ w.heap.size ≤ q)
end Wi
open Wi in
set_option maxRecDepth 8000 in
set_option maxHeartbeats 4000000 in
theorem oNumber_any {w : World} {g : Nat} {A : Option Addr} {cap : Nat} {o : Wi.Od} (v : Int) (h : Wi.OAt w g A cap o) (hb : o.bs.length ≤ 1000000000) :
    Calls Try.prog 27 #[.pointer (some ⟨g, 0, none⟩), .int .i64 v] w (Wi.OEnd w g A (Wi.outN o v)) := by
  have HC := Lib.hid h
  clear h
  by_cases hneg : v < 0
  · have d1 : decide (v < 0) = true := by simpa using hneg
    have hs : outN o v = { o with bad := true } := by unfold outN; rw [if_pos (.inl hneg)]
    clear hneg
    have HS := Lib.hid hs
    have y1 : w.cell? ⟨g, 1, none⟩ = some (.bool o.bad) := HC.out.B.cell (j := 1) rfl
    have yf := HC.out.B.fr
    have HK9 : Hid (Mem.Keeps (fun k => k = g) w (w.setCell ⟨g, 1, none⟩ (.bool true))) := (Mem.Keeps.refl (fun k => k = g) w).setCell (p := ⟨g, 1, none⟩) (fun _ => rfl) _
    have HA9 : Hid (OAt (w.setCell ⟨g, 1, none⟩ (.bool true)) g A cap { o with bad := true }) := by
      refine ⟨?_, HC.out.O.keeps HK9.out (fun k hb => HC.out.ne k hb), HC.out.ne⟩
      have h9 := HC.out.B.set 1 (.bool true)
      simpa [odCells] using h9
    clear hs
    go_enter Try.func27, Try.ntmps27
    go_wp2
    first | go_end0 | ((try simp only [Exit.inBlock, Exit.then]); refine bodyPost_ret (results_none rfl _ _ _) rfl ?_)
    refine ⟨rfl, ?_⟩
    rw [HS.out]
    exact ⟨A, cap, HA9.out, HK9.out.mono (fun q h _ => .inl h), fun q h => .inl h⟩
  · have d1 : decide (v < 0) = false := by simp; omega
    by_cases hbig : 4611686018427387904 < v
    · have d2 : decide (4611686018427387904 < v) = true := by simpa using hbig
      have hs : outN o v = { o with bad := true } := by unfold outN; rw [if_pos (.inr hbig)]
      clear hbig hneg
      have HS := Lib.hid hs
      have y1 : w.cell? ⟨g, 1, none⟩ = some (.bool o.bad) := HC.out.B.cell (j := 1) rfl
      have yf := HC.out.B.fr
      have HK9 : Hid (Mem.Keeps (fun k => k = g) w (w.setCell ⟨g, 1, none⟩ (.bool true))) := (Mem.Keeps.refl (fun k => k = g) w).setCell (p := ⟨g, 1, none⟩) (fun _ => rfl) _
      have HA9 : Hid (OAt (w.setCell ⟨g, 1, none⟩ (.bool true)) g A cap { o with bad := true }) := by
        refine ⟨?_, HC.out.O.keeps HK9.out (fun k hb => HC.out.ne k hb), HC.out.ne⟩
        have h9 := HC.out.B.set 1 (.bool true)
        simpa [odCells] using h9
      clear hs
      go_enter Try.func27, Try.ntmps27
      go_wp2
      first | go_end0 | ((try simp only [Exit.inBlock, Exit.then]); refine bodyPost_ret (results_none rfl _ _ _) rfl ?_)
      refine ⟨rfl, ?_⟩
      rw [HS.out]
      exact ⟨A, cap, HA9.out, HK9.out.mono (fun q h _ => .inl h), fun q h => .inl h⟩
    · have d2 : decide (4611686018427387904 < v) = false := by simp; omega
      obtain ⟨nn, rfl⟩ : ∃ nn : Nat, v = nn := ⟨v.toNat, by omega⟩
      have hs : outN o (nn : Int) = { o with bs := o.bs ++ vb nn } := by unfold outN; rw [if_neg (by omega), Int.toNat_natCast]
      have HS := Lib.hid hs
      clear hs
      go_enter Try.func27, Try.ntmps27
      go_wp2
      go_loopw [1] (OnRel w g A o nn) (fun t _ => (intOf t).toNat)
      case atStart => exact ⟨⟨nn, A, cap, [], rfl, Nat.le_refl _, by simp, rfl, by simpa using HC, Mem.Keeps.refl _ _, fun q h => .inl h⟩⟩
      case round =>
        obtain ⟨m, A2, cap2, xs, rfl, hmn, hlen, HV, HCr, HKr, HQr⟩ := hrel.out
        clear hrel
        have x0 : wr.cell? ⟨g, 0, none⟩ = some (.slice A2 (o.bs ++ xs).length cap2) := HCr.out.B.cell (j := 0) rfl
        by_cases hge : 128 ≤ m
        · have d3 : decide ((128 : Int) ≤ (m : Int)) = true := by simp; omega
          obtain ⟨x, hx⟩ : ∃ x, (128 + m % 128).toUInt8 = x := ⟨_, rfl⟩
          have hxe := b_hi m
          rw [hx] at hxe
          have hvm := vb_hi hge
          rw [hx] at hvm
          have hln : (vb m).length = (vb (m / 128)).length + 1 := by rw [hvm]; rfl
          have HV2 : Hid ((xs ++ [x]) ++ vb (m / 128) = vb nn) := by show _ = _; rw [← HV.out, hvm]; simp
          have h9 := vb_9 (n := nn) (by omega)
          have hlx : (xs ++ [x]).length = xs.length + 1 := by simp
          clear hx hvm HV
          have HRD : Hid (Mem.Rd (wr.alloc (.cells #[.int .u8 (128 + (m : Int) % 128)] 5)) (wr.heap.size + 1) (some ⟨wr.heap.size, 0, none⟩) [Mem.byteV x]) := by
            have h9 := Mem.Rd.alloc_new wr #[.int .u8 (128 + (m : Int) % 128)] 5 (0, 0) rfl
            have e9 : Mem.byteV x = .int .u8 (128 + (m : Int) % 128) := by rw [hxe]
            show Mem.Rd _ _ _ _
            rw [e9]; exact h9
          have HKA : Hid (Mem.Keeps (fun _ => False) wr (wr.alloc (.cells #[.int .u8 (128 + (m : Int) % 128)] 5))) := (Mem.Keeps.refl (fun _ => False) wr).alloc (.cells #[.int .u8 (128 + (m : Int) % 128)] 5)
          have HL9 : Hid ((o.bs ++ xs).length = o.bs.length + xs.length) := List.length_append
          have hO9 : Mem.Own (wr.alloc (.cells #[.int .u8 (128 + (m : Int) % 128)] 5)) 5 1 A2 (o.bs ++ xs).length cap2 ((o.bs ++ xs).map Mem.byteV) := HCr.out.O.keeps HKA.out (fun _ _ h => h)
          rw [HL9.out] at hO9
          have HO9 := Lib.hid hO9
          have hl9 : o.bs.length + xs.length + 1 ≤ 2000000000 := by omega
          have hone : ∀ u ∈ [Mem.byteV x], u.oneCell' = true := by simp [Value.oneCell']
          have yf := HCr.out.B.fr
          clear hxe hO9
          go_upto_region 4 with (at_builtin; refine Mem.wpList_app _ rfl (.tmp 19) (.tmp 24) _ rfl bytes_elem A2 (o.bs.length + xs.length) cap2 ((o.bs ++ xs).map Mem.byteV) rfl (wr.heap.size + 1) (some ⟨wr.heap.size, 0, none⟩) 1 1 [Mem.byteV x] rfl ?_ HO9.out HRD.out rfl hone (len_ok hl9).1 (len_ok hl9).2; intro A3 cap3 w2 hown hgr hat; have hpp := OP.app HCr.out HKr.out HQr.out HKA.out hgr hat [x] (o.bs.length + xs.length + 1) (by rw [HL9.out]; rfl) hown; have HPP := Lib.hid hpp; have hk2 : Mem.Keeps (fun y => Mem.blk A2 = some y) wr w2 := (HKA.out.mono (fun q h _ => h.elim)).grown hgr (fun k hk _ => hk); have hB2 := HCr.out.B.keeps hk2 (fun h9 => HCr.out.ne g h9 rfl); have y0 := hB2.cell (j := 0) rfl; have yf2 := hB2.fr; clear hown hgr hat hpp hk2 hB2)
          have hpp := HPP.out
          have e8 : (o.bs ++ xs) ++ [x] = o.bs ++ (xs ++ [x]) := List.append_assoc _ _ _
          simp only [e8] at hpp
          obtain ⟨hA6, hK5, hQ5⟩ := hpp
          have HA6 := Lib.hid hA6
          have HK5 := Lib.hid hK5
          have HQ5 := Lib.hid hQ5
          clear hA6 hK5 hQ5 e8 HPP HO9 HRD HL9 HCr HKr HQr HKA x0 y0 yf yf2 hl9 hone
          go_wp2
          go_roundw
          case rel => exact ⟨⟨m / 128, A3, cap3, xs ++ [x], by go_num, by omega, by rw [hlx]; omega, HV2, HA6, HK5, HQ5⟩⟩
          case measure => simp [intOf]; omega
        · have d3 : decide ((128 : Int) ≤ (m : Int)) = false := by simp; omega
          obtain ⟨x, hx⟩ : ∃ x, m.toUInt8 = x := ⟨_, rfl⟩
          have hm128 : m < 128 := by omega
          have hxe := b_lo hm128
          rw [hx] at hxe
          have hvm := vb_lo hm128
          rw [hx] at hvm
          have HV2 : Hid (xs ++ [x] = vb nn) := by show _ = _; rw [← HV.out, hvm]
          have h9 := vb_9 (n := nn) (by omega)
          have hln : (vb m).length = 1 := by rw [hvm]; rfl
          clear hx hvm HV
          have HRD : Hid (Mem.Rd (wr.alloc (.cells #[.int .u8 (m : Int)] 5)) (wr.heap.size + 1) (some ⟨wr.heap.size, 0, none⟩) [Mem.byteV x]) := by
            have h9 := Mem.Rd.alloc_new wr #[.int .u8 (m : Int)] 5 (0, 0) rfl
            have e9 : Mem.byteV x = .int .u8 (m : Int) := by rw [hxe]
            show Mem.Rd _ _ _ _
            rw [e9]; exact h9
          have HKA : Hid (Mem.Keeps (fun _ => False) wr (wr.alloc (.cells #[.int .u8 (m : Int)] 5))) := (Mem.Keeps.refl (fun _ => False) wr).alloc (.cells #[.int .u8 (m : Int)] 5)
          have HL9 : Hid ((o.bs ++ xs).length = o.bs.length + xs.length) := List.length_append
          have hO9 : Mem.Own (wr.alloc (.cells #[.int .u8 (m : Int)] 5)) 5 1 A2 (o.bs ++ xs).length cap2 ((o.bs ++ xs).map Mem.byteV) := HCr.out.O.keeps HKA.out (fun _ _ h => h)
          rw [HL9.out] at hO9
          have HO9 := Lib.hid hO9
          have hl9 : o.bs.length + xs.length + 1 ≤ 2000000000 := by omega
          have hone : ∀ u ∈ [Mem.byteV x], u.oneCell' = true := by simp [Value.oneCell']
          have yf := HCr.out.B.fr
          clear hxe hO9
          go_wp2_with (at_builtin; refine Mem.wpList_app _ rfl (.tmp 34) (.tmp 37) _ rfl bytes_elem A2 (o.bs.length + xs.length) cap2 ((o.bs ++ xs).map Mem.byteV) rfl (wr.heap.size + 1) (some ⟨wr.heap.size, 0, none⟩) 1 1 [Mem.byteV x] rfl ?_ HO9.out HRD.out rfl hone (len_ok hl9).1 (len_ok hl9).2; intro A3 cap3 w2 hown hgr hat; have hpp := OP.app HCr.out HKr.out HQr.out HKA.out hgr hat [x] (o.bs.length + xs.length + 1) (by rw [HL9.out]; rfl) hown; have HPP := Lib.hid hpp; have hk2 : Mem.Keeps (fun y => Mem.blk A2 = some y) wr w2 := (HKA.out.mono (fun q h _ => h.elim)).grown hgr (fun k hk _ => hk); have hB2 := HCr.out.B.keeps hk2 (fun h9 => HCr.out.ne g h9 rfl); have y0 := hB2.cell (j := 0) rfl; have yf2 := hB2.fr; clear hown hgr hat hpp hk2 hB2)
          have hpp := HPP.out
          have e8 : (o.bs ++ xs) ++ [x] = o.bs ++ (xs ++ [x]) := List.append_assoc _ _ _
          simp only [e8, HV2.out] at hpp
          obtain ⟨hA6, hK5, hQ5⟩ := hpp
          first | go_end0 | ((try simp only [Exit.inBlock, Exit.then]); refine bodyPost_ret (results_none rfl _ _ _) rfl ?_)
          refine ⟨rfl, ?_⟩
          rw [HS.out]
          exact ⟨A3, cap3, hA6, hK5, hQ5⟩
end Go.Proofs.Ytkfgedgjpgehoaa
