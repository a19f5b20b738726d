/- The walk of text, where a coder reads; then both ways. No conditions but that the bytes are few. -/
import Derived.Test.YtkfgedgjpgehoaaWire9
import Derived.Test.YtkfgedgjpgehoaaSlc
namespace Go.Proofs.Ytkfgedgjpgehoaa
open Go.ChangeShapes Go.WideShapes Go.ChangeAt Go.RowKit
set_option linter.unusedVariables false
set_option linter.unusedSimpArgs false
namespace Wi
def strB (bs : List UInt8) : ByteArray := ⟨bs.toArray⟩
def readTxt (c : Cd) : Cd × ByteArray :=
  if (takeC c).1.bs.length - (takeC c).1.pos < (takeC c).2 then ({ (takeC c).1 with bad := true }, strB (Mem.sub (takeC c).1.bs (takeC c).1.pos 0))
  else ({ (takeC c).1 with pos := (takeC c).1.pos + (takeC c).2 }, strB (Mem.sub (takeC c).1.bs (takeC c).1.pos (takeC c).2))
theorem readTxt_fit {c : Cd} {L : Nat} (h : Fit c L) : Fit (readTxt c).1 L := by
  have h1 := takeC_fit h
  unfold readTxt
  split
  · exact ⟨h1.pos, h1.len⟩
  · refine ⟨?_, h1.len⟩
    show (takeC c).1.pos + (takeC c).2 ≤ (takeC c).1.bs.length
    have := h1.pos; omega
def tail (c3 : Cd) (n3 : Nat) : Cd := { c3 with pos := c3.pos + n3 }
end Wi
theorem u8_under : Try.prog.underlying 5 = some (.int .u8) := Try.underlying5
theorem bytes_under : Try.prog.underlying 39 = some (.slice 5) := Try.underlying39
theorem u8_size : (Try.prog.info? 5).map (·.size) = some 1 := by kernel_rfl
open Wi in
set_option maxRecDepth 8000 in
set_option maxHeartbeats 4000000 in
theorem text_read {w : World} {g : Nat} {A : Option Addr} {cap : Nat} {t : TypeId} {n gm : Nat} {r : Wi.Cd × List Value} {k : Nat} {L : Nat} {s : ByteArray} (m : Int) (hrd : r.1.reads = true) (h : Wi.CAt w g A cap r.1) (hf : Wi.Fit r.1 L) (hL : L + 9 ≤ 1000000000) (hz : Mem.Bx w t n gm r.2) (hv : r.2[k]? = some (.string s)) (hg : gm ≠ g) (ha : Mem.blk A ≠ some gm) :
    Calls Try.prog 58 #[.pointer (some ⟨g, 0, none⟩), .pointer (some ⟨gm, k, none⟩), .int .i64 m] w fun x w' => x = .returned (.tuple #[]) ∧ Wi.Pass w g A t n gm ((Wi.readTxt r.1).1, r.2.set k (.string (Wi.readTxt r.1).2)) w' := by
  have HC := Lib.hid h
  have HZ := Lib.hid hz
  have HA := Lib.hid ha
  have z0 := hz.cell hv
  have hgm := hz.lt
  have hgl := h.B.lt
  have HAl := Lib.hid h.lt
  have HV := Lib.hid hv
  have HRD := Lib.hid hrd
  have hss : s.size ≤ 1000000000000000000 ∨ True := .inr trivial
  clear h hz ha hv hrd hss
  go_enter Try.func58, Try.ntmps58
  go_upto_region 1 with fail
  obtain ⟨w1, hw1⟩ : ∃ w1, w.alloc (.cells #[.int .i64 (s.size : Int)] 3) = w1 := ⟨_, rfl⟩
  have HB1 : Hid (Mem.Bx w1 3 1 w.heap.size [.int .i64 (s.size : Int)]) := by show Mem.Bx _ _ _ _ _; rw [← hw1]; exact Mem.Bx.new w 3 #[.int .i64 (s.size : Int)] rfl rfl
  have HK1 : Hid (Below w.heap.size w w1) := by show Below _ _ _; rw [← hw1]; exact Reg.below_new _ _
  rw [hw1]
  clear hw1 z0
  have HC1 : Hid (CAt w1 g A cap r.1) := HC.out.keeps (Mem.Keeps.of_below HK1.out) (fun _ _ h => h)
  have HZ1 : Hid (Mem.Bx w1 t n gm r.2) := HZ.out.below HK1.out HZ.out.lt
  obtain ⟨gb, hgb⟩ : ∃ gb, w.heap.size = gb := ⟨_, rfl⟩
  have HGB := Lib.hid hgb
  rw [hgb] at HB1 hgm hgl ⊢
  have HAg : Hid (Mem.blk A ≠ some gb) := fun h => by have := HAl.out gb h; omega
  have HN := Lib.hid (number_pass (t := 3) (n := 1) (gm := gb) (r := (r.1, [Value.int .i64 (s.size : Int)])) (k := 0) HC1.out hf (by omega) HB1.out ⟨_, rfl⟩ (by omega) HAg.out)
  clear hgb
  go_upto_region 2 with (go_at_call 45; refine HN.out.mono ?_; rintro x9 w2 ⟨rfl, hp⟩; have HP := Lib.hid hp; clear hp)
  obtain ⟨A2, cap2, p1, p2, p3, p4⟩ := HP.out.out
  obtain ⟨q, hq⟩ : ∃ q, takeC r.1 = q := ⟨_, rfl⟩
  have hq1 : stepN (r.1, [Value.int .i64 (s.size : Int)]) 0 = (q.1, [Value.int .i64 (q.2 : Nat)]) := by
    show ((stepNum r.1 (s.size : Int)).1, [Value.int .i64 (stepNum r.1 (s.size : Int)).2]) = _
    have e9 : stepNum r.1 (s.size : Int) = (q.1, ((q.2 : Nat) : Int)) := by unfold stepNum; rw [if_pos HRD.out, hq]
    rw [e9]
  have hqr : q.1.reads = true := by rw [← hq, (takeC_same r.1).2.1]; exact HRD.out
  have hqf : Fit q.1 L := by rw [← hq]; exact takeC_fit hf
  have prd := HP.out.rd
  rw [hq1] at prd
  have prd := prd hqr
  have PRD := Lib.hid prd
  clear prd
  rw [hq1] at p1 p2
  have HQ := Lib.hid hq
  have HC2 : Hid (CAt w2 g A2 cap2 q.1) := p1
  have HB2 : Hid (Mem.Bx w2 3 1 gb [.int .i64 (q.2 : Nat)]) := p2
  have HK2 := Lib.hid p3
  have HZ2 : Hid (Mem.Bx w2 t n gm r.2) := HZ1.out.keeps p3 (fun h => by rcases h with (h | h) | h; exact hg h; exact HA.out h; omega)
  have HAm : Hid (Mem.blk A2 ≠ some gm) := fun h => by
    rcases p4 gm h with h1 | h1
    · exact HA.out h1
    · have := HK1.out.size; have := HGB.out; omega
  have HAb : Hid (∀ q, Mem.blk A2 = some q → Mem.blk A = some q ∨ w.heap.size ≤ q) := fun q h => (p4 q h).imp id (Nat.le_trans HK1.out.size)
  have HAb2 : Hid (Mem.blk A2 ≠ some gb) := fun h => by
    rcases p4 gb h with h1 | h1
    · exact HAg.out h1
    · have := HB1.out.lt; omega
  have HQF := Lib.hid hqf
  have hpos := hqf.pos
  have hlen := hqf.len
  clear hq hq1 p1 p2 p3 p4 HP HN HC1 HZ1 hqf HB1
  have y2 : w2.cell? ⟨g, 2, none⟩ = some (.bool true) := by rw [← hqr]; exact HC2.out.B.cell (j := 2) rfl
  have y0 : w2.cell? ⟨g, 0, none⟩ = some (.slice A2 q.1.bs.length cap2) := HC2.out.B.cell (j := 0) rfl
  have y1 : w2.cell? ⟨g, 1, none⟩ = some (.int .i64 (q.1.pos : Nat)) := HC2.out.B.cell (j := 1) rfl
  have yb : w2.cell? ⟨gb, 0, none⟩ = some (.int .i64 (q.2 : Nat)) := HB2.out.cell (j := 0) rfl
  clear hqr
  go_upto_region 5 with fail
  have hw9 : IntKind.i64.wrap ((q.1.bs.length : Int) - (q.1.pos : Int)) = ((q.1.bs.length - q.1.pos : Nat) : Int) := by rw [IntWalk.i64_in _ (by omega)]; omega
  obtain ⟨lf, hlf⟩ : ∃ lf, q.1.bs.length - q.1.pos = lf := ⟨_, rfl⟩
  rw [hlf] at hw9
  by_cases hbad : lf < q.2
  · have d1 : decide ((lf : Int) < (q.2 : Int)) = true := by simp; omega
    go_quiet (fail)
    obtain ⟨w5, hw5⟩ : ∃ w5, w2.drewN nq = w5 := ⟨_, rfl⟩
    have hk5 : Mem.Keeps (fun _ => False) w2 w5 := by rw [← hw5]; exact (Mem.Keeps.refl (fun _ => False) w2).drewN _
    have HC5 : Hid (CAt w5 g A2 cap2 q.1) := HC2.out.keeps hk5 (fun _ _ h => h)
    have HB5 : Hid (Mem.Bx w5 3 1 gb [.int .i64 (q.2 : Nat)]) := HB2.out.keeps hk5 id
    have HZ5 : Hid (Mem.Bx w5 t n gm r.2) := HZ2.out.keeps hk5 id
    have HK5 := Lib.hid hk5
    rw [hw5]
    clear hw5 hk5 y2 y0 y1 yb hw9
    have z3 : w5.cell? ⟨g, 3, none⟩ = some (.bool q.1.bad) := HC5.out.B.cell (j := 3) rfl
    have zf := HC5.out.B.fr
    have zb : w5.cell? ⟨gb, 0, none⟩ = some (.int .i64 (q.2 : Nat)) := HB5.out.cell (j := 0) rfl
    have zg := HB5.out.fr
    have hgg : g ≠ gb := by omega
    go_upto_region 8 with fail
    have hk3 : Mem.Keeps (fun y => y = g ∨ y = gb) w5 ((w5.setCell ⟨g, 3, none⟩ (.bool true)).setCell ⟨gb, 0, none⟩ (.int .i64 0)) := ((Mem.Keeps.refl (fun y => y = g ∨ y = gb) w5).setCell (p := ⟨g, 3, none⟩) (fun _ => .inl rfl) _).setCell (p := ⟨gb, 0, none⟩) (fun _ => .inr rfl) _
    have hc3 := (HC5.out.set (c' := { q.1 with bad := true }) 3 (.bool true) rfl rfl (by simp [cdCells])).keeps ((Mem.Keeps.refl (fun y => y = gb) _).setCell (p := ⟨gb, 0, none⟩) (fun _ => rfl) (.int .i64 0)) (fun j h1 h2 => by rcases h1 with h1 | h1; (exact hgg (h1.symm.trans h2)); (exact HAb2.out (h2 ▸ h1)))
    have hb3 := (HB5.out.keep (q := g) (fun h => hgg h.symm) 3 (.bool true)).set 0 (.int .i64 0)
    have hz3 := HZ5.out.keeps hk3 (fun h => h.elim (fun h => hg h) (fun h => by omega))
    obtain ⟨w3, hw3⟩ : ∃ w3, (w5.setCell ⟨g, 3, none⟩ (.bool true)).setCell ⟨gb, 0, none⟩ (.int .i64 0) = w3 := ⟨_, rfl⟩
    rw [hw3] at hk3 hc3 hb3 hz3 ⊢
    obtain ⟨c3, hce⟩ : ∃ c3, ({ q.1 with bad := true } : Cd) = c3 := ⟨_, rfl⟩
    rw [hce] at hc3
    obtain ⟨n3, hn3⟩ : ∃ n3 : Nat, n3 = 0 := ⟨_, rfl⟩
    have hrt : readTxt r.1 = (tail c3 n3, strB (Mem.sub c3.bs c3.pos n3)) := by
      unfold readTxt tail
      rw [HQ.out, hlf, if_pos hbad, ← hce, hn3]
      simp
    have HRT := Lib.hid hrt
    have HC3 := Lib.hid hc3
    have HB3 : Hid (Mem.Bx w3 3 1 gb [.int .i64 (n3 : Nat)]) := by show Mem.Bx _ _ _ _ _; rw [hn3]; exact hb3
    have HZ3 := Lib.hid hz3
    have HKw : Hid (Mem.Keeps (fun q => (q = g ∨ Mem.blk A = some q) ∨ q = gm) w w3) := ((((Mem.Keeps.of_below HK1.out).mono (T := fun q => (q = g ∨ Mem.blk A = some q) ∨ q = gm) (fun _ h _ => h.elim)).trans HK2.out (fun q h hlt => by
      rcases h with h | h
      · exact .inl h
      · have := HGB.out; omega)).trans HK5.out (fun _ h _ => h.elim)).trans hk3 (fun q h hlt => by
      rcases h with h | h
      · exact .inl (.inl h)
      · have := HGB.out; omega)
    have HKr : Hid (Mem.Keeps (fun q => q = g ∨ q = gm) w w3) := ((((Mem.Keeps.of_below HK1.out).mono (T := fun q => q = g ∨ q = gm) (fun _ h _ => h.elim)).trans PRD.out (fun q h hlt => h.elim .inl (fun h => by have := HGB.out; omega))).trans HK5.out (fun _ h _ => h.elim)).trans hk3 (fun q h hlt => h.elim .inl (fun h => by have := HGB.out; omega))
    have hle : c3.pos + n3 ≤ c3.bs.length := by rw [← hce, hn3]; exact hpos
    have hl3 : c3.bs.length ≤ L := by rw [← hce]; exact hlen
    have hcp : c3.pos + n3 ≤ cap2 := Nat.le_trans hle hc3.le.1
    have HSM : Hid (IntKind.i64.wrap ((c3.pos : Int) + (n3 : Int)) = ((c3.pos + n3 : Nat) : Int)) := by show _ = _; rw [IntWalk.i64_in _ (by omega)]; omega
    clear hw3 hk3 hc3 hb3 hz3 hrt z3 zf zb zg HC5 HB5 HZ5 HC2 HB2 HZ2 HK2 HK1 HK5 hce hn3 hbad d1 hlf hpos hlen HQ HQF HC HZ
    go_upto_region 8 with fail
    refine Reg.wp_region_w (by kernel_rfl) 82 19 rfl rfl (by kernel_rfl) (18) (fun y => y = gm) (18) (fun _ => False) (18) (fun _ => False)
      (fun i v u => match i with
        | 0 => v = .pointer (some ⟨gm, k, none⟩)
        | 1 => v = .pointer (some ⟨g, 0, none⟩)
        | 2 => v = .pointer (some ⟨g, 0, none⟩)
        | 3 => v = .pointer (some ⟨g, 0, none⟩)
        | 4 => v = .slice A2 c3.bs.length cap2
        | 5 => v = .pointer (some ⟨g, 0, none⟩)
        | 6 => v = .pointer (some ⟨g, 0, none⟩)
        | 7 => v = .pointer (some ⟨g, 1, none⟩)
        | 8 => v = .int .i64 (c3.pos : Nat)
        | 9 => v = .pointer (some ⟨g, 0, none⟩)
        | 10 => v = .pointer (some ⟨g, 0, none⟩)
        | 11 => v = .pointer (some ⟨g, 1, none⟩)
        | 12 => v = .int .i64 (c3.pos : Nat)
        | 13 => v = .int .i64 (n3 : Nat)
        | 14 => v = .int .i64 ((c3.pos + n3 : Nat) : Int)
        | 15 => v = Mem.slc A2 c3.pos (c3.pos + n3) cap2
        | 16 => v = .string (strB (Mem.sub c3.bs c3.pos n3))
        | 17 => v = .pointer (some ⟨gm, k, none⟩)
        | 18 => Mem.Bx u t n gm (r.2.set k (.string (strB (Mem.sub c3.bs c3.pos n3))))
        | _ => True) ?_ ?_
    · refine Reg.Steps.cons ?_ (Reg.Steps.cons ?_ (Reg.Steps.cons ?_ (Reg.Steps.cons ?_ (Reg.Steps.cons ?_ (Reg.Steps.cons ?_ (Reg.Steps.cons ?_ (Reg.Steps.cons ?_ (Reg.Steps.cons ?_ (Reg.Steps.cons ?_ (Reg.Steps.cons ?_ (Reg.Steps.cons ?_ (Reg.Steps.cons ?_ (Reg.Steps.cons ?_ (Reg.Steps.cons ?_ (Reg.Steps.cons ?_ (Reg.Steps.cons ?_ (Reg.Steps.cons ?_ (Reg.Steps.cons ?_ (Reg.Steps.nil _)))))))))))))))))))
      · intro val ac u hR hp ha K hK      -- 0: t56 := Op.move t1
        have e1 : (ac.tmps[1]?).getD undef = .pointer (some ⟨gm, k, none⟩) := ha 1 (by decide)
        clear ha hp
        refine Reg.Op1.plain rfl ?_
        go_wp2
        exact ⟨rfl, hK _ _ rfl (Reg.Wr.same _)⟩
      · intro val ac u hR hp ha K hK      -- 1: t57 := Op.move t0
        have e0 : (ac.tmps[0]?).getD undef = .pointer (some ⟨g, 0, none⟩) := ha 0 (by decide)
        clear ha hp
        refine Reg.Op1.plain rfl ?_
        go_wp2
        exact ⟨rfl, hK _ _ rfl (Reg.Wr.same _)⟩
      · intro val ac u hR hp ha K hK      -- 2: t58 := Op.nilCheck t57
        obtain ⟨w57, h57, r57⟩ := hp 1 (by decide)
        have e57 : (ac.tmps[57]?).getD undef = .pointer (some ⟨g, 0, none⟩) := (ha 57 (by decide)).trans h57
        clear h57
        clear ha hp
        refine Reg.Op1.plain rfl ?_
        go_wp2
        exact ⟨rfl, hK _ _ rfl (Reg.Wr.same _)⟩
      · intro val ac u hR hp ha K hK      -- 3: t59 := Op.fieldAddr 67 t58 0
        obtain ⟨w58, h58, r58⟩ := hp 2 (by decide)
        have e58 : (ac.tmps[58]?).getD undef = .pointer (some ⟨g, 0, none⟩) := (ha 58 (by decide)).trans h58
        clear h58
        clear ha hp
        refine Reg.Op1.plain rfl ?_
        go_wp2
        exact ⟨rfl, hK _ _ rfl (Reg.Wr.same _)⟩
      · intro val ac u hR hp ha K hK      -- 4: t60 := Op.load 39 t59
        obtain ⟨w59, h59, r59⟩ := hp 3 (by decide)
        have e59 : (ac.tmps[59]?).getD undef = .pointer (some ⟨g, 0, none⟩) := (ha 59 (by decide)).trans h59
        clear h59
        clear ha hp
        refine Reg.Op1.plain rfl ?_
        have hq := (Mem.Keeps.refl (fun _ => False) w3).drew.trans (Reg.Wr.none hR (by decide +kernel) (by decide +kernel) (by decide +kernel)) (fun _ h _ => h)
        have x0 : u.cell? ⟨g, 0, none⟩ = some (.slice A2 c3.bs.length cap2) := (HC3.out.B.keeps hq id).cell (j := 0) rfl
        go_wp2
        exact ⟨rfl, hK _ _ rfl (Reg.Wr.same _)⟩
      · intro val ac u hR hp ha K hK      -- 5: t61 := Op.move t0
        have e0 : (ac.tmps[0]?).getD undef = .pointer (some ⟨g, 0, none⟩) := ha 0 (by decide)
        clear ha hp
        refine Reg.Op1.plain rfl ?_
        go_wp2
        exact ⟨rfl, hK _ _ rfl (Reg.Wr.same _)⟩
      · intro val ac u hR hp ha K hK      -- 6: t62 := Op.nilCheck t61
        obtain ⟨w61, h61, r61⟩ := hp 5 (by decide)
        have e61 : (ac.tmps[61]?).getD undef = .pointer (some ⟨g, 0, none⟩) := (ha 61 (by decide)).trans h61
        clear h61
        clear ha hp
        refine Reg.Op1.plain rfl ?_
        go_wp2
        exact ⟨rfl, hK _ _ rfl (Reg.Wr.same _)⟩
      · intro val ac u hR hp ha K hK      -- 7: t63 := Op.fieldAddr 67 t62 1
        obtain ⟨w62, h62, r62⟩ := hp 6 (by decide)
        have e62 : (ac.tmps[62]?).getD undef = .pointer (some ⟨g, 0, none⟩) := (ha 62 (by decide)).trans h62
        clear h62
        clear ha hp
        refine Reg.Op1.plain rfl ?_
        go_wp2
        exact ⟨rfl, hK _ _ rfl (Reg.Wr.same _)⟩
      · intro val ac u hR hp ha K hK      -- 8: t64 := Op.load 3 t63
        obtain ⟨w63, h63, r63⟩ := hp 7 (by decide)
        have e63 : (ac.tmps[63]?).getD undef = .pointer (some ⟨g, 1, none⟩) := (ha 63 (by decide)).trans h63
        clear h63
        clear ha hp
        refine Reg.Op1.plain rfl ?_
        have hq := (Mem.Keeps.refl (fun _ => False) w3).drew.trans (Reg.Wr.none hR (by decide +kernel) (by decide +kernel) (by decide +kernel)) (fun _ h _ => h)
        have x0 : u.cell? ⟨g, 1, none⟩ = some (.int .i64 (c3.pos : Nat)) := (HC3.out.B.keeps hq id).cell (j := 1) rfl
        go_wp2
        exact ⟨rfl, hK _ _ rfl (Reg.Wr.same _)⟩
      · intro val ac u hR hp ha K hK      -- 9: t65 := Op.move t0
        have e0 : (ac.tmps[0]?).getD undef = .pointer (some ⟨g, 0, none⟩) := ha 0 (by decide)
        clear ha hp
        refine Reg.Op1.plain rfl ?_
        go_wp2
        exact ⟨rfl, hK _ _ rfl (Reg.Wr.same _)⟩
      · intro val ac u hR hp ha K hK      -- 10: t66 := Op.nilCheck t65
        obtain ⟨w65, h65, r65⟩ := hp 9 (by decide)
        have e65 : (ac.tmps[65]?).getD undef = .pointer (some ⟨g, 0, none⟩) := (ha 65 (by decide)).trans h65
        clear h65
        clear ha hp
        refine Reg.Op1.plain rfl ?_
        go_wp2
        exact ⟨rfl, hK _ _ rfl (Reg.Wr.same _)⟩
      · intro val ac u hR hp ha K hK      -- 11: t67 := Op.fieldAddr 67 t66 1
        obtain ⟨w66, h66, r66⟩ := hp 10 (by decide)
        have e66 : (ac.tmps[66]?).getD undef = .pointer (some ⟨g, 0, none⟩) := (ha 66 (by decide)).trans h66
        clear h66
        clear ha hp
        refine Reg.Op1.plain rfl ?_
        go_wp2
        exact ⟨rfl, hK _ _ rfl (Reg.Wr.same _)⟩
      · intro val ac u hR hp ha K hK      -- 12: t68 := Op.load 3 t67
        obtain ⟨w67, h67, r67⟩ := hp 11 (by decide)
        have e67 : (ac.tmps[67]?).getD undef = .pointer (some ⟨g, 1, none⟩) := (ha 67 (by decide)).trans h67
        clear h67
        clear ha hp
        refine Reg.Op1.plain rfl ?_
        have hq := (Mem.Keeps.refl (fun _ => False) w3).drew.trans (Reg.Wr.none hR (by decide +kernel) (by decide +kernel) (by decide +kernel)) (fun _ h _ => h)
        have x0 : u.cell? ⟨g, 1, none⟩ = some (.int .i64 (c3.pos : Nat)) := (HC3.out.B.keeps hq id).cell (j := 1) rfl
        go_wp2
        exact ⟨rfl, hK _ _ rfl (Reg.Wr.same _)⟩
      · intro val ac u hR hp ha K hK      -- 13: t69 := Op.load 3 t6
        have e6 : (ac.tmps[6]?).getD undef = .pointer (some ⟨gb, 0, none⟩) := ha 6 (by decide)
        clear ha hp
        refine Reg.Op1.plain rfl ?_
        have hq := (Mem.Keeps.refl (fun _ => False) w3).drew.trans (Reg.Wr.none hR (by decide +kernel) (by decide +kernel) (by decide +kernel)) (fun _ h _ => h)
        have x0 : u.cell? ⟨gb, 0, none⟩ = some (.int .i64 (n3 : Nat)) := (HB3.out.keeps hq id).cell (j := 0) rfl
        go_wp2
        exact ⟨rfl, hK _ _ rfl (Reg.Wr.same _)⟩
      · intro val ac u hR hp ha K hK      -- 14: t70 := Op.binOp BinOp.add 3 t68 t69 3
        obtain ⟨w68, h68, r68⟩ := hp 12 (by decide)
        have e68 : (ac.tmps[68]?).getD undef = .int .i64 (c3.pos : Nat) := (ha 68 (by decide)).trans h68
        clear h68
        obtain ⟨w69, h69, r69⟩ := hp 13 (by decide)
        have e69 : (ac.tmps[69]?).getD undef = .int .i64 (n3 : Nat) := (ha 69 (by decide)).trans h69
        clear h69
        clear ha hp
        refine Reg.Op1.plain rfl ?_
        go_wp2
        exact ⟨rfl, hK _ _ (by simp) (Reg.Wr.same _)⟩
      · intro val ac u hR hp ha K hK      -- 15: t71 := Op.slice 39 t60 (some t64) (some t70) none
        obtain ⟨w60, h60, r60⟩ := hp 4 (by decide)
        have e60 : (ac.tmps[60]?).getD undef = .slice A2 c3.bs.length cap2 := (ha 60 (by decide)).trans h60
        clear h60
        obtain ⟨w64, h64, r64⟩ := hp 8 (by decide)
        have e64 : (ac.tmps[64]?).getD undef = .int .i64 (c3.pos : Nat) := (ha 64 (by decide)).trans h64
        clear h64
        obtain ⟨w70, h70, r70⟩ := hp 14 (by decide)
        have e70 : (ac.tmps[70]?).getD undef = .int .i64 ((c3.pos + n3 : Nat) : Int) := (ha 70 (by decide)).trans h70
        clear h70
        clear ha hp
        refine Reg.Op1.plain rfl ?_
        refine Mem.wpList_slc _ _ A2 c3.bs.length cap2 c3.pos (c3.pos + n3) bytes_under u8_size (Reg.eval_of e60) (Reg.eval_of e64) (Reg.eval_of e70) (Nat.le_add_right _ _) hcp ?_
        exact ⟨rfl, hK _ _ rfl (Reg.Wr.same _)⟩
      · intro val ac u hR hp ha K hK      -- 16: t72 := Op.convert 39 9 t71
        obtain ⟨w71, h71, r71⟩ := hp 15 (by decide)
        have e71 : (ac.tmps[71]?).getD undef = Mem.slc A2 c3.pos (c3.pos + n3) cap2 := (ha 71 (by decide)).trans h71
        clear h71
        clear ha hp
        refine Reg.Op1.plain rfl ?_
        have hq := (Mem.Keeps.refl (fun _ => False) w3).drew.trans (Reg.Wr.none hR (by decide +kernel) (by decide +kernel) (by decide +kernel)) (fun _ h _ => h)
        have hcv := Mem.conv_slc (P := Try.prog) (cap := cap2) 39 9 5 bytes_under u8_under string_under (HC3.out.R.keepsAt hq (Nat.le_refl _) (fun _ _ h => h)) (Nat.le_add_right c3.pos n3) hle HC3.out.le.1
        rw [Nat.add_sub_cancel_left] at hcv
        go_wp2
        exact ⟨rfl, hK _ _ rfl (Reg.Wr.same _)⟩
      · intro val ac u hR hp ha K hK      -- 17: t73 := Op.nilCheck t56
        obtain ⟨w56, h56, r56⟩ := hp 0 (by decide)
        have e56 : (ac.tmps[56]?).getD undef = .pointer (some ⟨gm, k, none⟩) := (ha 56 (by decide)).trans h56
        clear h56
        clear ha hp
        refine Reg.Op1.plain rfl ?_
        go_wp2
        exact ⟨rfl, hK _ _ rfl (Reg.Wr.same _)⟩
      · intro val ac u hR hp ha K hK      -- 18: Op.store 9 t73 t72
        obtain ⟨w73, h73, r73⟩ := hp 17 (by decide)
        have e73 : (ac.tmps[73]?).getD undef = .pointer (some ⟨gm, k, none⟩) := (ha 73 (by decide)).trans h73
        clear h73
        obtain ⟨w72, h72, r72⟩ := hp 16 (by decide)
        have e72 : (ac.tmps[72]?).getD undef = .string (strB (Mem.sub c3.bs c3.pos n3)) := (ha 72 (by decide)).trans h72
        clear h72
        clear ha hp
        refine Reg.Op1.plain rfl ?_
        have hq := (Mem.Keeps.refl (fun _ => False) w3).drew.trans (Reg.Wr.none hR (by decide +kernel) (by decide +kernel) (by decide +kernel)) (fun _ h _ => h)
        have hB := HZ3.out.keeps hq id
        have y1 := hB.cell HV.out
        have yf := hB.fr
        have hB2 := hB.set k (.string (strB (Mem.sub c3.bs c3.pos n3)))
        have hk2 : Mem.Keeps (fun y => y = gm) u (u.setCell ⟨gm, k, none⟩ (.string (strB (Mem.sub c3.bs c3.pos n3)))) := (Mem.Keeps.refl (fun y => y = gm) u).setCell (p := ⟨gm, k, none⟩) (fun _ => rfl) _
        go_wp2
        exact ⟨rfl, hK undef _ hB2 (Reg.Wr.does1 hk2)⟩
    · intro val u hR H
      obtain ⟨wA, hZA, rA⟩ := H 18 (by decide)
      have hq : Mem.Keeps (fun y => y = gm) w3 u := ((Mem.Keeps.refl (fun y => y = gm ∨ False ∨ False) w3).drew.trans (Reg.Wr.all hR) (fun _ h _ => h)).mono (fun _ h _ => h.elim id (fun h => h.elim (fun h => h.elim) (fun h => h.elim)))
      have hZ4 := hZA.keeps (Reg.Wr.none rA (by decide +kernel) (by decide +kernel) (by decide +kernel)) (fun h => h)
      have hC4 := HC3.out.keeps hq (fun q h1 h2 => by rcases h1 with h1 | h1; (exact hg (h2 ▸ h1 ▸ rfl)); (exact HAm.out (h2 ▸ h1)))
      have hB4 := HB3.out.keeps hq (fun h => by omega)
      have HZ4 := Lib.hid hZ4
      have HC4 := Lib.hid hC4
      have HB4 := Lib.hid hB4
      have HQ4 := Lib.hid hq
      simp only [List.map_cons, List.map_nil, Reg.lay, Act.put, List.setIfInBounds_toArray, List.set_cons_succ, List.set_cons_zero, Nat.reduceAdd]
      clear hR H hq hZA rA hZ4 hC4 hB4
      obtain ⟨w4, hw4⟩ : ∃ w4, w4 = u := ⟨_, rfl⟩
      subst hw4
      have x1 : w4.cell? ⟨g, 1, none⟩ = some (.int .i64 (c3.pos : Nat)) := HC4.out.B.cell (j := 1) rfl
      have x6 : w4.cell? ⟨gb, 0, none⟩ = some (.int .i64 (n3 : Nat)) := HB4.out.cell (j := 0) rfl
      have yf := HC4.out.B.fr
      go_upto_region 9 with fail
      refine Reg.wp_region_w (by kernel_rfl) 82 9 rfl rfl (by kernel_rfl) (8) (fun y => y = g) (8) (fun _ => False) (8) (fun _ => False)
        (fun i v u => match i with
          | 0 => v = .pointer (some ⟨g, 0, none⟩)
          | 1 => v = .pointer (some ⟨g, 0, none⟩)
          | 2 => v = .pointer (some ⟨g, 1, none⟩)
          | 3 => v = .int .i64 (c3.pos : Nat)
          | 4 => v = .int .i64 (n3 : Nat)
          | 5 => v = .int .i64 ((c3.pos + n3 : Nat) : Int)
          | 6 => v = .pointer (some ⟨g, 0, none⟩)
          | 7 => v = .pointer (some ⟨g, 1, none⟩)
          | 8 => CAt u g A2 cap2 (tail c3 n3)
          | _ => True) ?_ ?_
      · refine Reg.Steps.cons ?_ (Reg.Steps.cons ?_ (Reg.Steps.cons ?_ (Reg.Steps.cons ?_ (Reg.Steps.cons ?_ (Reg.Steps.cons ?_ (Reg.Steps.cons ?_ (Reg.Steps.cons ?_ (Reg.Steps.cons ?_ (Reg.Steps.nil _)))))))))
        · intro val ac u hR hp ha K hK      -- 0: t74 := Op.move t0
          have e0 : (ac.tmps[0]?).getD undef = .pointer (some ⟨g, 0, none⟩) := ha 0 (by decide)
          clear ha hp
          refine Reg.Op1.plain rfl ?_
          go_wp2
          exact ⟨rfl, hK _ _ rfl (Reg.Wr.same _)⟩
        · intro val ac u hR hp ha K hK      -- 1: t75 := Op.nilCheck t74
          obtain ⟨w74, h74, r74⟩ := hp 0 (by decide)
          have e74 : (ac.tmps[74]?).getD undef = .pointer (some ⟨g, 0, none⟩) := (ha 74 (by decide)).trans h74
          clear h74
          clear ha hp
          refine Reg.Op1.plain rfl ?_
          go_wp2
          exact ⟨rfl, hK _ _ rfl (Reg.Wr.same _)⟩
        · intro val ac u hR hp ha K hK      -- 2: t76 := Op.fieldAddr 67 t75 1
          obtain ⟨w75, h75, r75⟩ := hp 1 (by decide)
          have e75 : (ac.tmps[75]?).getD undef = .pointer (some ⟨g, 0, none⟩) := (ha 75 (by decide)).trans h75
          clear h75
          clear ha hp
          refine Reg.Op1.plain rfl ?_
          go_wp2
          exact ⟨rfl, hK _ _ rfl (Reg.Wr.same _)⟩
        · intro val ac u hR hp ha K hK      -- 3: t77 := Op.load 3 t76
          obtain ⟨w76, h76, r76⟩ := hp 2 (by decide)
          have e76 : (ac.tmps[76]?).getD undef = .pointer (some ⟨g, 1, none⟩) := (ha 76 (by decide)).trans h76
          clear h76
          clear ha hp
          refine Reg.Op1.plain rfl ?_
          have hq := (Mem.Keeps.refl (fun _ => False) w4).drew.trans (Reg.Wr.none hR (by decide +kernel) (by decide +kernel) (by decide +kernel)) (fun _ h _ => h)
          have x0 : u.cell? ⟨g, 1, none⟩ = some (.int .i64 (c3.pos : Nat)) := (HC4.out.B.keeps hq id).cell (j := 1) rfl
          go_wp2
          exact ⟨rfl, hK _ _ rfl (Reg.Wr.same _)⟩
        · intro val ac u hR hp ha K hK      -- 4: t78 := Op.load 3 t6
          have e6 : (ac.tmps[6]?).getD undef = .pointer (some ⟨gb, 0, none⟩) := ha 6 (by decide)
          clear ha hp
          refine Reg.Op1.plain rfl ?_
          have hq := (Mem.Keeps.refl (fun _ => False) w4).drew.trans (Reg.Wr.none hR (by decide +kernel) (by decide +kernel) (by decide +kernel)) (fun _ h _ => h)
          have x0 : u.cell? ⟨gb, 0, none⟩ = some (.int .i64 (n3 : Nat)) := (HB4.out.keeps hq id).cell (j := 0) rfl
          go_wp2
          exact ⟨rfl, hK _ _ rfl (Reg.Wr.same _)⟩
        · intro val ac u hR hp ha K hK      -- 5: t79 := Op.binOp BinOp.add 3 t77 t78 3
          obtain ⟨w77, h77, r77⟩ := hp 3 (by decide)
          have e77 : (ac.tmps[77]?).getD undef = .int .i64 (c3.pos : Nat) := (ha 77 (by decide)).trans h77
          clear h77
          obtain ⟨w78, h78, r78⟩ := hp 4 (by decide)
          have e78 : (ac.tmps[78]?).getD undef = .int .i64 (n3 : Nat) := (ha 78 (by decide)).trans h78
          clear h78
          clear ha hp
          refine Reg.Op1.plain rfl ?_
          go_wp2
          exact ⟨rfl, hK _ _ (by simp) (Reg.Wr.same _)⟩
        · intro val ac u hR hp ha K hK      -- 6: t80 := Op.nilCheck t74
          obtain ⟨w74, h74, r74⟩ := hp 0 (by decide)
          have e74 : (ac.tmps[74]?).getD undef = .pointer (some ⟨g, 0, none⟩) := (ha 74 (by decide)).trans h74
          clear h74
          clear ha hp
          refine Reg.Op1.plain rfl ?_
          go_wp2
          exact ⟨rfl, hK _ _ rfl (Reg.Wr.same _)⟩
        · intro val ac u hR hp ha K hK      -- 7: t81 := Op.fieldAddr 67 t80 1
          obtain ⟨w80, h80, r80⟩ := hp 6 (by decide)
          have e80 : (ac.tmps[80]?).getD undef = .pointer (some ⟨g, 0, none⟩) := (ha 80 (by decide)).trans h80
          clear h80
          clear ha hp
          refine Reg.Op1.plain rfl ?_
          go_wp2
          exact ⟨rfl, hK _ _ rfl (Reg.Wr.same _)⟩
        · intro val ac u hR hp ha K hK      -- 8: Op.store 3 t81 t79
          obtain ⟨w81, h81, r81⟩ := hp 7 (by decide)
          have e81 : (ac.tmps[81]?).getD undef = .pointer (some ⟨g, 1, none⟩) := (ha 81 (by decide)).trans h81
          clear h81
          obtain ⟨w79, h79, r79⟩ := hp 5 (by decide)
          have e79 : (ac.tmps[79]?).getD undef = .int .i64 ((c3.pos + n3 : Nat) : Int) := (ha 79 (by decide)).trans h79
          clear h79
          clear ha hp
          refine Reg.Op1.plain rfl ?_
          have hq := (Mem.Keeps.refl (fun _ => False) w4).drew.trans (Reg.Wr.none hR (by decide +kernel) (by decide +kernel) (by decide +kernel)) (fun _ h _ => h)
          have hC := HC4.out.keeps hq (fun _ _ h => h)
          have y1 : u.cell? ⟨g, 1, none⟩ = some (.int .i64 (c3.pos : Nat)) := hC.B.cell (j := 1) rfl
          have yf := hC.B.fr
          have hC2 := hC.set (c' := tail c3 n3) 1 (.int .i64 ((c3.pos + n3 : Nat) : Int)) rfl rfl (by simp [cdCells, tail])
          have hk2 : Mem.Keeps (fun y => y = g) u (u.setCell ⟨g, 1, none⟩ (.int .i64 ((c3.pos + n3 : Nat) : Int))) := (Mem.Keeps.refl (fun y => y = g) u).setCell (p := ⟨g, 1, none⟩) (fun _ => rfl) _
          go_wp2
          exact ⟨rfl, hK undef _ hC2 (Reg.Wr.does1 hk2)⟩
      · intro val u hR H
        obtain ⟨wB, hCB, rB⟩ := H 8 (by decide)
        have hq : Mem.Keeps (fun y => y = g) w4 u := ((Mem.Keeps.refl (fun y => y = g ∨ False ∨ False) w4).drew.trans (Reg.Wr.all hR) (fun _ h _ => h)).mono (fun _ h _ => h.elim id (fun h => h.elim (fun h => h.elim) (fun h => h.elim)))
        have hC5 := hCB.keeps (Reg.Wr.none rB (by decide +kernel) (by decide +kernel) (by decide +kernel)) (fun _ _ h => h)
        have hZ5 := HZ4.out.keeps hq hg
        have HPP : Hid (Pass w g A t n gm ((readTxt r.1).1, r.2.set k (.string (readTxt r.1).2)) u) := (by
        show Pass _ _ _ _ _ _ _ _
        rw [HRT.out]
        exact ⟨⟨A2, cap2, hC5, hZ5, (HKw.out.trans HQ4.out (fun q h _ => .inr h)).trans hq (fun q h _ => .inl (.inl h)), HAb.out⟩, fun _ => (HKr.out.trans HQ4.out (fun q h _ => .inr h)).trans hq (fun q h _ => .inl h)⟩)
        simp only [List.map_cons, List.map_nil, Reg.lay, Act.put, List.setIfInBounds_toArray, List.set_cons_succ, List.set_cons_zero, Nat.reduceAdd]
        clear hR H hq hCB rB hC5 hZ5
        go_wp2
        first | go_end0 | ((try simp only [Exit.inBlock, Exit.then]); refine bodyPost_ret (results_none rfl _ _ _) rfl ?_)
        exact ⟨rfl, HPP.out⟩
  · have d1 : decide ((lf : Int) < (q.2 : Int)) = false := by simp; omega
    go_quiet (fail)
    obtain ⟨w3, hw3⟩ : ∃ w3, w2.drewN nq = w3 := ⟨_, rfl⟩
    have hk3 : Mem.Keeps (fun _ => False) w2 w3 := by rw [← hw3]; exact (Mem.Keeps.refl (fun _ => False) w2).drewN _
    rw [hw3]
    obtain ⟨c3, hce⟩ : ∃ c3, q.1 = c3 := ⟨_, rfl⟩
    obtain ⟨n3, hn3⟩ : ∃ n3 : Nat, q.2 = n3 := ⟨_, rfl⟩
    have hrt : readTxt r.1 = (tail c3 n3, strB (Mem.sub c3.bs c3.pos n3)) := by
      unfold readTxt tail
      rw [HQ.out, hlf, if_neg hbad, ← hce, hn3]
    have HRT := Lib.hid hrt
    have HC3 : Hid (CAt w3 g A2 cap2 c3) := by rw [← hce]; exact HC2.out.keeps hk3 (fun _ _ h => h)
    have HB3 : Hid (Mem.Bx w3 3 1 gb [.int .i64 (n3 : Nat)]) := by rw [← hn3]; exact HB2.out.keeps hk3 id
    have HZ3 : Hid (Mem.Bx w3 t n gm r.2) := HZ2.out.keeps hk3 id
    have HKw : Hid (Mem.Keeps (fun q => (q = g ∨ Mem.blk A = some q) ∨ q = gm) w w3) := (((Mem.Keeps.of_below HK1.out).mono (T := fun q => (q = g ∨ Mem.blk A = some q) ∨ q = gm) (fun _ h _ => h.elim)).trans HK2.out (fun q h hlt => by
      rcases h with h | h
      · exact .inl h
      · have := HGB.out; omega)).trans hk3 (fun _ h _ => h.elim)
    have HKr : Hid (Mem.Keeps (fun q => q = g ∨ q = gm) w w3) := (((Mem.Keeps.of_below HK1.out).mono (T := fun q => q = g ∨ q = gm) (fun _ h _ => h.elim)).trans PRD.out (fun q h hlt => h.elim .inl (fun h => by have := HGB.out; omega))).trans hk3 (fun _ h _ => h.elim)
    have hle : c3.pos + n3 ≤ c3.bs.length := by rw [← hce, ← hn3]; omega
    have hl3 : c3.bs.length ≤ L := by rw [← hce]; exact hlen
    have hcp : c3.pos + n3 ≤ cap2 := Nat.le_trans hle HC3.out.le.1
    have HSM : Hid (IntKind.i64.wrap ((c3.pos : Int) + (n3 : Int)) = ((c3.pos + n3 : Nat) : Int)) := by show _ = _; rw [IntWalk.i64_in _ (by omega)]; omega
    clear hw3 hk3 hrt HC2 HB2 HZ2 HK2 HK1 hce hn3 hbad d1 hlf hpos hlen HQ HQF HC HZ hw9 y2 y0 y1 yb
    go_upto_region 8 with fail
    refine Reg.wp_region_w (by kernel_rfl) 82 19 rfl rfl (by kernel_rfl) (18) (fun y => y = gm) (18) (fun _ => False) (18) (fun _ => False)
      (fun i v u => match i with
        | 0 => v = .pointer (some ⟨gm, k, none⟩)
        | 1 => v = .pointer (some ⟨g, 0, none⟩)
        | 2 => v = .pointer (some ⟨g, 0, none⟩)
        | 3 => v = .pointer (some ⟨g, 0, none⟩)
        | 4 => v = .slice A2 c3.bs.length cap2
        | 5 => v = .pointer (some ⟨g, 0, none⟩)
        | 6 => v = .pointer (some ⟨g, 0, none⟩)
        | 7 => v = .pointer (some ⟨g, 1, none⟩)
        | 8 => v = .int .i64 (c3.pos : Nat)
        | 9 => v = .pointer (some ⟨g, 0, none⟩)
        | 10 => v = .pointer (some ⟨g, 0, none⟩)
        | 11 => v = .pointer (some ⟨g, 1, none⟩)
        | 12 => v = .int .i64 (c3.pos : Nat)
        | 13 => v = .int .i64 (n3 : Nat)
        | 14 => v = .int .i64 ((c3.pos + n3 : Nat) : Int)
        | 15 => v = Mem.slc A2 c3.pos (c3.pos + n3) cap2
        | 16 => v = .string (strB (Mem.sub c3.bs c3.pos n3))
        | 17 => v = .pointer (some ⟨gm, k, none⟩)
        | 18 => Mem.Bx u t n gm (r.2.set k (.string (strB (Mem.sub c3.bs c3.pos n3))))
        | _ => True) ?_ ?_
    · refine Reg.Steps.cons ?_ (Reg.Steps.cons ?_ (Reg.Steps.cons ?_ (Reg.Steps.cons ?_ (Reg.Steps.cons ?_ (Reg.Steps.cons ?_ (Reg.Steps.cons ?_ (Reg.Steps.cons ?_ (Reg.Steps.cons ?_ (Reg.Steps.cons ?_ (Reg.Steps.cons ?_ (Reg.Steps.cons ?_ (Reg.Steps.cons ?_ (Reg.Steps.cons ?_ (Reg.Steps.cons ?_ (Reg.Steps.cons ?_ (Reg.Steps.cons ?_ (Reg.Steps.cons ?_ (Reg.Steps.cons ?_ (Reg.Steps.nil _)))))))))))))))))))
      · intro val ac u hR hp ha K hK      -- 0: t56 := Op.move t1
        have e1 : (ac.tmps[1]?).getD undef = .pointer (some ⟨gm, k, none⟩) := ha 1 (by decide)
        clear ha hp
        refine Reg.Op1.plain rfl ?_
        go_wp2
        exact ⟨rfl, hK _ _ rfl (Reg.Wr.same _)⟩
      · intro val ac u hR hp ha K hK      -- 1: t57 := Op.move t0
        have e0 : (ac.tmps[0]?).getD undef = .pointer (some ⟨g, 0, none⟩) := ha 0 (by decide)
        clear ha hp
        refine Reg.Op1.plain rfl ?_
        go_wp2
        exact ⟨rfl, hK _ _ rfl (Reg.Wr.same _)⟩
      · intro val ac u hR hp ha K hK      -- 2: t58 := Op.nilCheck t57
        obtain ⟨w57, h57, r57⟩ := hp 1 (by decide)
        have e57 : (ac.tmps[57]?).getD undef = .pointer (some ⟨g, 0, none⟩) := (ha 57 (by decide)).trans h57
        clear h57
        clear ha hp
        refine Reg.Op1.plain rfl ?_
        go_wp2
        exact ⟨rfl, hK _ _ rfl (Reg.Wr.same _)⟩
      · intro val ac u hR hp ha K hK      -- 3: t59 := Op.fieldAddr 67 t58 0
        obtain ⟨w58, h58, r58⟩ := hp 2 (by decide)
        have e58 : (ac.tmps[58]?).getD undef = .pointer (some ⟨g, 0, none⟩) := (ha 58 (by decide)).trans h58
        clear h58
        clear ha hp
        refine Reg.Op1.plain rfl ?_
        go_wp2
        exact ⟨rfl, hK _ _ rfl (Reg.Wr.same _)⟩
      · intro val ac u hR hp ha K hK      -- 4: t60 := Op.load 39 t59
        obtain ⟨w59, h59, r59⟩ := hp 3 (by decide)
        have e59 : (ac.tmps[59]?).getD undef = .pointer (some ⟨g, 0, none⟩) := (ha 59 (by decide)).trans h59
        clear h59
        clear ha hp
        refine Reg.Op1.plain rfl ?_
        have hq := (Mem.Keeps.refl (fun _ => False) w3).drew.trans (Reg.Wr.none hR (by decide +kernel) (by decide +kernel) (by decide +kernel)) (fun _ h _ => h)
        have x0 : u.cell? ⟨g, 0, none⟩ = some (.slice A2 c3.bs.length cap2) := (HC3.out.B.keeps hq id).cell (j := 0) rfl
        go_wp2
        exact ⟨rfl, hK _ _ rfl (Reg.Wr.same _)⟩
      · intro val ac u hR hp ha K hK      -- 5: t61 := Op.move t0
        have e0 : (ac.tmps[0]?).getD undef = .pointer (some ⟨g, 0, none⟩) := ha 0 (by decide)
        clear ha hp
        refine Reg.Op1.plain rfl ?_
        go_wp2
        exact ⟨rfl, hK _ _ rfl (Reg.Wr.same _)⟩
      · intro val ac u hR hp ha K hK      -- 6: t62 := Op.nilCheck t61
        obtain ⟨w61, h61, r61⟩ := hp 5 (by decide)
        have e61 : (ac.tmps[61]?).getD undef = .pointer (some ⟨g, 0, none⟩) := (ha 61 (by decide)).trans h61
        clear h61
        clear ha hp
        refine Reg.Op1.plain rfl ?_
        go_wp2
        exact ⟨rfl, hK _ _ rfl (Reg.Wr.same _)⟩
      · intro val ac u hR hp ha K hK      -- 7: t63 := Op.fieldAddr 67 t62 1
        obtain ⟨w62, h62, r62⟩ := hp 6 (by decide)
        have e62 : (ac.tmps[62]?).getD undef = .pointer (some ⟨g, 0, none⟩) := (ha 62 (by decide)).trans h62
        clear h62
        clear ha hp
        refine Reg.Op1.plain rfl ?_
        go_wp2
        exact ⟨rfl, hK _ _ rfl (Reg.Wr.same _)⟩
      · intro val ac u hR hp ha K hK      -- 8: t64 := Op.load 3 t63
        obtain ⟨w63, h63, r63⟩ := hp 7 (by decide)
        have e63 : (ac.tmps[63]?).getD undef = .pointer (some ⟨g, 1, none⟩) := (ha 63 (by decide)).trans h63
        clear h63
        clear ha hp
        refine Reg.Op1.plain rfl ?_
        have hq := (Mem.Keeps.refl (fun _ => False) w3).drew.trans (Reg.Wr.none hR (by decide +kernel) (by decide +kernel) (by decide +kernel)) (fun _ h _ => h)
        have x0 : u.cell? ⟨g, 1, none⟩ = some (.int .i64 (c3.pos : Nat)) := (HC3.out.B.keeps hq id).cell (j := 1) rfl
        go_wp2
        exact ⟨rfl, hK _ _ rfl (Reg.Wr.same _)⟩
      · intro val ac u hR hp ha K hK      -- 9: t65 := Op.move t0
        have e0 : (ac.tmps[0]?).getD undef = .pointer (some ⟨g, 0, none⟩) := ha 0 (by decide)
        clear ha hp
        refine Reg.Op1.plain rfl ?_
        go_wp2
        exact ⟨rfl, hK _ _ rfl (Reg.Wr.same _)⟩
      · intro val ac u hR hp ha K hK      -- 10: t66 := Op.nilCheck t65
        obtain ⟨w65, h65, r65⟩ := hp 9 (by decide)
        have e65 : (ac.tmps[65]?).getD undef = .pointer (some ⟨g, 0, none⟩) := (ha 65 (by decide)).trans h65
        clear h65
        clear ha hp
        refine Reg.Op1.plain rfl ?_
        go_wp2
        exact ⟨rfl, hK _ _ rfl (Reg.Wr.same _)⟩
      · intro val ac u hR hp ha K hK      -- 11: t67 := Op.fieldAddr 67 t66 1
        obtain ⟨w66, h66, r66⟩ := hp 10 (by decide)
        have e66 : (ac.tmps[66]?).getD undef = .pointer (some ⟨g, 0, none⟩) := (ha 66 (by decide)).trans h66
        clear h66
        clear ha hp
        refine Reg.Op1.plain rfl ?_
        go_wp2
        exact ⟨rfl, hK _ _ rfl (Reg.Wr.same _)⟩
      · intro val ac u hR hp ha K hK      -- 12: t68 := Op.load 3 t67
        obtain ⟨w67, h67, r67⟩ := hp 11 (by decide)
        have e67 : (ac.tmps[67]?).getD undef = .pointer (some ⟨g, 1, none⟩) := (ha 67 (by decide)).trans h67
        clear h67
        clear ha hp
        refine Reg.Op1.plain rfl ?_
        have hq := (Mem.Keeps.refl (fun _ => False) w3).drew.trans (Reg.Wr.none hR (by decide +kernel) (by decide +kernel) (by decide +kernel)) (fun _ h _ => h)
        have x0 : u.cell? ⟨g, 1, none⟩ = some (.int .i64 (c3.pos : Nat)) := (HC3.out.B.keeps hq id).cell (j := 1) rfl
        go_wp2
        exact ⟨rfl, hK _ _ rfl (Reg.Wr.same _)⟩
      · intro val ac u hR hp ha K hK      -- 13: t69 := Op.load 3 t6
        have e6 : (ac.tmps[6]?).getD undef = .pointer (some ⟨gb, 0, none⟩) := ha 6 (by decide)
        clear ha hp
        refine Reg.Op1.plain rfl ?_
        have hq := (Mem.Keeps.refl (fun _ => False) w3).drew.trans (Reg.Wr.none hR (by decide +kernel) (by decide +kernel) (by decide +kernel)) (fun _ h _ => h)
        have x0 : u.cell? ⟨gb, 0, none⟩ = some (.int .i64 (n3 : Nat)) := (HB3.out.keeps hq id).cell (j := 0) rfl
        go_wp2
        exact ⟨rfl, hK _ _ rfl (Reg.Wr.same _)⟩
      · intro val ac u hR hp ha K hK      -- 14: t70 := Op.binOp BinOp.add 3 t68 t69 3
        obtain ⟨w68, h68, r68⟩ := hp 12 (by decide)
        have e68 : (ac.tmps[68]?).getD undef = .int .i64 (c3.pos : Nat) := (ha 68 (by decide)).trans h68
        clear h68
        obtain ⟨w69, h69, r69⟩ := hp 13 (by decide)
        have e69 : (ac.tmps[69]?).getD undef = .int .i64 (n3 : Nat) := (ha 69 (by decide)).trans h69
        clear h69
        clear ha hp
        refine Reg.Op1.plain rfl ?_
        go_wp2
        exact ⟨rfl, hK _ _ (by simp) (Reg.Wr.same _)⟩
      · intro val ac u hR hp ha K hK      -- 15: t71 := Op.slice 39 t60 (some t64) (some t70) none
        obtain ⟨w60, h60, r60⟩ := hp 4 (by decide)
        have e60 : (ac.tmps[60]?).getD undef = .slice A2 c3.bs.length cap2 := (ha 60 (by decide)).trans h60
        clear h60
        obtain ⟨w64, h64, r64⟩ := hp 8 (by decide)
        have e64 : (ac.tmps[64]?).getD undef = .int .i64 (c3.pos : Nat) := (ha 64 (by decide)).trans h64
        clear h64
        obtain ⟨w70, h70, r70⟩ := hp 14 (by decide)
        have e70 : (ac.tmps[70]?).getD undef = .int .i64 ((c3.pos + n3 : Nat) : Int) := (ha 70 (by decide)).trans h70
        clear h70
        clear ha hp
        refine Reg.Op1.plain rfl ?_
        refine Mem.wpList_slc _ _ A2 c3.bs.length cap2 c3.pos (c3.pos + n3) bytes_under u8_size (Reg.eval_of e60) (Reg.eval_of e64) (Reg.eval_of e70) (Nat.le_add_right _ _) hcp ?_
        exact ⟨rfl, hK _ _ rfl (Reg.Wr.same _)⟩
      · intro val ac u hR hp ha K hK      -- 16: t72 := Op.convert 39 9 t71
        obtain ⟨w71, h71, r71⟩ := hp 15 (by decide)
        have e71 : (ac.tmps[71]?).getD undef = Mem.slc A2 c3.pos (c3.pos + n3) cap2 := (ha 71 (by decide)).trans h71
        clear h71
        clear ha hp
        refine Reg.Op1.plain rfl ?_
        have hq := (Mem.Keeps.refl (fun _ => False) w3).drew.trans (Reg.Wr.none hR (by decide +kernel) (by decide +kernel) (by decide +kernel)) (fun _ h _ => h)
        have hcv := Mem.conv_slc (P := Try.prog) (cap := cap2) 39 9 5 bytes_under u8_under string_under (HC3.out.R.keepsAt hq (Nat.le_refl _) (fun _ _ h => h)) (Nat.le_add_right c3.pos n3) hle HC3.out.le.1
        rw [Nat.add_sub_cancel_left] at hcv
        go_wp2
        exact ⟨rfl, hK _ _ rfl (Reg.Wr.same _)⟩
      · intro val ac u hR hp ha K hK      -- 17: t73 := Op.nilCheck t56
        obtain ⟨w56, h56, r56⟩ := hp 0 (by decide)
        have e56 : (ac.tmps[56]?).getD undef = .pointer (some ⟨gm, k, none⟩) := (ha 56 (by decide)).trans h56
        clear h56
        clear ha hp
        refine Reg.Op1.plain rfl ?_
        go_wp2
        exact ⟨rfl, hK _ _ rfl (Reg.Wr.same _)⟩
      · intro val ac u hR hp ha K hK      -- 18: Op.store 9 t73 t72
        obtain ⟨w73, h73, r73⟩ := hp 17 (by decide)
        have e73 : (ac.tmps[73]?).getD undef = .pointer (some ⟨gm, k, none⟩) := (ha 73 (by decide)).trans h73
        clear h73
        obtain ⟨w72, h72, r72⟩ := hp 16 (by decide)
        have e72 : (ac.tmps[72]?).getD undef = .string (strB (Mem.sub c3.bs c3.pos n3)) := (ha 72 (by decide)).trans h72
        clear h72
        clear ha hp
        refine Reg.Op1.plain rfl ?_
        have hq := (Mem.Keeps.refl (fun _ => False) w3).drew.trans (Reg.Wr.none hR (by decide +kernel) (by decide +kernel) (by decide +kernel)) (fun _ h _ => h)
        have hB := HZ3.out.keeps hq id
        have y1 := hB.cell HV.out
        have yf := hB.fr
        have hB2 := hB.set k (.string (strB (Mem.sub c3.bs c3.pos n3)))
        have hk2 : Mem.Keeps (fun y => y = gm) u (u.setCell ⟨gm, k, none⟩ (.string (strB (Mem.sub c3.bs c3.pos n3)))) := (Mem.Keeps.refl (fun y => y = gm) u).setCell (p := ⟨gm, k, none⟩) (fun _ => rfl) _
        go_wp2
        exact ⟨rfl, hK undef _ hB2 (Reg.Wr.does1 hk2)⟩
    · intro val u hR H
      obtain ⟨wA, hZA, rA⟩ := H 18 (by decide)
      have hq : Mem.Keeps (fun y => y = gm) w3 u := ((Mem.Keeps.refl (fun y => y = gm ∨ False ∨ False) w3).drew.trans (Reg.Wr.all hR) (fun _ h _ => h)).mono (fun _ h _ => h.elim id (fun h => h.elim (fun h => h.elim) (fun h => h.elim)))
      have hZ4 := hZA.keeps (Reg.Wr.none rA (by decide +kernel) (by decide +kernel) (by decide +kernel)) (fun h => h)
      have hC4 := HC3.out.keeps hq (fun q h1 h2 => by rcases h1 with h1 | h1; (exact hg (h2 ▸ h1 ▸ rfl)); (exact HAm.out (h2 ▸ h1)))
      have hB4 := HB3.out.keeps hq (fun h => by omega)
      have HZ4 := Lib.hid hZ4
      have HC4 := Lib.hid hC4
      have HB4 := Lib.hid hB4
      have HQ4 := Lib.hid hq
      simp only [List.map_cons, List.map_nil, Reg.lay, Act.put, List.setIfInBounds_toArray, List.set_cons_succ, List.set_cons_zero, Nat.reduceAdd]
      clear hR H hq hZA rA hZ4 hC4 hB4
      obtain ⟨w4, hw4⟩ : ∃ w4, w4 = u := ⟨_, rfl⟩
      subst hw4
      have x1 : w4.cell? ⟨g, 1, none⟩ = some (.int .i64 (c3.pos : Nat)) := HC4.out.B.cell (j := 1) rfl
      have x6 : w4.cell? ⟨gb, 0, none⟩ = some (.int .i64 (n3 : Nat)) := HB4.out.cell (j := 0) rfl
      have yf := HC4.out.B.fr
      go_upto_region 9 with fail
      refine Reg.wp_region_w (by kernel_rfl) 82 9 rfl rfl (by kernel_rfl) (8) (fun y => y = g) (8) (fun _ => False) (8) (fun _ => False)
        (fun i v u => match i with
          | 0 => v = .pointer (some ⟨g, 0, none⟩)
          | 1 => v = .pointer (some ⟨g, 0, none⟩)
          | 2 => v = .pointer (some ⟨g, 1, none⟩)
          | 3 => v = .int .i64 (c3.pos : Nat)
          | 4 => v = .int .i64 (n3 : Nat)
          | 5 => v = .int .i64 ((c3.pos + n3 : Nat) : Int)
          | 6 => v = .pointer (some ⟨g, 0, none⟩)
          | 7 => v = .pointer (some ⟨g, 1, none⟩)
          | 8 => CAt u g A2 cap2 (tail c3 n3)
          | _ => True) ?_ ?_
      · refine Reg.Steps.cons ?_ (Reg.Steps.cons ?_ (Reg.Steps.cons ?_ (Reg.Steps.cons ?_ (Reg.Steps.cons ?_ (Reg.Steps.cons ?_ (Reg.Steps.cons ?_ (Reg.Steps.cons ?_ (Reg.Steps.cons ?_ (Reg.Steps.nil _)))))))))
        · intro val ac u hR hp ha K hK      -- 0: t74 := Op.move t0
          have e0 : (ac.tmps[0]?).getD undef = .pointer (some ⟨g, 0, none⟩) := ha 0 (by decide)
          clear ha hp
          refine Reg.Op1.plain rfl ?_
          go_wp2
          exact ⟨rfl, hK _ _ rfl (Reg.Wr.same _)⟩
        · intro val ac u hR hp ha K hK      -- 1: t75 := Op.nilCheck t74
          obtain ⟨w74, h74, r74⟩ := hp 0 (by decide)
          have e74 : (ac.tmps[74]?).getD undef = .pointer (some ⟨g, 0, none⟩) := (ha 74 (by decide)).trans h74
          clear h74
          clear ha hp
          refine Reg.Op1.plain rfl ?_
          go_wp2
          exact ⟨rfl, hK _ _ rfl (Reg.Wr.same _)⟩
        · intro val ac u hR hp ha K hK      -- 2: t76 := Op.fieldAddr 67 t75 1
          obtain ⟨w75, h75, r75⟩ := hp 1 (by decide)
          have e75 : (ac.tmps[75]?).getD undef = .pointer (some ⟨g, 0, none⟩) := (ha 75 (by decide)).trans h75
          clear h75
          clear ha hp
          refine Reg.Op1.plain rfl ?_
          go_wp2
          exact ⟨rfl, hK _ _ rfl (Reg.Wr.same _)⟩
        · intro val ac u hR hp ha K hK      -- 3: t77 := Op.load 3 t76
          obtain ⟨w76, h76, r76⟩ := hp 2 (by decide)
          have e76 : (ac.tmps[76]?).getD undef = .pointer (some ⟨g, 1, none⟩) := (ha 76 (by decide)).trans h76
          clear h76
          clear ha hp
          refine Reg.Op1.plain rfl ?_
          have hq := (Mem.Keeps.refl (fun _ => False) w4).drew.trans (Reg.Wr.none hR (by decide +kernel) (by decide +kernel) (by decide +kernel)) (fun _ h _ => h)
          have x0 : u.cell? ⟨g, 1, none⟩ = some (.int .i64 (c3.pos : Nat)) := (HC4.out.B.keeps hq id).cell (j := 1) rfl
          go_wp2
          exact ⟨rfl, hK _ _ rfl (Reg.Wr.same _)⟩
        · intro val ac u hR hp ha K hK      -- 4: t78 := Op.load 3 t6
          have e6 : (ac.tmps[6]?).getD undef = .pointer (some ⟨gb, 0, none⟩) := ha 6 (by decide)
          clear ha hp
          refine Reg.Op1.plain rfl ?_
          have hq := (Mem.Keeps.refl (fun _ => False) w4).drew.trans (Reg.Wr.none hR (by decide +kernel) (by decide +kernel) (by decide +kernel)) (fun _ h _ => h)
          have x0 : u.cell? ⟨gb, 0, none⟩ = some (.int .i64 (n3 : Nat)) := (HB4.out.keeps hq id).cell (j := 0) rfl
          go_wp2
          exact ⟨rfl, hK _ _ rfl (Reg.Wr.same _)⟩
        · intro val ac u hR hp ha K hK      -- 5: t79 := Op.binOp BinOp.add 3 t77 t78 3
          obtain ⟨w77, h77, r77⟩ := hp 3 (by decide)
          have e77 : (ac.tmps[77]?).getD undef = .int .i64 (c3.pos : Nat) := (ha 77 (by decide)).trans h77
          clear h77
          obtain ⟨w78, h78, r78⟩ := hp 4 (by decide)
          have e78 : (ac.tmps[78]?).getD undef = .int .i64 (n3 : Nat) := (ha 78 (by decide)).trans h78
          clear h78
          clear ha hp
          refine Reg.Op1.plain rfl ?_
          go_wp2
          exact ⟨rfl, hK _ _ (by simp) (Reg.Wr.same _)⟩
        · intro val ac u hR hp ha K hK      -- 6: t80 := Op.nilCheck t74
          obtain ⟨w74, h74, r74⟩ := hp 0 (by decide)
          have e74 : (ac.tmps[74]?).getD undef = .pointer (some ⟨g, 0, none⟩) := (ha 74 (by decide)).trans h74
          clear h74
          clear ha hp
          refine Reg.Op1.plain rfl ?_
          go_wp2
          exact ⟨rfl, hK _ _ rfl (Reg.Wr.same _)⟩
        · intro val ac u hR hp ha K hK      -- 7: t81 := Op.fieldAddr 67 t80 1
          obtain ⟨w80, h80, r80⟩ := hp 6 (by decide)
          have e80 : (ac.tmps[80]?).getD undef = .pointer (some ⟨g, 0, none⟩) := (ha 80 (by decide)).trans h80
          clear h80
          clear ha hp
          refine Reg.Op1.plain rfl ?_
          go_wp2
          exact ⟨rfl, hK _ _ rfl (Reg.Wr.same _)⟩
        · intro val ac u hR hp ha K hK      -- 8: Op.store 3 t81 t79
          obtain ⟨w81, h81, r81⟩ := hp 7 (by decide)
          have e81 : (ac.tmps[81]?).getD undef = .pointer (some ⟨g, 1, none⟩) := (ha 81 (by decide)).trans h81
          clear h81
          obtain ⟨w79, h79, r79⟩ := hp 5 (by decide)
          have e79 : (ac.tmps[79]?).getD undef = .int .i64 ((c3.pos + n3 : Nat) : Int) := (ha 79 (by decide)).trans h79
          clear h79
          clear ha hp
          refine Reg.Op1.plain rfl ?_
          have hq := (Mem.Keeps.refl (fun _ => False) w4).drew.trans (Reg.Wr.none hR (by decide +kernel) (by decide +kernel) (by decide +kernel)) (fun _ h _ => h)
          have hC := HC4.out.keeps hq (fun _ _ h => h)
          have y1 : u.cell? ⟨g, 1, none⟩ = some (.int .i64 (c3.pos : Nat)) := hC.B.cell (j := 1) rfl
          have yf := hC.B.fr
          have hC2 := hC.set (c' := tail c3 n3) 1 (.int .i64 ((c3.pos + n3 : Nat) : Int)) rfl rfl (by simp [cdCells, tail])
          have hk2 : Mem.Keeps (fun y => y = g) u (u.setCell ⟨g, 1, none⟩ (.int .i64 ((c3.pos + n3 : Nat) : Int))) := (Mem.Keeps.refl (fun y => y = g) u).setCell (p := ⟨g, 1, none⟩) (fun _ => rfl) _
          go_wp2
          exact ⟨rfl, hK undef _ hC2 (Reg.Wr.does1 hk2)⟩
      · intro val u hR H
        obtain ⟨wB, hCB, rB⟩ := H 8 (by decide)
        have hq : Mem.Keeps (fun y => y = g) w4 u := ((Mem.Keeps.refl (fun y => y = g ∨ False ∨ False) w4).drew.trans (Reg.Wr.all hR) (fun _ h _ => h)).mono (fun _ h _ => h.elim id (fun h => h.elim (fun h => h.elim) (fun h => h.elim)))
        have hC5 := hCB.keeps (Reg.Wr.none rB (by decide +kernel) (by decide +kernel) (by decide +kernel)) (fun _ _ h => h)
        have hZ5 := HZ4.out.keeps hq hg
        have HPP : Hid (Pass w g A t n gm ((readTxt r.1).1, r.2.set k (.string (readTxt r.1).2)) u) := (by
        show Pass _ _ _ _ _ _ _ _
        rw [HRT.out]
        exact ⟨⟨A2, cap2, hC5, hZ5, (HKw.out.trans HQ4.out (fun q h _ => .inr h)).trans hq (fun q h _ => .inl (.inl h)), HAb.out⟩, fun _ => (HKr.out.trans HQ4.out (fun q h _ => .inr h)).trans hq (fun q h _ => .inl h)⟩)
        simp only [List.map_cons, List.map_nil, Reg.lay, Act.put, List.setIfInBounds_toArray, List.set_cons_succ, List.set_cons_zero, Nat.reduceAdd]
        clear hR H hq hCB rB hC5 hZ5
        go_wp2
        first | go_end0 | ((try simp only [Exit.inBlock, Exit.then]); refine bodyPost_ret (results_none rfl _ _ _) rfl ?_)
        exact ⟨rfl, HPP.out⟩
end Go.Proofs.Ytkfgedgjpgehoaa
