/- The walk of text, where a coder writes. No conditions but that the bytes are few. -/
import Derived.Test.YtkfgedgjpgehoaaWire3
import Derived.Test.YtkfgedgjpgehoaaAppS
namespace Go.Proofs.Ytkfgedgjpgehoaa
open Go.ChangeShapes Go.WideShapes Go.ChangeAt Go.RowKit
set_option linter.unusedVariables false
set_option linter.unusedSimpArgs false
namespace Wi
theorem stepNum_w {c : Cd} (h : c.reads = false) (v : Int) : (stepNum c v).2 = v := by
  unfold stepNum
  rw [h, if_neg (by simp)]
  split <;> rfl
/-- a text is written -/
def stepTxt (c : Cd) (m : Int) (s : ByteArray) : Cd := { (stepNum c s.size).1 with long := (stepNum c s.size).1.long || decide (m < (s.size : Int)), bs := (stepNum c s.size).1.bs ++ s.data.toList }
theorem stepTxt_fit {c : Cd} {L : Nat} (h : Fit c L) (m : Int) (s : ByteArray) : Fit (stepTxt c m s) (L + 9 + s.size) := by
  have h1 := stepNum_fit h (s.size : Int)
  refine ⟨?_, ?_⟩
  · show (stepNum c s.size).1.pos ≤ ((stepNum c s.size).1.bs ++ _).length
    rw [List.length_append]; have := h1.pos; omega
  · show ((stepNum c s.size).1.bs ++ _).length ≤ _
    rw [List.length_append]
    have := h1.len
    have h2 : s.data.toList.length = s.size := by rw [Array.length_toList]; rfl
    omega
end Wi
theorem string_under : Try.prog.underlying 9 = some .string := Try.underlying9
open Wi in
set_option maxRecDepth 8000 in
set_option maxHeartbeats 4000000 in
theorem text_write {w : World} {g : Nat} {A : Option Addr} {cap : Nat} {t : TypeId} {n gm : Nat} {r : Wi.Cd × List Value} {k : Nat} {L : Nat} {s : ByteArray} (m : Int) (hrd : r.1.reads = false) (h : Wi.CAt w g A cap r.1) (hf : Wi.Fit r.1 L) (hL : L + 9 + s.size ≤ 1000000000) (hz : Mem.Bx w t n gm r.2) (hv : r.2[k]? = some (.string s)) (hg : gm ≠ g) (ha : Mem.blk A ≠ some gm) :
    Calls Try.prog 58 #[.pointer (some ⟨g, 0, none⟩), .pointer (some ⟨gm, k, none⟩), .int .i64 m] w fun x w' => x = .returned (.tuple #[]) ∧ Wi.Pass w g A t n gm (Wi.stepTxt r.1 m s, r.2) w' := by
  have HC := Lib.hid h
  have HZ := Lib.hid hz
  have HA := Lib.hid ha
  have z0 := hz.cell hv
  have hgm := hz.lt
  have hgl := h.B.lt
  have HAl := Lib.hid h.lt
  have HV := Lib.hid hv
  have HRD := Lib.hid hrd
  clear h hz ha hv hrd
  go_enter Try.func58, Try.ntmps58
  go_upto_region 1 with fail
  obtain ⟨w1, hw1⟩ : ∃ w1, w.alloc (.cells #[.int .i64 (s.size : Int)] 3) = w1 := ⟨_, rfl⟩
  have HB1 : Hid (Mem.Bx w1 3 1 w.heap.size [.int .i64 (s.size : Int)]) := by show Mem.Bx _ _ _ _ _; rw [← hw1]; exact Mem.Bx.new w 3 #[.int .i64 (s.size : Int)] rfl rfl
  have HK1 : Hid (Below w.heap.size w w1) := by show Below _ _ _; rw [← hw1]; exact Reg.below_new _ _
  rw [hw1]
  clear hw1 z0
  have HC1 : Hid (CAt w1 g A cap r.1) := HC.out.keeps (Mem.Keeps.of_below HK1.out) (fun _ _ h => h)
  have HZ1 : Hid (Mem.Bx w1 t n gm r.2) := HZ.out.below HK1.out HZ.out.lt
  obtain ⟨gb, hgb⟩ : ∃ gb, w.heap.size = gb := ⟨_, rfl⟩
  have HGB := Lib.hid hgb
  rw [hgb] at HB1 hgm hgl ⊢
  have HAg : Hid (Mem.blk A ≠ some gb) := fun h => by have := HAl.out gb h; omega
  have HN := Lib.hid (number_pass (t := 3) (n := 1) (gm := gb) (r := (r.1, [Value.int .i64 (s.size : Int)])) (k := 0) HC1.out hf (by omega) HB1.out ⟨_, rfl⟩ (by omega) HAg.out)
  clear hgb
  go_upto_region 2 with (go_at_call 45; refine HN.out.mono ?_; rintro x9 w2 ⟨rfl, hp⟩; have HP := Lib.hid hp; clear hp)
  obtain ⟨A2, cap2, p1, p2, p3, p4⟩ := HP.out.out
  obtain ⟨q, hq⟩ : ∃ q, stepNum r.1 (s.size : Int) = q := ⟨_, rfl⟩
  have hq1 : stepN (r.1, [Value.int .i64 (s.size : Int)]) 0 = (q.1, [Value.int .i64 q.2]) := by show ((stepNum r.1 (s.size : Int)).1, [Value.int .i64 (stepNum r.1 (s.size : Int)).2]) = _; rw [hq]
  have hq2 : q.2 = (s.size : Int) := by rw [← hq]; exact stepNum_w HRD.out _
  have hqr : q.1.reads = false := by rw [← hq, stepNum_reads]; exact HRD.out
  have hqf : Fit q.1 (L + 9) := by rw [← hq]; exact stepNum_fit hf _
  rw [hq1, hq2] at p2
  rw [hq1] at p1
  have HQ := Lib.hid hq
  have HC2 : Hid (CAt w2 g A2 cap2 q.1) := p1
  have HB2 : Hid (Mem.Bx w2 3 1 gb [.int .i64 (s.size : Int)]) := p2
  have HK2 := Lib.hid p3
  have HZ2 : Hid (Mem.Bx w2 t n gm r.2) := HZ1.out.keeps p3 (fun h => by rcases h with (h | h) | h; exact hg h; exact HA.out h; omega)
  have HAm : Hid (Mem.blk A2 ≠ some gm) := fun h => by
    rcases p4 gm h with h1 | h1
    · exact HA.out h1
    · have := HK1.out.size; have := HGB.out; omega
  have HAb : Hid (∀ q, Mem.blk A2 = some q → Mem.blk A = some q ∨ w.heap.size ≤ q) := fun q h => (p4 q h).imp id (Nat.le_trans HK1.out.size)
  have HQR := Lib.hid hqr
  have HQF := Lib.hid hqf
  clear hq hq1 hq2 p1 p2 p3 p4 HP HN HC1 HB1 HZ1 hqf
  have y2 : w2.cell? ⟨g, 2, none⟩ = some (.bool false) := by rw [← hqr]; exact HC2.out.B.cell (j := 2) rfl
  have y0 : w2.cell? ⟨gb, 0, none⟩ = some (.int .i64 (s.size : Int)) := HB2.out.cell (j := 0) rfl
  have y5 : w2.cell? ⟨g, 5, none⟩ = some (.bool q.1.long) := HC2.out.B.cell (j := 5) rfl
  have yf := HC2.out.B.fr
  clear hqr
  go_upto_region 3 with fail
  go_cut [] (fun wx => wx = w2.setCell ⟨g, 5, none⟩ (.bool (q.1.long || decide (m < (s.size : Int)))))
  case first =>
    cases hlg : q.1.long
    · rw [hlg] at y5
      by_cases h1 : m < (s.size : Int)
      · have d1 : decide (m < (s.size : Int)) = true := by simpa using h1
        go_wp2
        go_meet
        case rel => first | rfl | (simp [d1, hlg])
      · have d1 : decide (m < (s.size : Int)) = false := by simpa using h1
        go_wp2
        go_meet
        case rel => first | rfl | (simp [d1, hlg])
    · rw [hlg] at y5
      go_wp2
      go_meet
      case rel => first | rfl | (simp [hlg])
  case rest =>
    obtain ⟨lg, hlg⟩ : ∃ lg, (q.1.long || decide (m < (s.size : Int))) = lg := ⟨_, rfl⟩
    have HLG := Lib.hid hlg
    rw [hlg] at hcut
    have hk3 : Mem.Keeps (fun q => q = g) w2 (w2.setCell ⟨g, 5, none⟩ (.bool lg)) := (Mem.Keeps.refl (fun q => q = g) w2).setCell (p := ⟨g, 5, none⟩) (fun _ => rfl) _
    have hc3 := HC2.out.set (c' := { q.1 with long := lg }) 5 (.bool lg) rfl rfl (by simp [cdCells])
    rw [← hcut] at hk3 hc3
    have HC3 : Hid (CAt wc g A2 cap2 { q.1 with long := lg }) := hc3
    have HZ3 : Hid (Mem.Bx wc t n gm r.2) := HZ2.out.keeps hk3 (fun h => hg h)
    have HK3 := Lib.hid hk3
    clear hcut hlg hk3 hc3 y2 y0 y5 yf HC2 HZ2 HB2
    rename World => w3
    obtain ⟨c3, hc3⟩ : ∃ c3 : Cd, ({ q.1 with long := lg } : Cd) = c3 := ⟨_, rfl⟩
    have HC3E := Lib.hid hc3
    have hr3 : c3.reads = false := by rw [← hc3]; exact HQR.out
    have hf3 : c3.bs.length ≤ L + 9 := by rw [← hc3]; exact HQF.out.len
    rw [hc3] at HC3
    clear hc3
    have HO3 := Lib.hid (HC3.out.O hr3)
    have hAg2 := HC3.out.ne g
    have hl4 : c3.bs.length + s.size ≤ 2000000000 := by omega
    have hss : s.data.toList.length = s.size := by rw [Array.length_toList]; rfl
    have hgl3 := HC3.out.B.lt
    go_upto_region 4 with fail
    refine Reg.wp_region_w (by kernel_rfl) 82 12 rfl rfl (by kernel_rfl) (8) (fun y => Mem.blk A2 = some y) (11) (fun y => y = g) (8) (fun _ => False)
      (fun i v u => match i with
        | 0 => v = .pointer (some ⟨g, 0, none⟩)
        | 1 => v = .pointer (some ⟨g, 0, none⟩)
        | 2 => v = .pointer (some ⟨g, 0, none⟩)
        | 3 => v = .pointer (some ⟨g, 0, none⟩)
        | 4 => v = .slice A2 c3.bs.length cap2
        | 5 => v = .pointer (some ⟨gm, k, none⟩)
        | 6 => v = .pointer (some ⟨gm, k, none⟩)
        | 7 => v = .string s
        | 8 => ∃ A3 cap3, v = .slice A3 (c3.bs.length + s.size) cap3 ∧ Mem.Own u 5 1 A3 (c3.bs.length + s.size) cap3 (c3.bs.map Mem.byteV ++ s.data.toList.map Mem.byteV) ∧ (A3 = A2 ∨ Mem.From w3.heap.size A3)
        | 9 => v = .pointer (some ⟨g, 0, none⟩)
        | 10 => v = .pointer (some ⟨g, 0, none⟩)
        | 11 => ∃ A3 cap3, CAt u g A3 cap3 { c3 with bs := c3.bs ++ s.data.toList } ∧ (A3 = A2 ∨ Mem.From w3.heap.size A3)
        | _ => True) ?_ ?_
    · refine Reg.Steps.cons ?_ (Reg.Steps.cons ?_ (Reg.Steps.cons ?_ (Reg.Steps.cons ?_ (Reg.Steps.cons ?_ (Reg.Steps.cons ?_ (Reg.Steps.cons ?_ (Reg.Steps.cons ?_ (Reg.Steps.cons ?_ (Reg.Steps.cons ?_ (Reg.Steps.cons ?_ (Reg.Steps.cons ?_ (Reg.Steps.nil _))))))))))))
      · intro val ac u hR hp ha K hK      -- 0: t30 := Op.move t0
        have e0 : (ac.tmps[0]?).getD undef = .pointer (some ⟨g, 0, none⟩) := ha 0 (by decide)
        clear ha hp
        refine Reg.Op1.plain rfl ?_
        go_wp2
        exact ⟨rfl, hK _ _ rfl (Reg.Wr.same _)⟩
      · intro val ac u hR hp ha K hK      -- 1: t31 := Op.move t0
        have e0 : (ac.tmps[0]?).getD undef = .pointer (some ⟨g, 0, none⟩) := ha 0 (by decide)
        clear ha hp
        refine Reg.Op1.plain rfl ?_
        go_wp2
        exact ⟨rfl, hK _ _ rfl (Reg.Wr.same _)⟩
      · intro val ac u hR hp ha K hK      -- 2: t32 := Op.nilCheck t31
        obtain ⟨w31, h31, r31⟩ := hp 1 (by decide)
        have e31 : (ac.tmps[31]?).getD undef = .pointer (some ⟨g, 0, none⟩) := (ha 31 (by decide)).trans h31
        clear h31
        clear ha hp
        refine Reg.Op1.plain rfl ?_
        go_wp2
        exact ⟨rfl, hK _ _ rfl (Reg.Wr.same _)⟩
      · intro val ac u hR hp ha K hK      -- 3: t33 := Op.fieldAddr 67 t32 0
        obtain ⟨w32, h32, r32⟩ := hp 2 (by decide)
        have e32 : (ac.tmps[32]?).getD undef = .pointer (some ⟨g, 0, none⟩) := (ha 32 (by decide)).trans h32
        clear h32
        clear ha hp
        refine Reg.Op1.plain rfl ?_
        go_wp2
        exact ⟨rfl, hK _ _ rfl (Reg.Wr.same _)⟩
      · intro val ac u hR hp ha K hK      -- 4: t34 := Op.load 39 t33
        obtain ⟨w33, h33, r33⟩ := hp 3 (by decide)
        have e33 : (ac.tmps[33]?).getD undef = .pointer (some ⟨g, 0, none⟩) := (ha 33 (by decide)).trans h33
        clear h33
        clear ha hp
        refine Reg.Op1.plain rfl ?_
        have hq := (Mem.Keeps.refl (fun _ => False) w3).drew.trans (Reg.Wr.none hR (by decide +kernel) (by decide +kernel) (by decide +kernel)) (fun _ h _ => h)
        have x0 : u.cell? ⟨g, 0, none⟩ = some (.slice A2 c3.bs.length cap2) := (HC3.out.B.keeps hq id).cell (j := 0) rfl
        go_wp2
        exact ⟨rfl, hK _ _ rfl (Reg.Wr.same _)⟩
      · intro val ac u hR hp ha K hK      -- 5: t35 := Op.move t1
        have e1 : (ac.tmps[1]?).getD undef = .pointer (some ⟨gm, k, none⟩) := ha 1 (by decide)
        clear ha hp
        refine Reg.Op1.plain rfl ?_
        go_wp2
        exact ⟨rfl, hK _ _ rfl (Reg.Wr.same _)⟩
      · intro val ac u hR hp ha K hK      -- 6: t36 := Op.nilCheck t35
        obtain ⟨w35, h35, r35⟩ := hp 5 (by decide)
        have e35 : (ac.tmps[35]?).getD undef = .pointer (some ⟨gm, k, none⟩) := (ha 35 (by decide)).trans h35
        clear h35
        clear ha hp
        refine Reg.Op1.plain rfl ?_
        go_wp2
        exact ⟨rfl, hK _ _ rfl (Reg.Wr.same _)⟩
      · intro val ac u hR hp ha K hK      -- 7: t37 := Op.load 9 t36
        obtain ⟨w36, h36, r36⟩ := hp 6 (by decide)
        have e36 : (ac.tmps[36]?).getD undef = .pointer (some ⟨gm, k, none⟩) := (ha 36 (by decide)).trans h36
        clear h36
        clear ha hp
        refine Reg.Op1.plain rfl ?_
        have hq := (Mem.Keeps.refl (fun _ => False) w3).drew.trans (Reg.Wr.none hR (by decide +kernel) (by decide +kernel) (by decide +kernel)) (fun _ h _ => h)
        have x0 := (HZ3.out.keeps hq id).cell HV.out
        go_wp2
        exact ⟨rfl, hK _ _ rfl (Reg.Wr.same _)⟩
      · intro val ac u hR hp ha K hK      -- 8: t38 := Op.call { builtin append, args := #[t34, t37], argTypes := #[39, 9] }
        obtain ⟨w34, h34, r34⟩ := hp 4 (by decide)
        have e34 : (ac.tmps[34]?).getD undef = .slice A2 c3.bs.length cap2 := (ha 34 (by decide)).trans h34
        clear h34
        obtain ⟨w37, h37, r37⟩ := hp 7 (by decide)
        have e37 : (ac.tmps[37]?).getD undef = .string s := (ha 37 (by decide)).trans h37
        clear h37
        clear ha hp
        refine Reg.Op1.plain rfl ?_
        have hq := (Mem.Keeps.refl (fun _ => False) w3).drew.trans (Reg.Wr.none hR (by decide +kernel) (by decide +kernel) (by decide +kernel)) (fun _ h _ => h)
        refine Mem.wpList_appS u rfl (.tmp 34) (.tmp 37) _ _ rfl bytes_elem string_under A2 c3.bs.length cap2 _ (Reg.eval_of e34) s (Reg.eval_of e37) ?_ (HO3.out.keeps hq (fun _ _ h => h)) (len_ok hl4).1 (len_ok hl4).2
        intro A3 cap3 w' hown hgr hat
        exact ⟨rfl, hK _ _ ⟨A3, cap3, rfl, hown, hat.elim .inl (fun h => .inr (by rw [h]; exact Mem.From.some_ hq.size))⟩ (Reg.Wr.does1 ((Mem.Keeps.refl _ u).grown hgr (fun k h _ => h)))⟩
      · intro val ac u hR hp ha K hK      -- 9: t39 := Op.nilCheck t30
        obtain ⟨w30, h30, r30⟩ := hp 0 (by decide)
        have e30 : (ac.tmps[30]?).getD undef = .pointer (some ⟨g, 0, none⟩) := (ha 30 (by decide)).trans h30
        clear h30
        clear ha hp
        refine Reg.Op1.plain rfl ?_
        go_wp2
        exact ⟨rfl, hK _ _ rfl (Reg.Wr.same _)⟩
      · intro val ac u hR hp ha K hK      -- 10: t40 := Op.fieldAddr 67 t39 0
        obtain ⟨w39, h39, r39⟩ := hp 9 (by decide)
        have e39 : (ac.tmps[39]?).getD undef = .pointer (some ⟨g, 0, none⟩) := (ha 39 (by decide)).trans h39
        clear h39
        clear ha hp
        refine Reg.Op1.plain rfl ?_
        go_wp2
        exact ⟨rfl, hK _ _ rfl (Reg.Wr.same _)⟩
      · intro val ac u hR hp ha K hK      -- 11: Op.store 39 t40 t38
        obtain ⟨w40, h40, r40⟩ := hp 10 (by decide)
        have e40 : (ac.tmps[40]?).getD undef = .pointer (some ⟨g, 0, none⟩) := (ha 40 (by decide)).trans h40
        clear h40
        obtain ⟨w38, h38, r38⟩ := hp 8 (by decide)
        have e38 : (ac.tmps[38]?).getD undef = val 8 := ha 38 (by decide)
        clear ha hp
        refine Reg.Op1.plain rfl ?_
        obtain ⟨A3, cap3, hv, hown, hat⟩ := h38
        rw [hv] at e38
        have hq := (Mem.Keeps.refl (fun y => Mem.blk A2 = some y) w3).drew.trans ((Reg.Wr.not2 hR (by decide +kernel)).mono (T := fun y => Mem.blk A2 = some y) (fun _ h _ => h.elim id (fun h => h.elim))) (fun _ h _ => h)
        have hB := HC3.out.B.keeps hq (fun h => hAg2 h rfl)
        have ho := hown.keeps (Reg.Wr.none r38 (by decide +kernel) (by decide +kernel) (by decide +kernel)) (fun _ _ h => h)
        have y1 := hB.cell (j := 0) rfl
        have yf := hB.fr
        have hne : ∀ q, Mem.blk A3 = some q → q ≠ g := fun q h => by
          rcases hat with h1 | h1
          · rw [h1] at h; exact HC3.out.ne q h
          · have := h1.blk q h; omega
        have hgr := HC3.out.grow hr3 hq s.data.toList (A3 := A3) (cap3 := cap3) (by rw [hss]; exact ho) hne
        rw [hss] at hgr
        go_wp2
        exact ⟨rfl, hK undef _ ⟨A3, cap3, hgr, hat⟩ (Reg.Wr.does2 ((Mem.Keeps.refl (fun y => y = g) u).setCell (p := ⟨g, 0, none⟩) (fun _ => rfl) _))⟩
    · intro val u hR H
      obtain ⟨wA, ⟨A3, cap3, hA3, hat⟩, rA⟩ := H 11 (by decide)
      have hq := (Mem.Keeps.refl (fun y => Mem.blk A2 = some y ∨ y = g ∨ False) w3).drew.trans (Reg.Wr.all hR) (fun _ h _ => h)
      have hC9 := hA3.keeps (Reg.Wr.none rA (by decide +kernel) (by decide +kernel) (by decide +kernel)) (fun _ _ h => h)
      have k1 : Mem.Keeps (fun q => (q = g ∨ Mem.blk A = some q) ∨ q = gm) w w2 := ((Mem.Keeps.of_below HK1.out).mono (T := fun q => (q = g ∨ Mem.blk A = some q) ∨ q = gm) (fun _ h _ => h.elim)).trans HK2.out (fun q h hlt => by
        rcases h with h | h
        · exact .inl h
        · have := HGB.out; omega)
      have k2 := k1.trans HK3.out (fun q h _ => .inl (.inl h))
      have HPP : Hid (Pass w g A t n gm (stepTxt r.1 m s, r.2) u) := by
        show Pass _ _ _ _ _ _ _ _
        have e1 : stepTxt r.1 m s = { c3 with bs := c3.bs ++ s.data.toList } := by rw [← HC3E.out, ← HLG.out]; unfold stepTxt; rw [HQ.out]
        rw [e1]
        refine ⟨⟨A3, cap3, hC9, HZ3.out.keeps hq (fun h => by rcases h with h | h | h; exact HAm.out h; exact hg h; exact h), k2.trans hq (fun q h hlt => by
          rcases h with h | h | h
          · rcases HAb.out q h with h1 | h1
            · exact .inl (.inr h1)
            · omega
          · exact .inl (.inl h)
          · exact h.elim), fun q h => ?_⟩, fun h => by have h9 : c3.reads = true := h; rw [hr3] at h9; cases h9⟩
        rcases hat with h1 | h1
        · rw [h1] at h; exact HAb.out q h
        · have h2 := h1.blk q h; have h3 := k2.size; exact .inr (by omega)
      simp only [List.map_cons, List.map_nil, Reg.lay, Act.put, List.setIfInBounds_toArray, List.set_cons_succ, List.set_cons_zero, Nat.reduceAdd]
      clear hR H hq hA3 hat rA hC9 k1 k2
      go_wp2
      first | go_end0 | ((try simp only [Exit.inBlock, Exit.then]); refine bodyPost_ret (results_none rfl _ _ _) rfl ?_)
      exact ⟨rfl, HPP.out⟩
end Go.Proofs.Ytkfgedgjpgehoaa
