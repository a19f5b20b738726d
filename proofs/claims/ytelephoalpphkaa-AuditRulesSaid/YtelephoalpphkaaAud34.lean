/- A history in new memory, checked; the walk of AuditRules. No conditions. -/
import Derived.Test.YtelephoalpphkaaAud29
set_option maxRecDepth 8000
namespace Go.Proofs.Ytelephoalpphkaa
open Go.ChangeShapes Go.WideShapes Go.ChangeAt Go.RowKit
set_option linter.unusedVariables false
set_option linter.unusedSimpArgs false
namespace Au
theorem Tw.mem {w : World} {h : List Ev} {k : Nat} {X : Option Addr} {c : Nat} {hs : List Ev} {wr : World} (t : Tw w h k X c hs wr) {x : Ev} (hx : x ∈ hs) : ∃ e ∈ h, bare x = bare e := by
  have h1 : bare x ∈ (h.take k).map bare := by rw [← t.b]; exact List.mem_map_of_mem hx
  obtain ⟨e, he, h2⟩ := List.mem_map.1 h1
  exact ⟨e, List.mem_of_mem_take he, h2.symm⟩
theorem bare_cl {a b : Ev} (h : bare a = bare b) : a.cl = b.cl := by show (bare a).cl = (bare b).cl; rw [h]
theorem bare_res {a b : Ev} (h : bare a = bare b) : a.res = b.res := by show (bare a).res = (bare b).res; rw [h]
theorem bare_op {a b : Ev} (h : bare a = bare b) : a.op = b.op := by show (bare a).op = (bare b).op; rw [h]
theorem bare_cut {a b : Ev} (h : bare a = bare b) : a.cut = b.cut := by show (bare a).cut = (bare b).cut; rw [h]
theorem Tw.finds {w : World} {h : List Ev} {X : Option Addr} {c : Nat} {hs : List Ev} {wr : World} (t : Tw w h h.length X c hs wr) (ws : List Vec.Ent) : findL hs ws = findL h ws :=
  findL_congr (by rw [t.b, List.take_length]) ws
end Au
/-- a history in new memory is checked -/
theorem twCheck_any {w0 : World} {h : List Au.Ev} {X : Option Addr} {c : Nat} {hs : List Au.Ev} {w3 w4 : World} (t : Au.Tw w0 h h.length X c hs w3) (hb : Below w3.heap.size w3 w4) {A2 : Option Addr} {c2 : Nat} {ws : List Vec.Ent}
    (hw : Mem.Rd w4 w4.heap.size A2 (ws.flatMap Vec.entCells)) (hwl : ws.length ≤ c2) (hwc : c2 ≤ 9223372036854775807) (hn : h.length ≤ 1000000) (hd : ∀ e ∈ h, Au.okI e.cl ∧ e.res.length ≤ 703687441776) :
    Calls Try.prog 12 #[.slice X h.length c, .slice A2 ws.length c2] w4 fun x w' => ∃ Y cy, x = .returned (.slice Y (Au.findL h ws).length cy) ∧ Mem.Own w' 50 2 Y (Au.findL h ws).length cy ((Au.findL h ws).flatMap Au.fiCells) ∧ Mem.From w4.heap.size Y ∧ Below w4.heap.size w4 w' := by
  have hl := t.len
  rw [← t.finds ws, ← hl]
  refine checkL_any ((t.o.rd.below hb).more hb.size) hw (fun e he => ?_) t.o.le hwl t.o.cap hwc (by omega)
  obtain ⟨e0, he0, hbe⟩ := t.mem he
  refine ⟨((t.e e he).below hb).ok, ?_, ?_⟩
  · rw [Au.bare_cl hbe]; exact (hd e0 he0).1
  · rw [Au.bare_res hbe]; exact (hd e0 he0).2
namespace Au
/-- the place at which a history is cut -/
theorem cut_nums {L : Nat} (h : L ≤ 360) (t : Int) : ∃ n : Nat, n ≤ L ∧ (wrap64 (wrap64 (Int.tmod t ((L : Int) + 1) + L) + 1)).tmod ((L : Int) + 1) = n := by
  have h1 : -((L : Int) + 1) < Int.tmod t ((L : Int) + 1) ∧ Int.tmod t ((L : Int) + 1) < (L : Int) + 1 := by
    refine ⟨?_, Int.tmod_lt_of_pos _ (by omega)⟩
    rcases Int.le_total 0 t with h | h
    · have := Int.tmod_nonneg ((L : Int) + 1) h; omega
    · have h2 := Int.tmod_lt_of_pos (-t) (b := (L : Int) + 1) (by omega)
      rw [Int.neg_tmod] at h2
      omega
  have h2 : wrap64 (Int.tmod t ((L : Int) + 1) + L) = Int.tmod t ((L : Int) + 1) + L := IntWalk.wrap64_in _ (by omega)
  have h3 : wrap64 (Int.tmod t ((L : Int) + 1) + L + 1) = Int.tmod t ((L : Int) + 1) + L + 1 := IntWalk.wrap64_in _ (by omega)
  rw [h2, h3]
  have h4 := Int.tmod_nonneg (a := Int.tmod t ((L : Int) + 1) + L + 1) ((L : Int) + 1) (by omega)
  have h5 := Int.tmod_lt_of_pos (Int.tmod t ((L : Int) + 1) + L + 1) (b := (L : Int) + 1) (by omega)
  exact ⟨(Int.tmod (Int.tmod t ((L : Int) + 1) + L + 1) ((L : Int) + 1)).toNat, by omega, by omega⟩
def wantL (n : Nat) (l : List Fi) : List Fi := l.filter fun f => decide (f.ev < (n : Int))
theorem want_snoc (n : Nat) (l : List Fi) (f : Fi) : wantL n (l ++ [f]) = wantL n l ++ (if f.ev < (n : Int) then [f] else []) := by
  unfold wantL
  rw [List.filter_append, List.filter_cons]
  by_cases h : f.ev < (n : Int)
  · rw [if_pos h, if_pos (by simpa using h)]; rfl
  · rw [if_neg h, if_neg (by simpa using h)]; rfl
structure RuRel (w : World) (n : Nat) (l : List Fi) (X : Option Addr) (v9 vi : Value) (wr : World) : Prop where
  out : ∃ (k : Nat) (Y : Option Addr) (c : Nat), k ≤ l.length ∧ v9 = .slice Y (wantL n (l.take k)).length c ∧ vi = .int .i64 k ∧ Hid (Mem.Own wr 50 2 Y (wantL n (l.take k)).length c ((wantL n (l.take k)).flatMap fiCells)) ∧ Hid (Mem.From w.heap.size Y) ∧
    Hid (Mem.Rd wr wr.heap.size X (l.flatMap fiCells)) ∧ Hid (∀ q, Mem.blk Y = some q → Mem.blk X ≠ some q) ∧ Hid (Below w.heap.size w wr)
end Au
namespace auditRulesOpen
open Au
set_option maxRecDepth 20000 in
set_option maxHeartbeats 8000000 in
theorem walk (A : Option Addr) (c : Nat) (h : List Ev) (A2 : Option Addr) (c2 : Nat) (ws : List Vec.Ent) (kk : Int) (w : World) (hr : Mem.Rd w w.heap.size A (h.flatMap evCells)) (hr2 : Mem.Rd w w.heap.size A2 (ws.flatMap Vec.entCells)) (hl : h.length ≤ c) (hc : c ≤ 8796093022208) (hn2 : ws.length ≤ 8796093022208) (hd : ∀ e ∈ h, EvIn w e) (hd2 : ∀ e ∈ ws, Vec.EntIn e) :
    Calls Try.prog 6 #[.slice A h.length c, .slice A2 ws.length c2, .int .i64 kk] w fun e w' => e = .returned (.bool true) ∧ Below w.heap.size w w' := by
  go_enter Try.func6, Try.ntmps6
  have HR := Lib.hid hr
  have HD := Lib.hid hd
  have HR2 := Lib.hid hr2
  have HD2 := Lib.hid hd2
  clear hr hd hr2 hd2
  go_wp2_with fail
  refine (auditAble_any w).mono ?_
  rintro x w1 ⟨rfl, hb1⟩
  have HB1 := Lib.hid hb1
  clear hb1
  go_wp2_with fail
  refine (muchA_any A c h A2 c2 ws w w1 HR.out HR2.out (by omega) (by omega) HD.out HD2.out HB1.out).mono ?_
  rintro x w2 ⟨b, rfl, hbn, hb2⟩
  have HB2 := Lib.hid (HB1.out.trans (hb2.mono HB1.out.size))
  clear hb2 HB1
  by_cases hyes : b = true
  · subst hyes
    go_wp2
    go_ret
    exact ⟨rfl, HB2.out⟩
  · obtain rfl : b = false := by cases b; rfl; exact absurd rfl hyes
    have hn3 : h.length + ws.length ≤ 360 := hbn rfl
    clear hyes hbn
    have hol := Vec.ents_len ws
    have hoo := Vec.ents_one ws
    have HIN : Hid (∀ e ∈ h, okI e.cl ∧ e.res.length ≤ 703687441776) := fun e he => ⟨(HD.out e he).cl, (HD.out e he).rn⟩
    have HTK : Hid (∀ e ∈ h, EvOk w w.heap.size e ∧ e.keys.length ≤ 8796093022208 ∧ e.res.length ≤ 703687441776) := fun e he => ⟨(HD.out e he).ok, (HD.out e he).kn, (HD.out e he).rn⟩
    obtain ⟨l, hl0⟩ : ∃ l, findL h ws = l := ⟨_, rfl⟩
    have HLD := Lib.hid hl0
    clear hl0
    go_upto_region 6 with (first
      | (go_at_call 11; (refine (twin_any A c h w.heap.size w w2 HR.out HTK.out (by omega) HB2.out HB2.out.size).mono ?_); rintro x w3 ⟨X3, c3, hs3, rfl, ht3⟩; have HT3 := Lib.hid ht3; have HB3 := Lib.hid (HB2.out.trans (ht3.bl.mono HB2.out.size)); clear ht3)
      | (at_builtin; refine Mem.wpList_clone _ rfl (.tmp 18) (.tmp 19) _ rfl entries_elem _ rfl w3 w3.heap.size A2 ws.length c2 (ws.flatMap Vec.entCells) rfl ?_ rfl (Below.refl _ _) (Nat.le_refl _) ((HR2.out.below HB3.out).more HB3.out.size) hol hoo (by unfold maxLen; omega) (by omega); intro A4 c4 w4 hown hb4 hs4 hf4; have HO4 := Lib.hid hown; have HB4 := Lib.hid hb4; clear hown hb4 hs4 hf4)
      | (go_at_call 12; (refine (twCheck_any HT3.out HB4.out HO4.out.rd HO4.out.le HO4.out.cap (by omega) HIN.out).mono ?_); rintro x w5 ⟨X5, c5, rfl, ho5, hf5, hb5⟩; have HO5 := Lib.hid ho5; have HF5 := Lib.hid hf5; have HB5 := Lib.hid (HB3.out.trans ((HB4.out.trans (hb5.mono HB4.out.size)).mono HB3.out.size)); clear ho5 hf5 hb5))
    rw [HLD.out] at HO5
    rw [HLD.out]
    clear HT3 HB3 HB4 HO4
    have HNF : Hid (∀ h' : List Ev, h'.length ≤ h.length → (findL h' ws).length ≤ 1000000000) := fun h' hh => by
      rw [findL_eq]
      have h1 := stC_le (kOf h' ws) h'.length
      omega
    have hl9 : l.length ≤ 1000000000 := by rw [← HLD.out]; exact HNF.out h (Nat.le_refl _)
    have HFI : Hid (∀ f ∈ l, 0 ≤ f.ev ∧ f.ev < (h.length : Int) ∧ 1 ≤ f.rule ∧ f.rule ≤ 9) := by show ∀ f ∈ l, _; rw [← HLD.out, findL_eq]; exact fi_in _ _
    have HUP : Hid (l.Pairwise fiLt) := by show List.Pairwise _ _; rw [← HLD.out, findL_eq]; exact fi_up _ _
    by_cases hL : h.length = 0
    · obtain rfl : l = [] := by
        refine List.eq_nil_of_length_eq_zero ?_
        rw [← HLD.out, findL_eq]
        have := stC_le (kOf h ws) h.length
        omega
      have d7 : decide (0 < h.length) = false := decide_eq_false (by omega)
      have d70 : (0 < h.length) = False := eq_false (by omega)
      have HNL : Hid (0 ≤ h.length) := Nat.zero_le _
      have HWT : Hid (wantL 0 ([] : List Fi) = findL (h.take 0) ws) := rfl
      clear hL
      go_wp2
      go_loopw [9, 10] (RuRel w 0 [] X5) (fun _ t _ => 1 - (intOf t).toNat)
      case atStart => exact ⟨⟨0, none, 0, by omega, rfl, rfl, Mem.Own.nil _ _ _, Mem.From.none_ _, HO5.out.rd, (fun q hq => by cases hq), HB5⟩⟩
      case round =>
        clear HO5 HB5
        obtain ⟨k, Y, cy, hk, rfl, rfl, HO, HF, HRX, HX, HB⟩ := hrel.out
        clear hrel
        obtain rfl : k = 0 := Nat.le_zero.1 hk
        have hwt : wantL 0 (([] : List Fi).take 0) = findL (h.take 0) ws := HWT.out
        rw [hwt] at HO ⊢
        clear hwt
        have HTN : Hid (∀ e ∈ h.take 0, EvOk wr w.heap.size e ∧ e.keys.length ≤ 8796093022208 ∧ e.res.length ≤ 703687441776) := fun e he => ⟨((HTK.out e (List.mem_of_mem_take he)).1.below HB.out (Nat.le_refl _)), (HTK.out e (List.mem_of_mem_take he)).2⟩
        have HIN2 : Hid (∀ e ∈ h.take 0, okI e.cl ∧ e.res.length ≤ 703687441776) := fun e he => HIN.out e (List.mem_of_mem_take he)
        have htl : (h.take 0).length = 0 := by rw [List.length_take]; exact Nat.min_eq_left HNL.out
        have HTL := Lib.hid htl
        have htn : 0 ≤ 360 := by have := HNL.out; omega
        have HRD : Hid (Mem.Rd wr w.heap.size A ((h.take 0).flatMap evCells)) := by
          have h1 := (HR.out.below HB.out).take (0 * 20)
          rw [Mem.flat_take evCells_length] at h1
          exact h1
        have hnc : 0 ≤ c := by have := HNL.out; omega
        have s5 := fun s => sliced_front (A := A) (c := c) s 0
        have HTWN : Hid (Calls Try.prog 11 #[.slice A 0 c] wr fun x w' => ∃ X c hs, x = .returned (.slice X 0 c) ∧ Tw wr (h.take 0) (h.take 0).length X c hs w') := by
          have h1 := twin_any A c (h.take 0) w.heap.size wr wr HRD.out HTN.out (by rw [HTL.out]; omega) (Below.refl _ _) HB.out.size
          rw [HTL.out] at h1
          refine h1.mono ?_
          rintro x w' ⟨X, c, hs, hx, ht⟩
          rw [HTL.out] at hx ht
          exact ⟨X, c, hs, hx, by rw [HTL.out]; exact ht⟩
        clear htl
        go_wp2_with (first
          | (go_at_call 11; (refine HTWN.out.mono ?_); rintro x w6 ⟨X6, c6, hs6, rfl, ht6⟩; have HT6 := Lib.hid ht6; have HB6 := Lib.hid (HB.out.trans (ht6.bl.mono HB.out.size)); clear ht6)
          | (at_builtin; refine Mem.wpList_clone _ rfl (.tmp 139) (.tmp 140) _ rfl entries_elem _ rfl w6 w6.heap.size A2 ws.length c2 (ws.flatMap Vec.entCells) rfl ?_ rfl (Below.refl _ _) (Nat.le_refl _) ((HR2.out.below HB6.out).more HB6.out.size) hol hoo (by unfold maxLen; omega) (by omega); intro A7 c7 w7 hown hb7 hs7 hf7; have HO7 := Lib.hid hown; have HB7 := Lib.hid hb7; clear hown hb7 hs7 hf7)
          | (go_at_call 12; (have HCC := Lib.hid (twCheck_any HT6.out HB7.out HO7.out.rd HO7.out.le HO7.out.cap (by rw [HTL.out]; omega) HIN2.out)); rw [HTL.out] at HCC; (refine HCC.out.mono ?_); rintro x w8 ⟨X8, c8, rfl, ho8, hf8, hb8⟩; have HO8 := Lib.hid ho8; have HB68 := Lib.hid (HB7.out.trans (hb8.mono HB7.out.size)); have HB8 := Lib.hid (HB6.out.trans (HB68.out.mono HB6.out.size)); have HR68 := Lib.hid (HB68.out.mono HT6.out.bl.size); have HBS := Lib.hid (Nat.le_trans HT6.out.bl.size HB68.out.size); clear ho8 hf8 hb8 HCC)
          | (go_at_call 13; (refine (findings_any Y cy (findL (h.take 0) ws) X8 c8 (findL (h.take 0) ws) w8.heap.size w8 ?hfa HO8.out.rd (Nat.le_refl _) ?hfb ?hfc).mono ?_); (case hfa => exact (HO.out.rd.below (HT6.out.bl.trans HR68.out)).more HBS.out); (case hfb => exact HNF.out (h.take 0) (List.length_take_le' _ _)); (case hfc => exact HNF.out (h.take 0) (List.length_take_le' _ _)); rintro x w9 ⟨bb, rfl, hbb, hb9⟩; have HB9 := Lib.hid (HB8.out.trans (hb9.mono HB8.out.size)); have HBB := Lib.hid hbb; clear hbb hb9))
        obtain rfl : bb = true := by first | exact HBB.out.2 rfl | exact HBB.out.2 trivial
        go_ret
        exact ⟨rfl, HB9.out⟩
    · have d7 : decide ((0 : Int) < (h.length : Int)) = true := by simp; omega
      have hLne : ((h.length : Int) + 1) ≠ 0 := by omega
      have hL63 : wrap64 ((h.length : Int) + 1) = (h.length : Int) + 1 := IntWalk.wrap64_in _ (by omega)
      go_upto_region 9 with fail
      obtain ⟨n, hnl, hne⟩ := cut_nums (L := h.length) (by omega) kk
      rw [hne]
      have HNL := Lib.hid hnl
      have HWT : Hid (wantL n l = findL (h.take n) ws) := by show _ = _; rw [← findL_take h ws n hnl, HLD.out]; rfl
      clear hne hnl d7 hLne hL63 hL
      generalize decide (0 < h.length) = b24
      go_wp2
      go_loopw [9, 10] (RuRel w n l X5) (fun _ t _ => l.length - (intOf t).toNat)
      case atStart => exact ⟨⟨0, none, 0, by omega, rfl, rfl, Mem.Own.nil _ _ _, Mem.From.none_ _, HO5.out.rd, (fun q hq => by cases hq), HB5⟩⟩
      case round =>
        clear HO5 HB5
        obtain ⟨k, Y, cy, hk, rfl, rfl, HO, HF, HRX, HX, HB⟩ := hrel.out
        clear hrel
        by_cases hlt : k < l.length
        · obtain ⟨b, o, f, rfl, hb, hf, hat⟩ := fi_elem HRX.out hlt
          have d0 : decide ((k : Int) < (l.length : Int)) = true := by simp; omega
          have x0 : wr.cell? ⟨b, o + k * 2, none⟩ = some (.int .i64 f.ev) := hat 0 _ rfl
          have x1 : wr.cell? ⟨b, o + k * 2 + 1, none⟩ = some (.int .i64 f.rule) := hat 1 _ rfl
          have hfi := HFI.out f (List.mem_of_getElem? hf)
          have d1 : decide (f.ev < 0) = false := by simp; omega
          have d2 : decide ((h.length : Int) ≤ f.ev) = false := by simp; omega
          have d3 : decide (f.rule < 1) = false := by simp; omega
          have d4 : decide (9 < f.rule) = false := by simp; omega
          have HLT := Lib.hid hlt
          have HFK := Lib.hid hf
          have HAT := Lib.hid hat
          have HW1 := Lib.hid (show wantL n (l.take (k + 1)) = wantL n (l.take k) ++ (if f.ev < (n : Int) then [f] else []) by rw [Mem.take_snoc hf, want_snoc])
          have HWL : Hid ((wantL n (l.take k)).length + 1 ≤ 1000000001) := by
            have h1 := List.length_filter_le (fun f : Fi => decide (f.ev < (n : Int))) (l.take k)
            have h2 := List.length_take_le k l
            show (wantL n (l.take k)).length + 1 ≤ _
            unfold wantL
            omega
          go_upto_region 15 with fail
          go_cut [119] (fun v wx => v = .bool false ∧ Below wr.heap.size wr wx)
          case first =>
            clear x1 d1 d2 d3 d4 hfi
            match k, hk, HFK, HLT, HAT with
            | 0, hk, HFK, HLT, HAT =>
              go_wp2
              go_quiet (fail)
              go_wp2
              go_meet
              case rel => exact ⟨rfl, Mem.below_drewN (Below.refl _ _) _⟩
            | j + 1, hk, HFK, HLT, HAT =>
              obtain ⟨b2, o2, g, hA2, _, hg, hat2⟩ := fi_elem HRX.out (show j < l.length by omega)
              obtain ⟨rfl, rfl⟩ : b2 = b ∧ o2 = o := by cases hA2; exact ⟨rfl, rfl⟩
              have y0 : wr.cell? ⟨b2, o2 + j * 2, none⟩ = some (.int .i64 g.ev) := hat2 0 _ rfl
              have y1 : wr.cell? ⟨b2, o2 + j * 2 + 1, none⟩ = some (.int .i64 g.rule) := hat2 1 _ rfl
              have x0 : wr.cell? ⟨b2, o2 + (j + 1) * 2, none⟩ = some (.int .i64 f.ev) := HAT.out 0 _ rfl
              have x1 : wr.cell? ⟨b2, o2 + (j + 1) * 2 + 1, none⟩ = some (.int .i64 f.rule) := HAT.out 1 _ rfl
              have hgf : fiLt g f := by
                have h1 := List.pairwise_iff_getElem.1 HUP.out j (j + 1) (by omega) HLT.out (by omega)
                obtain ⟨_, h2⟩ := List.getElem?_eq_some_iff.1 hg
                obtain ⟨_, h3⟩ := List.getElem?_eq_some_iff.1 HFK.out
                rwa [h2, h3] at h1
              have hlj : j + 1 < l.length := HLT.out
              have hw : IntKind.i64.wrap (((j + 1 : Nat) : Int) - 1) = (j : Int) := by rw [IntWalk.i64_in _ (by omega)]; omega
              have d5 : decide (f.ev < g.ev) = false := by unfold fiLt at hgf; simp; omega
              by_cases he6 : f.ev = g.ev
              · have d6 : (f.ev == g.ev) = true := by simpa using he6
                have d7 : decide (f.rule ≤ g.rule) = false := by unfold fiLt at hgf; simp; omega
                clear hA2 hg hat2 hgf he6
                go_wp2
                go_quiet (fail)
                go_wp2
                go_meet
                case rel => exact ⟨rfl, Mem.below_drewN (Below.refl _ _) _⟩
              · have d6 : (f.ev == g.ev) = false := by simpa using he6
                clear hA2 hg hat2 hgf he6
                go_wp2
                go_quiet (fail)
                go_wp2
                go_meet
                case rel => exact ⟨rfl, Mem.below_drewN (Below.refl _ _) _⟩
          case rest =>
            obtain ⟨rfl, hbc⟩ := hcut
            rename World => wy
            have HZY := Lib.hid hbc.size
            have x0' : wy.cell? ⟨b, o + k * 2, none⟩ = some (.int .i64 f.ev) := (hbc.cell (p := ⟨b, o + k * 2, none⟩) hb).trans x0
            have HATY : Hid (∀ j u, (fiCells f)[j]? = some u → wy.cell? ⟨b, o + k * 2 + j, none⟩ = some u) := fun j u hu => (hbc.cell (p := ⟨b, o + k * 2 + j, none⟩) hb).trans (HAT.out j u hu)
            have HOY := Lib.hid (HO.out.below hbc (fun q hq => HO.out.lt hq))
            have HRY : Hid (Mem.Rd wy wy.heap.size (some ⟨b, o, none⟩) (l.flatMap fiCells)) := (HRX.out.below hbc).more hbc.size
            have HBY : Hid (Below w.heap.size w wy) := HB.out.trans (hbc.mono HB.out.size)
            clear hbc x0 x1 d1 d2 d3 d4 hfi hat hf HO HRX HB
            by_cases hfn : f.ev < (n : Int)
            · have d8 : decide (f.ev < (n : Int)) = true := by simpa using hfn
              have HW2 : Hid (wantL n (l.take (k + 1)) = wantL n (l.take k) ++ [f]) := by show _ = _; rw [HW1.out, if_pos hfn]
              have hn63 : (wantL n (l.take k)).length + 1 ≤ maxLen := by have := HWL.out; unfold maxLen; omega
              have hn47 : ((wantL n (l.take k)).length + 1) * 16 ≤ 140737488355328 := by have := HWL.out; omega
              clear hfn HW1
              go_upto_region 12 with (first
                | ((with_reducible refine Mem.load_agg _ _ finding_agg b (o + k * 2) (fiCells f) ?hx (fiCells_length f) HATY.out ?_); case hx => exact rfl)
                | ((with_reducible refine Mem.build1_agg _ _ 2 _ Try.underlying36 finding_zero (by decide) (by decide) (fiCells f) ?hra (fiCells_length _) ?_); (case hra => exact rfl))
                | (at_builtin; refine Mem.wpList_app _ rfl (.tmp 127) (.tmp 132) _ rfl findings_elem Y (wantL n (l.take k)).length cy _ rfl (wy.heap.size + 1) (some ⟨wy.heap.size, 0, none⟩) 1 1 (fiCells f) rfl ?_ (HOY.out.alloc _) (Mem.Rd.alloc_new wy _ _ _ rfl) rfl (fi_one _) hn63 hn47; intro Y3 c3 w9 hown hg4 hat9; have HO9 := Lib.hid hown; have HG9 := Lib.hid hg4; have HAT9 := Lib.hid hat9; clear hown hg4 hat9))
              have hk9 : Mem.Keeps (fun q => Mem.blk Y = some q) wy w9 := ((Mem.Keeps.refl (fun q => Mem.blk Y = some q) wy).alloc _).grown HG9.out (fun k hk _ => hk)
              have hz9 : (wy.alloc (.cells (fiCells f).toArray 50)).heap.size = wy.heap.size + 1 := Array.size_push _
              have HB9 : Hid (Below w.heap.size w w9) := HBY.out.trans (hk9.below (fun q hq => HF.out.blk q hq) HBY.out.size)
              have HR9 : Hid (Mem.Rd w9 w9.heap.size (some ⟨b, o, none⟩) (l.flatMap fiCells)) := HRY.out.keepsAt hk9 (Nat.le_refl _) (fun q hq h => HX.out q h hq)
              have HF9 : Hid (Mem.From w.heap.size Y3 ∧ ∀ q, Mem.blk Y3 = some q → Mem.blk (some (⟨b, o, none⟩ : Addr)) ≠ some q) := by
                rcases HAT9.out with h1 | h1
                · rw [h1]; exact ⟨HF.out, HX.out⟩
                · rw [h1]
                  have h2 := HBY.out.size
                  refine ⟨Mem.From.some_ (by omega), fun q hq h3 => ?_⟩
                  have h4 : wy.heap.size ≤ q := Nat.le_trans (Nat.le_trans (Nat.le_succ _) (Nat.le_of_eq hz9.symm)) (Nat.le_of_eq (Option.some.inj hq))
                  have h5 : b = q := Option.some.inj h3
                  have h6 : b < wr.heap.size := hb
                  have h7 : wr.heap.size ≤ wy.heap.size := HZY.out
                  omega
              have e1 : (wantL n (l.take (k + 1))).length = (wantL n (l.take k)).length + 1 := by rw [HW2.out]; exact List.length_append
              have HO10 : Hid (Mem.Own w9 50 2 Y3 (wantL n (l.take (k + 1))).length c3 ((wantL n (l.take (k + 1))).flatMap fiCells)) := by
                show Mem.Own _ _ _ _ _ _ _
                rw [e1, HW2.out, List.flatMap_append]
                exact HO9.out
              have E1 := Lib.hid e1
              clear hk9 hz9 e1 HO9 HG9 HAT9 hn63 hn47 HOY HRY HBY
              go_wp2
              go_roundw
              case rel => exact ⟨⟨k + 1, Y3, c3, HLT.out, by rw [E1.out], by go_num, HO10, HF9.out.1, HR9, HF9.out.2, HB9⟩⟩
              case measure => exact Au.meas_lt HLT.out
            · have d8 : decide (f.ev < (n : Int)) = false := by simpa using hfn
              have HW2 : Hid (wantL n (l.take (k + 1)) = wantL n (l.take k)) := by show _ = _; rw [HW1.out, if_neg hfn, List.append_nil]
              clear hfn HW1
              go_wp2
              go_roundw
              case rel => exact ⟨⟨k + 1, Y, cy, HLT.out, by rw [HW2.out], by go_num, by rw [HW2.out]; exact HOY, HF, HRY, HX, HBY⟩⟩
              case measure => exact Au.meas_lt HLT.out
        · obtain rfl : k = l.length := by omega
          have d0 : decide ((l.length : Int) < (l.length : Int)) = false := by simp
          have hwt : wantL n (l.take l.length) = findL (h.take n) ws := by rw [List.take_length]; exact HWT.out
          rw [hwt] at HO ⊢
          clear hwt
          have HTN : Hid (∀ e ∈ h.take n, EvOk wr w.heap.size e ∧ e.keys.length ≤ 8796093022208 ∧ e.res.length ≤ 703687441776) := fun e he => ⟨((HTK.out e (List.mem_of_mem_take he)).1.below HB.out (Nat.le_refl _)), (HTK.out e (List.mem_of_mem_take he)).2⟩
          have HIN2 : Hid (∀ e ∈ h.take n, okI e.cl ∧ e.res.length ≤ 703687441776) := fun e he => HIN.out e (List.mem_of_mem_take he)
          have htl : (h.take n).length = n := by rw [List.length_take]; exact Nat.min_eq_left HNL.out
          have HTL := Lib.hid htl
          have htn : n ≤ 360 := by have := HNL.out; omega
          have HRD : Hid (Mem.Rd wr w.heap.size A ((h.take n).flatMap evCells)) := by
            have h1 := (HR.out.below HB.out).take (n * 20)
            rw [Mem.flat_take evCells_length] at h1
            exact h1
          have hnc : n ≤ c := by have := HNL.out; omega
          have s5 := fun s => sliced_front (A := A) (c := c) s n
          have HTWN : Hid (Calls Try.prog 11 #[.slice A n c] wr fun x w' => ∃ X c hs, x = .returned (.slice X n c) ∧ Tw wr (h.take n) (h.take n).length X c hs w') := by
            have h1 := twin_any A c (h.take n) w.heap.size wr wr HRD.out HTN.out (by rw [HTL.out]; omega) (Below.refl _ _) HB.out.size
            rw [HTL.out] at h1
            refine h1.mono ?_
            rintro x w' ⟨X, c, hs, hx, ht⟩
            rw [HTL.out] at hx ht
            exact ⟨X, c, hs, hx, by rw [HTL.out]; exact ht⟩
          clear htl
          go_wp2_with (first
            | (go_at_call 11; (refine HTWN.out.mono ?_); rintro x w6 ⟨X6, c6, hs6, rfl, ht6⟩; have HT6 := Lib.hid ht6; have HB6 := Lib.hid (HB.out.trans (ht6.bl.mono HB.out.size)); clear ht6)
            | (at_builtin; refine Mem.wpList_clone _ rfl (.tmp 139) (.tmp 140) _ rfl entries_elem _ rfl w6 w6.heap.size A2 ws.length c2 (ws.flatMap Vec.entCells) rfl ?_ rfl (Below.refl _ _) (Nat.le_refl _) ((HR2.out.below HB6.out).more HB6.out.size) hol hoo (by unfold maxLen; omega) (by omega); intro A7 c7 w7 hown hb7 hs7 hf7; have HO7 := Lib.hid hown; have HB7 := Lib.hid hb7; clear hown hb7 hs7 hf7)
            | (go_at_call 12; (have HCC := Lib.hid (twCheck_any HT6.out HB7.out HO7.out.rd HO7.out.le HO7.out.cap (by rw [HTL.out]; omega) HIN2.out)); rw [HTL.out] at HCC; (refine HCC.out.mono ?_); rintro x w8 ⟨X8, c8, rfl, ho8, hf8, hb8⟩; have HO8 := Lib.hid ho8; have HB68 := Lib.hid (HB7.out.trans (hb8.mono HB7.out.size)); have HB8 := Lib.hid (HB6.out.trans (HB68.out.mono HB6.out.size)); have HR68 := Lib.hid (HB68.out.mono HT6.out.bl.size); have HBS := Lib.hid (Nat.le_trans HT6.out.bl.size HB68.out.size); clear ho8 hf8 hb8 HCC)
            | (go_at_call 13; (refine (findings_any Y cy (findL (h.take n) ws) X8 c8 (findL (h.take n) ws) w8.heap.size w8 ?hfa HO8.out.rd (Nat.le_refl _) ?hfb ?hfc).mono ?_); (case hfa => exact (HO.out.rd.below (HT6.out.bl.trans HR68.out)).more HBS.out); (case hfb => exact HNF.out (h.take n) (List.length_take_le' _ _)); (case hfc => exact HNF.out (h.take n) (List.length_take_le' _ _)); rintro x w9 ⟨bb, rfl, hbb, hb9⟩; have HB9 := Lib.hid (HB8.out.trans (hb9.mono HB8.out.size)); have HBB := Lib.hid hbb; clear hbb hb9))
          obtain rfl : bb = true := by first | exact HBB.out.2 rfl | exact HBB.out.2 trivial
          go_ret
          exact ⟨rfl, HB9.out⟩
set_option maxRecDepth 20000 in
theorem opened {H : Type} (enc : TypeId × Value → H) (W : World) (base : Nat) (v0 v1 v2 : Value) {d0 d1 d2 : DataW H} {p0 p1 p2 : List MemPlace}
    (o0 : Value.okWide Try.prog W .any base 22 v0) (o1 : Value.okWide Try.prog W .any base 23 v1) (o2 : Value.okWide Try.prog W .any base 3 v2)
    (k0 : DataW.Trod enc Try.prog W 0 (fun _ => true) true 22 v0 d0 p0) (k1 : DataW.Trod enc Try.prog W 0 (fun _ => true) true 23 v1 d1 p1) (k2 : DataW.Trod enc Try.prog W 0 (fun _ => true) true 3 v2 d2 p2)
    (z0 : (d0.weights Try.prog 22).all (· ≤ reachBytes) = true) (z1 : (d1.weights Try.prog 23).all (· ≤ reachBytes) = true) (z2 : (d2.weights Try.prog 3).all (· ≤ reachBytes) = true) :
    Calls Try.prog 6 #[v0, v1, v2] W fun e w' => e = .returned (.bool true) ∧ Below W.heap.size W w' := by
  obtain ⟨A, c, h, rfl, h1, h2, h3, h4⟩ := open_events o0 k0 z0
  obtain ⟨A2, c2, ws, rfl, g1, g2, g3, g4⟩ := open_ents o1 k1 z1
  obtain ⟨n, rfl⟩ := okWide_int Try.underlying3 o2
  exact walk A c h A2 c2 ws n W h3 g3 h1 h2 (by omega) h4 g4
end auditRulesOpen
end Go.Proofs.Ytelephoalpphkaa
