/- Several texts of this proof in one file, in the order in which they build: Aud34, AudW0, AudW1, AuditWritesP. No conditions but those that each theorem names. -/
import Derived.Test.YtelephoalpphkaaMgV
import Derived.Test.YtelephoalpphkaaAud27
import Derived.WalkKit
import Derived.ProofKit
import Derived.OpenShut
import Derived.ShutString
import Derived.ChangeOld
import Derived.Below
import Derived.SizedLaws
section
/- A history in new memory, checked; the walk of AuditRules. No conditions. -/
set_option maxRecDepth 8000
namespace Go.Proofs.Ytelephoalpphkaa
open Go.ChangeShapes Go.WideShapes Go.ChangeAt Go.RowKit
set_option linter.unusedVariables false
set_option linter.unusedSimpArgs false
namespace Au
theorem Tw.mem {w : World} {h : List Ev} {k : Nat} {X : Option Addr} {c : Nat} {hs : List Ev} {wr : World} (t : Tw w h k X c hs wr) {x : Ev} (hx : x ∈ hs) : ∃ e ∈ h, bare x = bare e := by
  have h1 : bare x ∈ (h.take k).map bare := by rw [← t.b]; exact List.mem_map_of_mem hx
  obtain ⟨e, he, h2⟩ := List.mem_map.1 h1
  exact ⟨e, List.mem_of_mem_take he, h2.symm⟩
theorem bare_cl {a b : Ev} (h : bare a = bare b) : a.cl = b.cl := by show (bare a).cl = (bare b).cl; rw [h]
theorem bare_res {a b : Ev} (h : bare a = bare b) : a.res = b.res := by show (bare a).res = (bare b).res; rw [h]
theorem bare_op {a b : Ev} (h : bare a = bare b) : a.op = b.op := by show (bare a).op = (bare b).op; rw [h]
theorem bare_cut {a b : Ev} (h : bare a = bare b) : a.cut = b.cut := by show (bare a).cut = (bare b).cut; rw [h]
theorem Tw.finds {w : World} {h : List Ev} {X : Option Addr} {c : Nat} {hs : List Ev} {wr : World} (t : Tw w h h.length X c hs wr) (ws : List Vec.Ent) : findL hs ws = findL h ws :=
  findL_congr (by rw [t.b, List.take_length]) ws
end Au
/-- a history in new memory is checked -/
theorem twCheck_any {w0 : World} {h : List Au.Ev} {X : Option Addr} {c : Nat} {hs : List Au.Ev} {w3 w4 : World} (t : Au.Tw w0 h h.length X c hs w3) (hb : Below w3.heap.size w3 w4) {A2 : Option Addr} {c2 : Nat} {ws : List Vec.Ent}
    (hw : Mem.Rd w4 w4.heap.size A2 (ws.flatMap Vec.entCells)) (hwl : ws.length ≤ c2) (hwc : c2 ≤ 9223372036854775807) (hn : h.length ≤ 1000000) (hd : ∀ e ∈ h, Au.okI e.cl ∧ e.res.length ≤ 703687441776) :
    Calls Try.prog 12 #[.slice X h.length c, .slice A2 ws.length c2] w4 fun x w' => ∃ Y cy, x = .returned (.slice Y (Au.findL h ws).length cy) ∧ Mem.Own w' 50 2 Y (Au.findL h ws).length cy ((Au.findL h ws).flatMap Au.fiCells) ∧ Mem.From w4.heap.size Y ∧ Below w4.heap.size w4 w' := by
  have hl := t.len
  rw [← t.finds ws, ← hl]
  refine checkL_any ((t.o.rd.below hb).more hb.size) hw (fun e he => ?_) t.o.le hwl t.o.cap hwc (by omega)
  obtain ⟨e0, he0, hbe⟩ := t.mem he
  refine ⟨((t.e e he).below hb).ok, ?_, ?_⟩
  · rw [Au.bare_cl hbe]; exact (hd e0 he0).1
  · rw [Au.bare_res hbe]; exact (hd e0 he0).2
namespace Au
/-- the place at which a history is cut -/
theorem cut_nums {L : Nat} (h : L ≤ 360) (t : Int) : ∃ n : Nat, n ≤ L ∧ (wrap64 (wrap64 (Int.tmod t ((L : Int) + 1) + L) + 1)).tmod ((L : Int) + 1) = n := by
  have h1 : -((L : Int) + 1) < Int.tmod t ((L : Int) + 1) ∧ Int.tmod t ((L : Int) + 1) < (L : Int) + 1 := by
    refine ⟨?_, Int.tmod_lt_of_pos _ (by omega)⟩
    rcases Int.le_total 0 t with h | h
    · have := Int.tmod_nonneg ((L : Int) + 1) h; omega
    · have h2 := Int.tmod_lt_of_pos (-t) (b := (L : Int) + 1) (by omega)
      rw [Int.neg_tmod] at h2
      omega
  have h2 : wrap64 (Int.tmod t ((L : Int) + 1) + L) = Int.tmod t ((L : Int) + 1) + L := IntWalk.wrap64_in _ (by omega)
  have h3 : wrap64 (Int.tmod t ((L : Int) + 1) + L + 1) = Int.tmod t ((L : Int) + 1) + L + 1 := IntWalk.wrap64_in _ (by omega)
  rw [h2, h3]
  have h4 := Int.tmod_nonneg (a := Int.tmod t ((L : Int) + 1) + L + 1) ((L : Int) + 1) (by omega)
  have h5 := Int.tmod_lt_of_pos (Int.tmod t ((L : Int) + 1) + L + 1) (b := (L : Int) + 1) (by omega)
  exact ⟨(Int.tmod (Int.tmod t ((L : Int) + 1) + L + 1) ((L : Int) + 1)).toNat, by omega, by omega⟩
def wantL (n : Nat) (l : List Fi) : List Fi := l.filter fun f => decide (f.ev < (n : Int))
theorem want_snoc (n : Nat) (l : List Fi) (f : Fi) : wantL n (l ++ [f]) = wantL n l ++ (if f.ev < (n : Int) then [f] else []) := by
  unfold wantL
  rw [List.filter_append, List.filter_cons]
  by_cases h : f.ev < (n : Int)
  · rw [if_pos h, if_pos (by simpa using h)]; rfl
  · rw [if_neg h, if_neg (by simpa using h)]; rfl
structure RuRel (w : World) (n : Nat) (l : List Fi) (X : Option Addr) (v9 vi : Value) (wr : World) : Prop where
  out : ∃ (k : Nat) (Y : Option Addr) (c : Nat), k ≤ l.length ∧ v9 = .slice Y (wantL n (l.take k)).length c ∧ vi = .int .i64 k ∧ Hid (Mem.Own wr 50 2 Y (wantL n (l.take k)).length c ((wantL n (l.take k)).flatMap fiCells)) ∧ Hid (Mem.From w.heap.size Y) ∧
    Hid (Mem.Rd wr wr.heap.size X (l.flatMap fiCells)) ∧ Hid (∀ q, Mem.blk Y = some q → Mem.blk X ≠ some q) ∧ Hid (Below w.heap.size w wr)
end Au
namespace auditRulesOpen
open Au
set_option maxRecDepth 20000 in
set_option maxHeartbeats 8000000 in
theorem walk (A : Option Addr) (c : Nat) (h : List Ev) (A2 : Option Addr) (c2 : Nat) (ws : List Vec.Ent) (kk : Int) (w : World) (hr : Mem.Rd w w.heap.size A (h.flatMap evCells)) (hr2 : Mem.Rd w w.heap.size A2 (ws.flatMap Vec.entCells)) (hl : h.length ≤ c) (hc : c ≤ 8796093022208) (hn2 : ws.length ≤ 8796093022208) (hd : ∀ e ∈ h, EvIn w e) (hd2 : ∀ e ∈ ws, Vec.EntIn e) :
    Calls Try.prog 6 #[.slice A h.length c, .slice A2 ws.length c2, .int .i64 kk] w fun e w' => e = .returned (.bool true) ∧ Below w.heap.size w w' := by
  go_enter Try.func6, Try.ntmps6
  have HR := Lib.hid hr
  have HD := Lib.hid hd
  have HR2 := Lib.hid hr2
  have HD2 := Lib.hid hd2
  clear hr hd hr2 hd2
  go_wp2_with fail
  refine (auditAble_any w).mono ?_
  rintro x w1 ⟨rfl, hb1⟩
  have HB1 := Lib.hid hb1
  clear hb1
  go_wp2_with fail
  refine (muchA_any A c h A2 c2 ws w w1 HR.out HR2.out (by omega) (by omega) HD.out HD2.out HB1.out).mono ?_
  rintro x w2 ⟨b, rfl, hbn, hb2⟩
  have HB2 := Lib.hid (HB1.out.trans (hb2.mono HB1.out.size))
  clear hb2 HB1
  by_cases hyes : b = true
  · subst hyes
    go_wp2
    go_ret
    exact ⟨rfl, HB2.out⟩
  · obtain rfl : b = false := by cases b; rfl; exact absurd rfl hyes
    have hn3 : h.length + ws.length ≤ 360 := hbn rfl
    clear hyes hbn
    have hol := Vec.ents_len ws
    have hoo := Vec.ents_one ws
    have HIN : Hid (∀ e ∈ h, okI e.cl ∧ e.res.length ≤ 703687441776) := fun e he => ⟨(HD.out e he).cl, (HD.out e he).rn⟩
    have HTK : Hid (∀ e ∈ h, EvOk w w.heap.size e ∧ e.keys.length ≤ 8796093022208 ∧ e.res.length ≤ 703687441776) := fun e he => ⟨(HD.out e he).ok, (HD.out e he).kn, (HD.out e he).rn⟩
    obtain ⟨l, hl0⟩ : ∃ l, findL h ws = l := ⟨_, rfl⟩
    have HLD := Lib.hid hl0
    clear hl0
    go_upto_region 6 with (first
      | (go_at_call 11; (refine (twin_any A c h w.heap.size w w2 HR.out HTK.out (by omega) HB2.out HB2.out.size).mono ?_); rintro x w3 ⟨X3, c3, hs3, rfl, ht3⟩; have HT3 := Lib.hid ht3; have HB3 := Lib.hid (HB2.out.trans (ht3.bl.mono HB2.out.size)); clear ht3)
      | (at_builtin; refine Mem.wpList_clone _ rfl (.tmp 18) (.tmp 19) _ rfl entries_elem _ rfl w3 w3.heap.size A2 ws.length c2 (ws.flatMap Vec.entCells) rfl ?_ rfl (Below.refl _ _) (Nat.le_refl _) ((HR2.out.below HB3.out).more HB3.out.size) hol hoo (by unfold maxLen; omega) (by omega); intro A4 c4 w4 hown hb4 hs4 hf4; have HO4 := Lib.hid hown; have HB4 := Lib.hid hb4; clear hown hb4 hs4 hf4)
      | (go_at_call 12; (refine (twCheck_any HT3.out HB4.out HO4.out.rd HO4.out.le HO4.out.cap (by omega) HIN.out).mono ?_); rintro x w5 ⟨X5, c5, rfl, ho5, hf5, hb5⟩; have HO5 := Lib.hid ho5; have HF5 := Lib.hid hf5; have HB5 := Lib.hid (HB3.out.trans ((HB4.out.trans (hb5.mono HB4.out.size)).mono HB3.out.size)); clear ho5 hf5 hb5))
    rw [HLD.out] at HO5
    rw [HLD.out]
    clear HT3 HB3 HB4 HO4
    have HNF : Hid (∀ h' : List Ev, h'.length ≤ h.length → (findL h' ws).length ≤ 1000000000) := fun h' hh => by
      rw [findL_eq]
      have h1 := stC_le (kOf h' ws) h'.length
      omega
    have hl9 : l.length ≤ 1000000000 := by rw [← HLD.out]; exact HNF.out h (Nat.le_refl _)
    have HFI : Hid (∀ f ∈ l, 0 ≤ f.ev ∧ f.ev < (h.length : Int) ∧ 1 ≤ f.rule ∧ f.rule ≤ 9) := by show ∀ f ∈ l, _; rw [← HLD.out, findL_eq]; exact fi_in _ _
    have HUP : Hid (l.Pairwise fiLt) := by show List.Pairwise _ _; rw [← HLD.out, findL_eq]; exact fi_up _ _
    by_cases hL : h.length = 0
    · obtain rfl : l = [] := by
        refine List.eq_nil_of_length_eq_zero ?_
        rw [← HLD.out, findL_eq]
        have := stC_le (kOf h ws) h.length
        omega
      have d7 : decide (0 < h.length) = false := decide_eq_false (by omega)
      have d70 : (0 < h.length) = False := eq_false (by omega)
      have HNL : Hid (0 ≤ h.length) := Nat.zero_le _
      have HWT : Hid (wantL 0 ([] : List Fi) = findL (h.take 0) ws) := rfl
      clear hL
      go_wp2
      go_loopw [9, 10] (RuRel w 0 [] X5) (fun _ t _ => 1 - (intOf t).toNat)
      case atStart => exact ⟨⟨0, none, 0, by omega, rfl, rfl, Mem.Own.nil _ _ _, Mem.From.none_ _, HO5.out.rd, (fun q hq => by cases hq), HB5⟩⟩
      case round =>
        clear HO5 HB5
        obtain ⟨k, Y, cy, hk, rfl, rfl, HO, HF, HRX, HX, HB⟩ := hrel.out
        clear hrel
        obtain rfl : k = 0 := Nat.le_zero.1 hk
        have hwt : wantL 0 (([] : List Fi).take 0) = findL (h.take 0) ws := HWT.out
        rw [hwt] at HO ⊢
        clear hwt
        have HTN : Hid (∀ e ∈ h.take 0, EvOk wr w.heap.size e ∧ e.keys.length ≤ 8796093022208 ∧ e.res.length ≤ 703687441776) := fun e he => ⟨((HTK.out e (List.mem_of_mem_take he)).1.below HB.out (Nat.le_refl _)), (HTK.out e (List.mem_of_mem_take he)).2⟩
        have HIN2 : Hid (∀ e ∈ h.take 0, okI e.cl ∧ e.res.length ≤ 703687441776) := fun e he => HIN.out e (List.mem_of_mem_take he)
        have htl : (h.take 0).length = 0 := by rw [List.length_take]; exact Nat.min_eq_left HNL.out
        have HTL := Lib.hid htl
        have htn : 0 ≤ 360 := by have := HNL.out; omega
        have HRD : Hid (Mem.Rd wr w.heap.size A ((h.take 0).flatMap evCells)) := by
          have h1 := (HR.out.below HB.out).take (0 * 20)
          rw [Mem.flat_take evCells_length] at h1
          exact h1
        have hnc : 0 ≤ c := by have := HNL.out; omega
        have s5 := fun s => sliced_front (A := A) (c := c) s 0
        have HTWN : Hid (Calls Try.prog 11 #[.slice A 0 c] wr fun x w' => ∃ X c hs, x = .returned (.slice X 0 c) ∧ Tw wr (h.take 0) (h.take 0).length X c hs w') := by
          have h1 := twin_any A c (h.take 0) w.heap.size wr wr HRD.out HTN.out (by rw [HTL.out]; omega) (Below.refl _ _) HB.out.size
          rw [HTL.out] at h1
          refine h1.mono ?_
          rintro x w' ⟨X, c, hs, hx, ht⟩
          rw [HTL.out] at hx ht
          exact ⟨X, c, hs, hx, by rw [HTL.out]; exact ht⟩
        clear htl
        go_wp2_with (first
          | (go_at_call 11; (refine HTWN.out.mono ?_); rintro x w6 ⟨X6, c6, hs6, rfl, ht6⟩; have HT6 := Lib.hid ht6; have HB6 := Lib.hid (HB.out.trans (ht6.bl.mono HB.out.size)); clear ht6)
          | (at_builtin; refine Mem.wpList_clone _ rfl (.tmp 139) (.tmp 140) _ rfl entries_elem _ rfl w6 w6.heap.size A2 ws.length c2 (ws.flatMap Vec.entCells) rfl ?_ rfl (Below.refl _ _) (Nat.le_refl _) ((HR2.out.below HB6.out).more HB6.out.size) hol hoo (by unfold maxLen; omega) (by omega); intro A7 c7 w7 hown hb7 hs7 hf7; have HO7 := Lib.hid hown; have HB7 := Lib.hid hb7; clear hown hb7 hs7 hf7)
          | (go_at_call 12; (have HCC := Lib.hid (twCheck_any HT6.out HB7.out HO7.out.rd HO7.out.le HO7.out.cap (by rw [HTL.out]; omega) HIN2.out)); rw [HTL.out] at HCC; (refine HCC.out.mono ?_); rintro x w8 ⟨X8, c8, rfl, ho8, hf8, hb8⟩; have HO8 := Lib.hid ho8; have HB68 := Lib.hid (HB7.out.trans (hb8.mono HB7.out.size)); have HB8 := Lib.hid (HB6.out.trans (HB68.out.mono HB6.out.size)); have HR68 := Lib.hid (HB68.out.mono HT6.out.bl.size); have HBS := Lib.hid (Nat.le_trans HT6.out.bl.size HB68.out.size); clear ho8 hf8 hb8 HCC)
          | (go_at_call 13; (refine (findings_any Y cy (findL (h.take 0) ws) X8 c8 (findL (h.take 0) ws) w8.heap.size w8 ?hfa HO8.out.rd (Nat.le_refl _) ?hfb ?hfc).mono ?_); (case hfa => exact (HO.out.rd.below (HT6.out.bl.trans HR68.out)).more HBS.out); (case hfb => exact HNF.out (h.take 0) (List.length_take_le' _ _)); (case hfc => exact HNF.out (h.take 0) (List.length_take_le' _ _)); rintro x w9 ⟨bb, rfl, hbb, hb9⟩; have HB9 := Lib.hid (HB8.out.trans (hb9.mono HB8.out.size)); have HBB := Lib.hid hbb; clear hbb hb9))
        obtain rfl : bb = true := by first | exact HBB.out.2 rfl | exact HBB.out.2 trivial
        go_ret
        exact ⟨rfl, HB9.out⟩
    · have d7 : decide ((0 : Int) < (h.length : Int)) = true := by simp; omega
      have hLne : ((h.length : Int) + 1) ≠ 0 := by omega
      have hL63 : wrap64 ((h.length : Int) + 1) = (h.length : Int) + 1 := IntWalk.wrap64_in _ (by omega)
      go_upto_region 9 with fail
      obtain ⟨n, hnl, hne⟩ := cut_nums (L := h.length) (by omega) kk
      rw [hne]
      have HNL := Lib.hid hnl
      have HWT : Hid (wantL n l = findL (h.take n) ws) := by show _ = _; rw [← findL_take h ws n hnl, HLD.out]; rfl
      clear hne hnl d7 hLne hL63 hL
      generalize decide (0 < h.length) = b24
      go_wp2
      go_loopw [9, 10] (RuRel w n l X5) (fun _ t _ => l.length - (intOf t).toNat)
      case atStart => exact ⟨⟨0, none, 0, by omega, rfl, rfl, Mem.Own.nil _ _ _, Mem.From.none_ _, HO5.out.rd, (fun q hq => by cases hq), HB5⟩⟩
      case round =>
        clear HO5 HB5
        obtain ⟨k, Y, cy, hk, rfl, rfl, HO, HF, HRX, HX, HB⟩ := hrel.out
        clear hrel
        by_cases hlt : k < l.length
        · obtain ⟨b, o, f, rfl, hb, hf, hat⟩ := fi_elem HRX.out hlt
          have d0 : decide ((k : Int) < (l.length : Int)) = true := by simp; omega
          have x0 : wr.cell? ⟨b, o + k * 2, none⟩ = some (.int .i64 f.ev) := hat 0 _ rfl
          have x1 : wr.cell? ⟨b, o + k * 2 + 1, none⟩ = some (.int .i64 f.rule) := hat 1 _ rfl
          have hfi := HFI.out f (List.mem_of_getElem? hf)
          have d1 : decide (f.ev < 0) = false := by simp; omega
          have d2 : decide ((h.length : Int) ≤ f.ev) = false := by simp; omega
          have d3 : decide (f.rule < 1) = false := by simp; omega
          have d4 : decide (9 < f.rule) = false := by simp; omega
          have HLT := Lib.hid hlt
          have HFK := Lib.hid hf
          have HAT := Lib.hid hat
          have HW1 := Lib.hid (show wantL n (l.take (k + 1)) = wantL n (l.take k) ++ (if f.ev < (n : Int) then [f] else []) by rw [Mem.take_snoc hf, want_snoc])
          have HWL : Hid ((wantL n (l.take k)).length + 1 ≤ 1000000001) := by
            have h1 := List.length_filter_le (fun f : Fi => decide (f.ev < (n : Int))) (l.take k)
            have h2 := List.length_take_le k l
            show (wantL n (l.take k)).length + 1 ≤ _
            unfold wantL
            omega
          go_upto_region 15 with fail
          go_cut [119] (fun v wx => v = .bool false ∧ Below wr.heap.size wr wx)
          case first =>
            clear x1 d1 d2 d3 d4 hfi
            match k, hk, HFK, HLT, HAT with
            | 0, hk, HFK, HLT, HAT =>
              go_wp2
              go_quiet (fail)
              go_wp2
              go_meet
              case rel => exact ⟨rfl, Mem.below_drewN (Below.refl _ _) _⟩
            | j + 1, hk, HFK, HLT, HAT =>
              obtain ⟨b2, o2, g, hA2, _, hg, hat2⟩ := fi_elem HRX.out (show j < l.length by omega)
              obtain ⟨rfl, rfl⟩ : b2 = b ∧ o2 = o := by cases hA2; exact ⟨rfl, rfl⟩
              have y0 : wr.cell? ⟨b2, o2 + j * 2, none⟩ = some (.int .i64 g.ev) := hat2 0 _ rfl
              have y1 : wr.cell? ⟨b2, o2 + j * 2 + 1, none⟩ = some (.int .i64 g.rule) := hat2 1 _ rfl
              have x0 : wr.cell? ⟨b2, o2 + (j + 1) * 2, none⟩ = some (.int .i64 f.ev) := HAT.out 0 _ rfl
              have x1 : wr.cell? ⟨b2, o2 + (j + 1) * 2 + 1, none⟩ = some (.int .i64 f.rule) := HAT.out 1 _ rfl
              have hgf : fiLt g f := by
                have h1 := List.pairwise_iff_getElem.1 HUP.out j (j + 1) (by omega) HLT.out (by omega)
                obtain ⟨_, h2⟩ := List.getElem?_eq_some_iff.1 hg
                obtain ⟨_, h3⟩ := List.getElem?_eq_some_iff.1 HFK.out
                rwa [h2, h3] at h1
              have hlj : j + 1 < l.length := HLT.out
              have hw : IntKind.i64.wrap (((j + 1 : Nat) : Int) - 1) = (j : Int) := by rw [IntWalk.i64_in _ (by omega)]; omega
              have d5 : decide (f.ev < g.ev) = false := by unfold fiLt at hgf; simp; omega
              by_cases he6 : f.ev = g.ev
              · have d6 : (f.ev == g.ev) = true := by simpa using he6
                have d7 : decide (f.rule ≤ g.rule) = false := by unfold fiLt at hgf; simp; omega
                clear hA2 hg hat2 hgf he6
                go_wp2
                go_quiet (fail)
                go_wp2
                go_meet
                case rel => exact ⟨rfl, Mem.below_drewN (Below.refl _ _) _⟩
              · have d6 : (f.ev == g.ev) = false := by simpa using he6
                clear hA2 hg hat2 hgf he6
                go_wp2
                go_quiet (fail)
                go_wp2
                go_meet
                case rel => exact ⟨rfl, Mem.below_drewN (Below.refl _ _) _⟩
          case rest =>
            obtain ⟨rfl, hbc⟩ := hcut
            rename World => wy
            have HZY := Lib.hid hbc.size
            have x0' : wy.cell? ⟨b, o + k * 2, none⟩ = some (.int .i64 f.ev) := (hbc.cell (p := ⟨b, o + k * 2, none⟩) hb).trans x0
            have HATY : Hid (∀ j u, (fiCells f)[j]? = some u → wy.cell? ⟨b, o + k * 2 + j, none⟩ = some u) := fun j u hu => (hbc.cell (p := ⟨b, o + k * 2 + j, none⟩) hb).trans (HAT.out j u hu)
            have HOY := Lib.hid (HO.out.below hbc (fun q hq => HO.out.lt hq))
            have HRY : Hid (Mem.Rd wy wy.heap.size (some ⟨b, o, none⟩) (l.flatMap fiCells)) := (HRX.out.below hbc).more hbc.size
            have HBY : Hid (Below w.heap.size w wy) := HB.out.trans (hbc.mono HB.out.size)
            clear hbc x0 x1 d1 d2 d3 d4 hfi hat hf HO HRX HB
            by_cases hfn : f.ev < (n : Int)
            · have d8 : decide (f.ev < (n : Int)) = true := by simpa using hfn
              have HW2 : Hid (wantL n (l.take (k + 1)) = wantL n (l.take k) ++ [f]) := by show _ = _; rw [HW1.out, if_pos hfn]
              have hn63 : (wantL n (l.take k)).length + 1 ≤ maxLen := by have := HWL.out; unfold maxLen; omega
              have hn47 : ((wantL n (l.take k)).length + 1) * 16 ≤ 140737488355328 := by have := HWL.out; omega
              clear hfn HW1
              go_upto_region 12 with (first
                | ((with_reducible refine Mem.load_agg _ _ finding_agg b (o + k * 2) (fiCells f) ?hx (fiCells_length f) HATY.out ?_); case hx => exact rfl)
                | ((with_reducible refine Mem.build1_agg _ _ 2 _ Try.underlying36 finding_zero (by decide) (by decide) (fiCells f) ?hra (fiCells_length _) ?_); (case hra => exact rfl))
                | (at_builtin; refine Mem.wpList_app _ rfl (.tmp 127) (.tmp 132) _ rfl findings_elem Y (wantL n (l.take k)).length cy _ rfl (wy.heap.size + 1) (some ⟨wy.heap.size, 0, none⟩) 1 1 (fiCells f) rfl ?_ (HOY.out.alloc _) (Mem.Rd.alloc_new wy _ _ _ rfl) rfl (fi_one _) hn63 hn47; intro Y3 c3 w9 hown hg4 hat9; have HO9 := Lib.hid hown; have HG9 := Lib.hid hg4; have HAT9 := Lib.hid hat9; clear hown hg4 hat9))
              have hk9 : Mem.Keeps (fun q => Mem.blk Y = some q) wy w9 := ((Mem.Keeps.refl (fun q => Mem.blk Y = some q) wy).alloc _).grown HG9.out (fun k hk _ => hk)
              have hz9 : (wy.alloc (.cells (fiCells f).toArray 50)).heap.size = wy.heap.size + 1 := Array.size_push _
              have HB9 : Hid (Below w.heap.size w w9) := HBY.out.trans (hk9.below (fun q hq => HF.out.blk q hq) HBY.out.size)
              have HR9 : Hid (Mem.Rd w9 w9.heap.size (some ⟨b, o, none⟩) (l.flatMap fiCells)) := HRY.out.keepsAt hk9 (Nat.le_refl _) (fun q hq h => HX.out q h hq)
              have HF9 : Hid (Mem.From w.heap.size Y3 ∧ ∀ q, Mem.blk Y3 = some q → Mem.blk (some (⟨b, o, none⟩ : Addr)) ≠ some q) := by
                rcases HAT9.out with h1 | h1
                · rw [h1]; exact ⟨HF.out, HX.out⟩
                · rw [h1]
                  have h2 := HBY.out.size
                  refine ⟨Mem.From.some_ (by omega), fun q hq h3 => ?_⟩
                  have h4 : wy.heap.size ≤ q := Nat.le_trans (Nat.le_trans (Nat.le_succ _) (Nat.le_of_eq hz9.symm)) (Nat.le_of_eq (Option.some.inj hq))
                  have h5 : b = q := Option.some.inj h3
                  have h6 : b < wr.heap.size := hb
                  have h7 : wr.heap.size ≤ wy.heap.size := HZY.out
                  omega
              have e1 : (wantL n (l.take (k + 1))).length = (wantL n (l.take k)).length + 1 := by rw [HW2.out]; exact List.length_append
              have HO10 : Hid (Mem.Own w9 50 2 Y3 (wantL n (l.take (k + 1))).length c3 ((wantL n (l.take (k + 1))).flatMap fiCells)) := by
                show Mem.Own _ _ _ _ _ _ _
                rw [e1, HW2.out, List.flatMap_append]
                exact HO9.out
              have E1 := Lib.hid e1
              clear hk9 hz9 e1 HO9 HG9 HAT9 hn63 hn47 HOY HRY HBY
              go_wp2
              go_roundw
              case rel => exact ⟨⟨k + 1, Y3, c3, HLT.out, by rw [E1.out], by go_num, HO10, HF9.out.1, HR9, HF9.out.2, HB9⟩⟩
              case measure => exact Au.meas_lt HLT.out
            · have d8 : decide (f.ev < (n : Int)) = false := by simpa using hfn
              have HW2 : Hid (wantL n (l.take (k + 1)) = wantL n (l.take k)) := by show _ = _; rw [HW1.out, if_neg hfn, List.append_nil]
              clear hfn HW1
              go_wp2
              go_roundw
              case rel => exact ⟨⟨k + 1, Y, cy, HLT.out, by rw [HW2.out], by go_num, by rw [HW2.out]; exact HOY, HF, HRY, HX, HBY⟩⟩
              case measure => exact Au.meas_lt HLT.out
        · obtain rfl : k = l.length := by omega
          have d0 : decide ((l.length : Int) < (l.length : Int)) = false := by simp
          have hwt : wantL n (l.take l.length) = findL (h.take n) ws := by rw [List.take_length]; exact HWT.out
          rw [hwt] at HO ⊢
          clear hwt
          have HTN : Hid (∀ e ∈ h.take n, EvOk wr w.heap.size e ∧ e.keys.length ≤ 8796093022208 ∧ e.res.length ≤ 703687441776) := fun e he => ⟨((HTK.out e (List.mem_of_mem_take he)).1.below HB.out (Nat.le_refl _)), (HTK.out e (List.mem_of_mem_take he)).2⟩
          have HIN2 : Hid (∀ e ∈ h.take n, okI e.cl ∧ e.res.length ≤ 703687441776) := fun e he => HIN.out e (List.mem_of_mem_take he)
          have htl : (h.take n).length = n := by rw [List.length_take]; exact Nat.min_eq_left HNL.out
          have HTL := Lib.hid htl
          have htn : n ≤ 360 := by have := HNL.out; omega
          have HRD : Hid (Mem.Rd wr w.heap.size A ((h.take n).flatMap evCells)) := by
            have h1 := (HR.out.below HB.out).take (n * 20)
            rw [Mem.flat_take evCells_length] at h1
            exact h1
          have hnc : n ≤ c := by have := HNL.out; omega
          have s5 := fun s => sliced_front (A := A) (c := c) s n
          have HTWN : Hid (Calls Try.prog 11 #[.slice A n c] wr fun x w' => ∃ X c hs, x = .returned (.slice X n c) ∧ Tw wr (h.take n) (h.take n).length X c hs w') := by
            have h1 := twin_any A c (h.take n) w.heap.size wr wr HRD.out HTN.out (by rw [HTL.out]; omega) (Below.refl _ _) HB.out.size
            rw [HTL.out] at h1
            refine h1.mono ?_
            rintro x w' ⟨X, c, hs, hx, ht⟩
            rw [HTL.out] at hx ht
            exact ⟨X, c, hs, hx, by rw [HTL.out]; exact ht⟩
          clear htl
          go_wp2_with (first
            | (go_at_call 11; (refine HTWN.out.mono ?_); rintro x w6 ⟨X6, c6, hs6, rfl, ht6⟩; have HT6 := Lib.hid ht6; have HB6 := Lib.hid (HB.out.trans (ht6.bl.mono HB.out.size)); clear ht6)
            | (at_builtin; refine Mem.wpList_clone _ rfl (.tmp 139) (.tmp 140) _ rfl entries_elem _ rfl w6 w6.heap.size A2 ws.length c2 (ws.flatMap Vec.entCells) rfl ?_ rfl (Below.refl _ _) (Nat.le_refl _) ((HR2.out.below HB6.out).more HB6.out.size) hol hoo (by unfold maxLen; omega) (by omega); intro A7 c7 w7 hown hb7 hs7 hf7; have HO7 := Lib.hid hown; have HB7 := Lib.hid hb7; clear hown hb7 hs7 hf7)
            | (go_at_call 12; (have HCC := Lib.hid (twCheck_any HT6.out HB7.out HO7.out.rd HO7.out.le HO7.out.cap (by rw [HTL.out]; omega) HIN2.out)); rw [HTL.out] at HCC; (refine HCC.out.mono ?_); rintro x w8 ⟨X8, c8, rfl, ho8, hf8, hb8⟩; have HO8 := Lib.hid ho8; have HB68 := Lib.hid (HB7.out.trans (hb8.mono HB7.out.size)); have HB8 := Lib.hid (HB6.out.trans (HB68.out.mono HB6.out.size)); have HR68 := Lib.hid (HB68.out.mono HT6.out.bl.size); have HBS := Lib.hid (Nat.le_trans HT6.out.bl.size HB68.out.size); clear ho8 hf8 hb8 HCC)
            | (go_at_call 13; (refine (findings_any Y cy (findL (h.take n) ws) X8 c8 (findL (h.take n) ws) w8.heap.size w8 ?hfa HO8.out.rd (Nat.le_refl _) ?hfb ?hfc).mono ?_); (case hfa => exact (HO.out.rd.below (HT6.out.bl.trans HR68.out)).more HBS.out); (case hfb => exact HNF.out (h.take n) (List.length_take_le' _ _)); (case hfc => exact HNF.out (h.take n) (List.length_take_le' _ _)); rintro x w9 ⟨bb, rfl, hbb, hb9⟩; have HB9 := Lib.hid (HB8.out.trans (hb9.mono HB8.out.size)); have HBB := Lib.hid hbb; clear hbb hb9))
          obtain rfl : bb = true := by first | exact HBB.out.2 rfl | exact HBB.out.2 trivial
          go_ret
          exact ⟨rfl, HB9.out⟩
set_option maxRecDepth 20000 in
theorem opened {H : Type} (enc : TypeId × Value → H) (W : World) (base : Nat) (v0 v1 v2 : Value) {d0 d1 d2 : DataW H} {p0 p1 p2 : List MemPlace}
    (o0 : Value.okWide Try.prog W .any base 22 v0) (o1 : Value.okWide Try.prog W .any base 23 v1) (o2 : Value.okWide Try.prog W .any base 3 v2)
    (k0 : DataW.Trod enc Try.prog W 0 (fun _ => true) true 22 v0 d0 p0) (k1 : DataW.Trod enc Try.prog W 0 (fun _ => true) true 23 v1 d1 p1) (k2 : DataW.Trod enc Try.prog W 0 (fun _ => true) true 3 v2 d2 p2)
    (z0 : (d0.weights Try.prog 22).all (· ≤ reachBytes) = true) (z1 : (d1.weights Try.prog 23).all (· ≤ reachBytes) = true) (z2 : (d2.weights Try.prog 3).all (· ≤ reachBytes) = true) :
    Calls Try.prog 6 #[v0, v1, v2] W fun e w' => e = .returned (.bool true) ∧ Below W.heap.size W w' := by
  obtain ⟨A, c, h, rfl, h1, h2, h3, h4⟩ := open_events o0 k0 z0
  obtain ⟨A2, c2, ws, rfl, g1, g2, g3, g4⟩ := open_ents o1 k1 z1
  obtain ⟨n, rfl⟩ := okWide_int Try.underlying3 o2
  exact walk A c h A2 c2 ws n W h3 g3 h1 h2 (by omega) h4 g4
end auditRulesOpen
end Go.Proofs.Ytelephoalpphkaa
end
section
/- A client that does nothing but put, plainly. No conditions. -/
set_option maxRecDepth 8000
namespace Go.Proofs.Ytelephoalpphkaa
set_option linter.unusedVariables false
set_option linter.unusedSimpArgs false
namespace Au
open Vec (Ent Vc)
/-- the first n writes -/
def cutN (n : Nat) : Vc := ⟨⟨n, 0, 0⟩, Vec.col0, Vec.col0⟩
def wrt (i : Nat) (p : ByteArray × ByteArray) : Ent := ⟨0, 0, (i : Int) + 1, ⟨(i : Int) + 1, 0, 0⟩, p.1, p.2, false, cutN i, 0, (i : Int) + 1⟩
def begE (i : Nat) (p : ByteArray × ByteArray) : Ev := ⟨0, (i : Int) + 1, 1, none, 0, [p.1], p.2, 0, 0, false, false, 0, none, 0, [], Vec.vc0⟩
def endE (i : Nat) (p : ByteArray × ByteArray) (x : Ent) : Ev := ⟨0, (i : Int) + 1, 1, none, 0, [p.1], p.2, 0, 0, false, true, 0, none, 0, [⟨p.1, true, x⟩], cutN (i + 1)⟩
def wrts (ps : List (ByteArray × ByteArray)) : List Ent := ps.mapIdx fun i p => wrt i p
theorem cut_zero : cutN 0 = Vec.vc0 := rfl
theorem cut_get (n d r : Nat) : (cutN n).get d r = if d = 0 ∧ r = 0 then (n : Int) else 0 := by
  match d, r with
  | 0, 0 => rfl
  | 0, 1 => rfl
  | 0, n + 2 => rfl
  | 1, 0 => rfl
  | 1, 1 => rfl
  | 1, n + 2 => rfl
  | m + 2, 0 => rfl
  | m + 2, 1 => rfl
  | m + 2, n + 2 => rfl
theorem cut_past (i : Nat) (p : ByteArray × ByteArray) : Vec.pastL [wrt i p] = cutN (i + 1) := by
  have h1 : Vec.mergeL [Vec.vc0, cutN i] = cutN i := by
    show (⟨⟨max 0 (i : Int), max 0 0, max 0 0⟩, ⟨max 0 0, max 0 0, max 0 0⟩, ⟨max 0 0, max 0 0, max 0 0⟩⟩ : Vc) = _
    rw [show max (0 : Int) (i : Int) = i by omega]
    rfl
  show Vec.withL (Vec.mergeL [Vec.vc0, cutN i]) [Vec.dotE (wrt i p)] = _
  rw [h1]
  show (⟨⟨max (i : Int) ((i : Int) + 1), 0, 0⟩, Vec.col0, Vec.col0⟩ : Vc) = _
  rw [show max (i : Int) ((i : Int) + 1) = ((i + 1 : Nat) : Int) by omega]
  rfl
theorem cut_has (n i : Nat) (p : ByteArray × ByteArray) : Vec.hasD (cutN n) (Vec.dotE (wrt i p)) = decide (i < n) := by
  show (Vec.chain 0 0 && (decide (1 ≤ (i : Int) + 1) && decide ((i : Int) + 1 ≤ (n : Int)))) = _
  rw [show Vec.chain 0 0 = true from rfl, Bool.true_and, decide_eq_true (by omega), Bool.true_and]
  exact decide_eq_decide.2 (by omega)
theorem covers_iff {x y : Vc} : Vec.coversV x y = true ↔ ∀ d r, y.get d r ≤ x.get d r := by
  constructor
  · intro h d r
    simp only [Vec.coversV, Vec.covV, Vec.covP, Bool.and_eq_true, decide_eq_true_eq] at h
    match d, r with
    | 0, 0 => exact h.1.1
    | 0, 1 => exact h.1.2.1
    | 0, n + 2 => exact h.1.2.2
    | 1, 0 => exact h.2.1.1
    | 1, 1 => exact h.2.1.2.1
    | 1, n + 2 => exact h.2.1.2.2
    | m + 2, 0 => exact h.2.2.1
    | m + 2, 1 => exact h.2.2.2.1
    | m + 2, n + 2 => exact h.2.2.2.2
  · intro h
    simp only [Vec.coversV, Vec.covV, Vec.covP, Bool.and_eq_true, decide_eq_true_eq]
    exact ⟨⟨h 0 0, h 0 1, h 0 2⟩, ⟨h 1 0, h 1 1, h 1 2⟩, h 2 0, h 2 1, h 2 2⟩
theorem cut_covers (n m : Nat) (h : m ≤ n) : Vec.coversV (cutN n) (cutN m) = true := by
  rw [covers_iff]
  intro d r
  rw [cut_get, cut_get]
  split <;> omega
theorem mem_wrts {ps : List (ByteArray × ByteArray)} {m : Ent} (h : m ∈ wrts ps) : ∃ j q, ps[j]? = some q ∧ m = wrt j q := by
  unfold wrts at h
  obtain ⟨j, hj, rfl⟩ := List.mem_mapIdx.1 h
  exact ⟨j, ps[j], List.getElem?_eq_getElem hj, rfl⟩
theorem wrts_mem {ps : List (ByteArray × ByteArray)} {i : Nat} {p : ByteArray × ByteArray} (h : ps[i]? = some p) : wrt i p ∈ wrts ps := by
  obtain ⟨hi, hp⟩ := List.getElem?_eq_some_iff.1 h
  unfold wrts
  exact List.mem_mapIdx.2 ⟨i, hi, by rw [hp]⟩
/-- what the cut behind write i sees of its key -/
theorem wrts_sees {ps : List (ByteArray × ByteArray)} {i : Nat} {p : ByteArray × ByteArray} (h : ps[i]? = some p) : Vec.visible p.1 (cutN (i + 1)) (wrts ps) = (wrt i p, true) := by
  have hs := Vec.sinvV p.1 (cutN (i + 1)) (wrts ps)
  have hi : Vec.seenV p.1 (cutN (i + 1)) (wrt i p) = true := Vec.seenV_iff.2 ⟨rfl, by rw [cut_has]; simp⟩
  obtain ⟨⟨m, f⟩, hmf⟩ : ∃ mf, Vec.visible p.1 (cutN (i + 1)) (wrts ps) = mf := ⟨_, rfl⟩
  rw [hmf] at hs ⊢
  have hf : f = true := by
    cases f with
    | true => rfl
    | false => have := (hs.no rfl).2 _ (wrts_mem h); rw [hi] at this; cases this
  subst hf
  obtain ⟨h1, h2, h3⟩ := hs.yes rfl
  obtain ⟨j, q, hq, rfl⟩ := mem_wrts h1
  have h4 := h3 _ (wrts_mem h) hi
  have h5 := (Vec.seenV_iff.1 h2).2
  rw [cut_has] at h5
  have h6 : j < i + 1 := of_decide_eq_true h5
  have h7 : (i : Int) + 1 ≤ (j : Int) + 1 := h4
  obtain rfl : j = i := by omega
  rw [h] at hq
  rw [Option.some.inj hq]
theorem wrts_closed (ps : List (ByteArray × ByteArray)) (n : Nat) : Vec.closedP (cutN n) (wrts ps) = true := by
  unfold Vec.closedP
  rw [List.all_eq_true]
  intro e he
  obtain ⟨j, q, _, rfl⟩ := mem_wrts he
  rw [cut_has]
  by_cases h : j < n
  · show (!decide (j < n) || Vec.coversV (cutN n) (cutN j)) = true
    rw [cut_covers n j (by omega), Bool.or_true]
  · rw [decide_eq_false h]; rfl
/-- an event at which rule 8 is broken -/
theorem finds_sees {h : List Ev} {ws : List Ent} {j : Nat} {e : Ev} (he : h[j]? = some e) (hf : e.fresh = false) (hn : e.fin = true) (h8 : r8 (kOf h ws) e = false) : findL h ws ≠ [] := by
  rw [findL_eq]
  have hj : j + 1 ≤ h.length := (List.getElem?_eq_some_iff.1 he).1
  have h1 := fi_front (kOf h ws) (j + 1) h.length hj
  intro h2
  rw [h2, stC_succ (k := kOf h ws) he] at h1
  have h3 : (evF (atK (kOf h ws) j) ((stC (kOf h ws) j).1 e.cl) e).1 = [] := by
    have h4 := congrArg List.length h1
    rw [List.length_append, List.length_map] at h4
    simp only [List.filter_nil, List.length_nil] at h4
    exact List.eq_nil_of_length_eq_zero (by omega)
  unfold evF at h3
  rw [if_neg (by simp [hn]), if_neg (by simp [hf])] at h3
  unfold endF at h3
  dsimp only at h3
  rw [List.map_eq_nil_iff, List.filter_eq_nil_iff] at h3
  have h5 := h3 6 (by simp)
  unfold rulesF at h5
  apply h5
  show (!r8 (kOf h ws) e) = true
  rw [h8]
  rfl
/-- two beginnings of one client in a row -/
theorem finds_under {h : List Ev} {ws : List Ent} {j : Nat} {e e2 : Ev} (he : h[j]? = some e) (he2 : h[j + 1]? = some e2) (hb : beg e = true) (hb2 : beg e2 = true) (hc : e2.cl = e.cl) : findL h ws ≠ [] := by
  rw [findL_eq]
  have hj : j + 1 + 1 ≤ h.length := (List.getElem?_eq_some_iff.1 he2).1
  have h1 := fi_front (kOf h ws) (j + 1 + 1) h.length hj
  intro h2
  rw [h2, stC_succ (k := kOf h ws) he2] at h1
  have h3 : (evF (atK (kOf h ws) (j + 1)) ((stC (kOf h ws) (j + 1)).1 e2.cl) e2).1 = [] := by
    have h4 := congrArg List.length h1
    rw [List.length_append, List.length_map] at h4
    simp only [List.filter_nil, List.length_nil] at h4
    exact List.eq_nil_of_length_eq_zero (by omega)
  have hu : ((stC (kOf h ws) (j + 1)).1 e2.cl).under = true := by
    rw [stC_succ (k := kOf h ws) he]
    show (if e2.cl = e.cl then _ else _ : Ss).under = true
    rw [if_pos hc]
    unfold evF
    rw [if_pos (show (!e.fresh && !e.fin) = true from hb)]
    rfl
  unfold evF at h3
  rw [if_pos (show (!e2.fresh && !e2.fin) = true from hb2)] at h3
  unfold begF at h3
  dsimp only at h3
  rw [hu, Bool.true_or, if_pos rfl] at h3
  cases h3
theorem snoc_ind {α : Type} {P : List α → Prop} (h0 : P []) (h1 : ∀ l a, P l → P (l ++ [a])) (l : List α) : P l := by
  have h : ∀ l : List α, P l.reverse := fun l => by
    induction l with
    | nil => exact h0
    | cons a l ih => rw [List.reverse_cons]; exact h1 _ _ ih
  have := h l.reverse
  rwa [List.reverse_reverse] at this
def pairE (i : Nat) (p : ByteArray × ByteArray) : List Ev := [begE i p, endE i p (wrt i p)]
def hist (ps : List (ByteArray × ByteArray)) : List Ev := (ps.mapIdx pairE).flatten
theorem hist_snoc (ps : List (ByteArray × ByteArray)) (p : ByteArray × ByteArray) : hist (ps ++ [p]) = hist ps ++ pairE ps.length p := by
  unfold hist
  rw [List.mapIdx_append, List.flatten_append]
  simp
theorem hist_len (ps : List (ByteArray × ByteArray)) : (hist ps).length = 2 * ps.length := by
  refine snoc_ind (P := fun ps => (hist ps).length = 2 * ps.length) rfl (fun ps p ih => ?_) ps
  show (hist (ps ++ [p])).length = _
  rw [hist_snoc, List.length_append, List.length_append, ih]
  show _ + 2 = 2 * (_ + 1)
  omega
theorem hist_get (ps : List (ByteArray × ByteArray)) {i : Nat} {p : ByteArray × ByteArray} (h : ps[i]? = some p) : (hist ps)[2 * i]? = some (begE i p) ∧ (hist ps)[2 * i + 1]? = some (endE i p (wrt i p)) := by
  revert h
  refine snoc_ind (P := fun ps => ps[i]? = some p → (hist ps)[2 * i]? = some (begE i p) ∧ (hist ps)[2 * i + 1]? = some (endE i p (wrt i p))) (fun h => by cases h) (fun ps q ih h => ?_) ps
  · rw [hist_snoc]
    have hl := hist_len ps
    by_cases hi : i < ps.length
    · rw [List.getElem?_append_left hi] at h
      have := ih h
      rw [List.getElem?_append_left (by omega), List.getElem?_append_left (by omega)]
      exact this
    · have hi2 : i < (ps ++ [q]).length := (List.getElem?_eq_some_iff.1 h).1
      rw [List.length_append] at hi2
      obtain rfl : i = ps.length := by simp at hi2; omega
      rw [List.getElem?_append_right (Nat.le_refl _), Nat.sub_self] at h
      obtain rfl : q = p := Option.some.inj h
      rw [List.getElem?_append_right (by omega), List.getElem?_append_right (by omega), hl, Nat.sub_self, Nat.add_sub_cancel_left]
      exact ⟨rfl, rfl⟩
structure WInv (i : Nat) (s : Ss) : Prop where
  u : s.under = false
  o : s.some = true → s.op = (i : Int)
  z : i = 0 → s.some = false
  c : s.cut = cutN i
theorem stC_one {k : Ck} {j : Nat} {e : Ev} (he : k.h[j]? = some e) (c : Int) (hc : e.cl = c) : (stC k (j + 1)).1 c = (evF (atK k j) ((stC k j).1 c) e).2 := by
  subst hc
  rw [stC_succ he]
  exact if_pos rfl
theorem stC_two {k : Ck} {j : Nat} {e : Ev} (he : k.h[j]? = some e) (c : Int) (hc : e.cl = c) : (stC k (j + 1)).2 = (stC k j).2 ++ (evF (atK k j) ((stC k j).1 c) e).1.map fun r => (⟨j, r⟩ : Fi) := by
  subst hc
  rw [stC_succ he]
theorem hist_right (ps : List (ByteArray × ByteArray)) : ∀ i, i ≤ ps.length → WInv i ((stC (kOf (hist ps) (wrts ps)) (2 * i)).1 0) ∧ (stC (kOf (hist ps) (wrts ps)) (2 * i)).2 = []
  | 0, _ => ⟨⟨rfl, fun h => (by cases h), fun _ => rfl, rfl⟩, rfl⟩
  | i + 1, hi => by
    obtain ⟨hw, hf⟩ := hist_right ps i (by omega)
    obtain ⟨p, hp⟩ : ∃ p, ps[i]? = some p := ⟨_, List.getElem?_eq_getElem (by omega)⟩
    obtain ⟨h1, h2⟩ := hist_get ps hp
    have g1 : (kOf (hist ps) (wrts ps)).h[2 * i]? = some (begE i p) := h1
    have g2 : (kOf (hist ps) (wrts ps)).h[2 * i + 1]? = some (endE i p (wrt i p)) := h2
    obtain ⟨s, hs⟩ : ∃ s, (stC (kOf (hist ps) (wrts ps)) (2 * i)).1 0 = s := ⟨_, rfl⟩
    rw [hs] at hw
    have hop : ¬ (s.some = true ∧ (i : Int) + 1 ≤ s.op) := fun h => by have := hw.o h.1; omega
    have hb : evF (atK (kOf (hist ps) (wrts ps)) (2 * i)) s (begE i p) = ([], ⟨true, begE i p, (i : Int) + 1, true, cutN i⟩) := by
      unfold evF
      rw [if_pos (show (!(begE i p).fresh && !(begE i p).fin) = true from rfl)]
      unfold begF
      have e1 : (s.under || s.some && decide ((begE i p).op ≤ s.op)) = false := by
        rw [hw.u, Bool.false_or]
        cases hq : s.some
        · rfl
        · exact decide_eq_false (fun h => hop ⟨hq, h⟩)
      have e2 : (!s.some || decide (s.op < (begE i p).op)) = true := by
        cases hq : s.some
        · rfl
        · rw [decide_eq_true (show s.op < (begE i p).op by have := hw.o hq; show s.op < (i : Int) + 1; omega)]; rfl
      rw [e1, e2, hw.c]
      rfl
    have hm : (stC (kOf (hist ps) (wrts ps)) (2 * i + 1)).1 0 = ⟨true, begE i p, (i : Int) + 1, true, cutN i⟩ ∧ (stC (kOf (hist ps) (wrts ps)) (2 * i + 1)).2 = [] := by
      rw [stC_one g1 0 rfl, stC_two g1 0 rfl, hf, hs, hb]
      exact ⟨rfl, rfl⟩
    have he : evF (atK (kOf (hist ps) (wrts ps)) (2 * i + 1)) ⟨true, begE i p, (i : Int) + 1, true, cutN i⟩ (endE i p (wrt i p)) = ([], ⟨false, begE i p, (i : Int) + 1, true, cutN (i + 1)⟩) := by
      unfold evF
      rw [if_neg (show ¬ (!(endE i p (wrt i p)).fresh && !(endE i p (wrt i p)).fin) = true by simp [endE]), if_neg (show ¬ (endE i p (wrt i p)).fresh = true by simp [endE])]
      have hr : ∀ q, q < 8 → (rulesF (atK (kOf (hist ps) (wrts ps)) (2 * i + 1)) ⟨true, begE i p, (i : Int) + 1, true, cutN i⟩ (endE i p (wrt i p))).getD q true = true := by
        have k2 : r2 ⟨true, begE i p, (i : Int) + 1, true, cutN i⟩ (endE i p (wrt i p)) = true := by simp [r2, endE, begE]
        have k3 : shapedP (endE i p (wrt i p)) = true := by simp [shapedP, endE]
        have k4 : r4 (atK (kOf (hist ps) (wrts ps)) (2 * i + 1)) (endE i p (wrt i p)) = true := by
          have ha : askM (wrt i p) (begE i p) = true := by simp [askM, begE, wrt]
          have hy : ((hist ps).take (2 * i + 1)).any (askM (wrt i p)) = true := List.any_eq_true.2 ⟨begE i p, List.mem_of_getElem? (i := 2 * i) (by rw [List.getElem?_take, if_pos (by omega)]; exact h1), ha⟩
          show (!([(⟨p.1, true, wrt i p⟩ : Rs)].any fun r => !(decide (r.e.key = r.key) && ((hist ps).take (2 * i + 1)).any (askM r.e)))) = true
          rw [List.any_cons, List.any_nil, hy, Bool.and_true, decide_eq_true (show (wrt i p).key = p.1 from rfl)]
          rfl
        have k5 : r5 (endE i p (wrt i p)) = true := by simp [r5, endE, putsP, ownF, wrt]
        have k6 : r6 ⟨true, begE i p, (i : Int) + 1, true, cutN i⟩ (endE i p (wrt i p)) = true := cut_covers (i + 1) i (by omega)
        have k7 : r7 (endE i p (wrt i p)) = true := by
          show (!([(⟨p.1, true, wrt i p⟩ : Rs)].any fun r => !Vec.coversV (cutN (i + 1)) (Vec.pastL [r.e]))) = true
          rw [List.any_cons, List.any_nil, cut_past, cut_covers (i + 1) (i + 1) (Nat.le_refl _)]
          rfl
        have k8 : r8 (atK (kOf (hist ps) (wrts ps)) (2 * i + 1)) (endE i p (wrt i p)) = true := by
          show (!([(⟨p.1, true, wrt i p⟩ : Rs)].any fun r => ((Vec.visible r.key (cutN (i + 1)) (wrts ps)).2 != r.has) || !Vec.eqEnt (Vec.visible r.key (cutN (i + 1)) (wrts ps)).1 r.e)) = true
          rw [List.any_cons, List.any_nil, wrts_sees hp, Vec.eqEnt_iff.2 rfl]
          rfl
        have k9 : r9 (atK (kOf (hist ps) (wrts ps)) (2 * i + 1)) (endE i p (wrt i p)) = true := wrts_closed ps (i + 1)
        intro q hq
        unfold rulesF
        rw [k2, k3, k4, k5, k6, k7, k8, k9]
        match q, hq with
        | 0, _ => rfl
        | 1, _ => rfl
        | 2, _ => rfl
        | 3, _ => rfl
        | 4, _ => rfl
        | 5, _ => rfl
        | 6, _ => rfl
        | 7, _ => rfl
      have h0 : endF (atK (kOf (hist ps) (wrts ps)) (2 * i + 1)) ⟨true, begE i p, (i : Int) + 1, true, cutN i⟩ (endE i p (wrt i p)) = [] := by
        unfold endF
        rw [List.map_eq_nil_iff, List.filter_eq_nil_iff]
        intro q hq
        rw [hr q (List.mem_range.1 hq)]
        simp
      rw [h0]
      rfl
    rw [show 2 * (i + 1) = 2 * i + 1 + 1 by omega, stC_one g2 0 rfl, stC_two g2 0 rfl, hm.2, hm.1, he]
    exact ⟨⟨rfl, fun _ => by show (i : Int) + 1 = ((i + 1 : Nat) : Int); omega, fun h => by omega, rfl⟩, rfl⟩
/-- a client that does nothing but put is right -/
theorem hist_finds (ps : List (ByteArray × ByteArray)) : findL (hist ps) (wrts ps) = [] := by
  rw [findL_eq, hist_len]
  exact (hist_right ps ps.length (Nat.le_refl _)).2
end Au
end Go.Proofs.Ytelephoalpphkaa
end
section
/- The walk of AuditWrites. No conditions. -/
set_option maxRecDepth 8000
namespace Go.Proofs.Ytelephoalpphkaa
open Go.ChangeShapes Go.WideShapes Go.ChangeAt Go.RowKit
set_option linter.unusedVariables false
set_option linter.unusedSimpArgs false
theorem Mem.Own.ne {w : World} {e1 e2 : TypeId} {z1 z2 s g o1 o2 n1 n2 c1 c2 : Nat} {xs ys : List Value} (h1 : Mem.Own w e1 z1 (some ⟨s, o1, none⟩) n1 c1 xs) (h2 : Mem.Own w e2 z2 (some ⟨g, o2, none⟩) n2 c2 ys) (he : e1 ≠ e2) : s ≠ g := by
  rintro rfl
  rcases h1.2 with ⟨h, _⟩ | ⟨g1, p1, cu1, ha, hg1, _⟩
  · cases h
  rcases h2.2 with ⟨h, _⟩ | ⟨g2, p2, cu2, hb, hg2, _⟩
  · cases h
  cases ha
  cases hb
  rw [hg1] at hg2
  injection hg2 with h3
  injection h3 with h4 h5
  exact he h5
namespace Au
/-- an event whose lists lie below the heap's end, apart from the blocks that the client writes -/
structure WrE (S : Nat → Prop) (w : World) (e : Ev) : Prop where
  k : Mem.Rd w w.heap.size e.kA (e.keys.map sv)
  r : Mem.Rd w w.heap.size e.rA (e.res.flatMap rsCells)
  kl : e.keys.length ≤ e.kc
  rl : e.res.length ≤ e.rc
  kn : e.kc ≤ 1
  rn : e.rc ≤ 1
  ks : ∀ q, Mem.blk e.kA = some q → ¬ S q
  rs : ∀ q, Mem.blk e.rA = some q → ¬ S q
  kb : ∀ q, Mem.blk e.kA = some q → q < w.heap.size
  rb : ∀ q, Mem.blk e.rA = some q → q < w.heap.size
/-- where the client's lists lie -/
def wrS (X8 X9 : Option Addr) (gc : Nat) (q : Nat) : Prop := q = gc ∨ Mem.blk X8 = some q ∨ Mem.blk X9 = some q
structure Wr (w : World) (ps : List (ByteArray × ByteArray)) (k m n : Nat) (X8 : Option Addr) (c8 : Nat) (X9 : Option Addr) (c9 : Nat) (gc : Nat) (es : List Ev) (wr : World) : Prop where
  b : es.map bare = hist (ps.take k)
  H : Mem.Own wr 46 20 X8 (2 * k) c8 (es.flatMap evCells)
  W : Mem.Own wr 35 20 X9 n c9 ((wrts (ps.take n)).flatMap Vec.entCells)
  C : Vec.VBx wr gc (cutN m)
  e : ∀ e ∈ es, WrE (wrS X8 X9 gc) wr e
  hw : ∀ q, Mem.blk X8 = some q → Mem.blk X9 ≠ some q
  hc : Mem.blk X8 ≠ some gc
  wc : Mem.blk X9 ≠ some gc
  f8 : Mem.From w.heap.size X8
  f9 : Mem.From w.heap.size X9
  fc : w.heap.size ≤ gc
  bl : Below w.heap.size w wr
theorem WrE.later {S : Nat → Prop} {w w' : World} {e : Ev} (h : WrE S w e) (hb : Below w.heap.size w w') : WrE S w' e :=
  ⟨(h.k.below hb).more hb.size, (h.r.below hb).more hb.size, h.kl, h.rl, h.kn, h.rn, h.ks, h.rs, fun q hq => Nat.lt_of_lt_of_le (h.kb q hq) hb.size, fun q hq => Nat.lt_of_lt_of_le (h.rb q hq) hb.size⟩
theorem WrE.keeps {S S' T : Nat → Prop} {w w' : World} {e : Ev} (h : WrE S w e) (hk : Mem.Keeps T w w') (hT : ∀ q, T q → S q) (hS : ∀ q, q < w.heap.size → S' q → S q) : WrE S' w' e :=
  ⟨h.k.keepsAt hk (Nat.le_refl _) (fun q hq t => h.ks q hq (hT q t)), h.r.keepsAt hk (Nat.le_refl _) (fun q hq t => h.rs q hq (hT q t)), h.kl, h.rl, h.kn, h.rn, fun q hq hs => h.ks q hq (hS q (h.kb q hq) hs), fun q hq hs => h.rs q hq (hS q (h.rb q hq) hs), fun q hq => Nat.lt_of_lt_of_le (h.kb q hq) hk.size, fun q hq => Nat.lt_of_lt_of_le (h.rb q hq) hk.size⟩
theorem Wr.later {w : World} {ps : List (ByteArray × ByteArray)} {k m n : Nat} {X8 : Option Addr} {c8 : Nat} {X9 : Option Addr} {c9 : Nat} {gc : Nat} {es : List Ev} {wr w' : World} (h : Wr w ps k m n X8 c8 X9 c9 gc es wr) (hb : Below wr.heap.size wr w') : Wr w ps k m n X8 c8 X9 c9 gc es w' :=
  ⟨h.b, h.H.below hb (fun q hq => h.H.lt hq), h.W.below hb (fun q hq => h.W.lt hq), h.C.below hb h.C.lt, fun e he => (h.e e he).later hb, h.hw, h.hc, h.wc, h.f8, h.f9, h.fc, h.bl.trans (hb.mono h.bl.size)⟩
theorem Wr.fresh {w : World} {ps : List (ByteArray × ByteArray)} {k m n : Nat} {X8 : Option Addr} {c8 : Nat} {X9 : Option Addr} {c9 : Nat} {gc : Nat} {es : List Ev} {wr : World} (h : Wr w ps k m n X8 c8 X9 c9 gc es wr) {q : Nat} (hq : wr.heap.size ≤ q) : ¬ wrS X8 X9 gc q := by
  rintro (rfl | h1 | h1)
  · have := h.C.lt; omega
  · have := h.H.lt h1; omega
  · have := h.W.lt h1; omega
theorem Wr.cut {w : World} {ps : List (ByteArray × ByteArray)} {k m m' n : Nat} {X8 : Option Addr} {c8 : Nat} {X9 : Option Addr} {c9 : Nat} {gc : Nat} {es : List Ev} {wr w' : World} (h : Wr w ps k m n X8 c8 X9 c9 gc es wr) (hk : Mem.Keeps (fun q => q = gc) wr w') (hC : Vec.VBx w' gc (cutN m')) : Wr w ps k m' n X8 c8 X9 c9 gc es w' :=
  ⟨h.b, h.H.keeps hk (fun q hq e => h.hc (hq.trans (congrArg some e))), h.W.keeps hk (fun q hq e => h.wc (hq.trans (congrArg some e))), hC, fun e he => (h.e e he).keeps hk (fun q e => .inl e) (fun q _ e => e), h.hw, h.hc, h.wc, h.f8, h.f9, h.fc, h.bl.trans (hk.below (B := w.heap.size) (fun q e => by rw [e]; exact h.fc) h.bl.size)⟩
theorem wrts_snoc (ps : List (ByteArray × ByteArray)) (p : ByteArray × ByteArray) : wrts (ps ++ [p]) = wrts ps ++ [wrt ps.length p] := by
  unfold wrts
  rw [List.mapIdx_append]
  simp
theorem hist_bare (ps : List (ByteArray × ByteArray)) : (hist ps).map bare = hist ps := by
  refine snoc_ind (P := fun ps => (hist ps).map bare = hist ps) rfl (fun ps p ih => ?_) ps
  show (hist (ps ++ [p])).map bare = _
  rw [hist_snoc, List.map_append, ih]
  rfl
theorem hist_mem {ps : List (ByteArray × ByteArray)} {e : Ev} (h : e ∈ hist ps) : e.cl = 0 := by
  unfold hist at h
  obtain ⟨l, hl, he⟩ := List.mem_flatten.1 h
  obtain ⟨j, hj, rfl⟩ := List.mem_mapIdx.1 hl
  rcases List.mem_cons.1 he with rfl | he
  · rfl
  · rw [List.mem_singleton] at he; subst he; rfl
def enF (i : Nat) (p : ByteArray × ByteArray) (x : Vec.Ent) (kA : Option Addr) (kc : Nat) (rA : Option Addr) (rc : Nat) : Ev := ⟨0, (i : Int) + 1, 1, kA, kc, [p.1], p.2, 0, 0, false, true, 0, rA, rc, [⟨p.1, true, x⟩], cutN (i + 1)⟩
theorem bare_end {i : Nat} {p : ByteArray × ByteArray} {x : Vec.Ent} {e : Ev} (h : bare e = endE i p x) : ∃ kA kc rA rc, e = enF i p x kA kc rA rc := by
  obtain ⟨a1, a2, a3, a4, a5, a6, a7, a8, a9, a10, a11, a12, a13, a14, a15, a16⟩ := e
  unfold bare endE at h
  simp only [Ev.mk.injEq] at h
  obtain ⟨rfl, rfl, rfl, -, -, rfl, rfl, rfl, rfl, rfl, rfl, rfl, -, -, rfl, rfl⟩ := h
  exact ⟨a4, a5, a13, a14, rfl⟩
theorem bare_get {l m : List Ev} (h : l.map bare = m) {j : Nat} {x : Ev} (hx : m[j]? = some x) : ∃ e, l[j]? = some e ∧ bare e = x := by
  subst h
  rw [List.getElem?_map] at hx
  cases hl : l[j]? with
  | none => rw [hl] at hx; cases hx
  | some e => rw [hl] at hx; exact ⟨e, rfl, Option.some.inj hx⟩
theorem ok0 : okI 0 := by unfold okI; decide
/-- another value under the same write -/
def wrtV (i : Nat) (p : ByteArray × ByteArray) (v : ByteArray) : Vec.Ent := ⟨0, 0, (i : Int) + 1, ⟨(i : Int) + 1, 0, 0⟩, p.1, v, false, cutN i, 0, (i : Int) + 1⟩
theorem set_cells {l : List Ev} {j : Nat} {e e7 : Ev} (he : l[j]? = some e) (hc : evCells e7 = evCells e) : (l.set j e7).flatMap evCells = l.flatMap evCells := by
  rw [List.flatMap_def, List.flatMap_def, List.map_set, hc]
  obtain ⟨hj, hx⟩ := List.getElem?_eq_some_iff.1 he
  congr 1
  refine List.ext_getElem? fun q => ?_
  rw [List.getElem?_set]
  split
  · rename_i h; subst h
    rw [List.length_map, if_pos hj, List.getElem?_map, he]; rfl
  · rfl
/-- one event of a history in new memory is turned -/
theorem Tw.turn {w0 : World} {h : List Ev} {X : Option Addr} {c : Nat} {hs : List Ev} {w6 w7 : World} (t : Tw w0 h h.length X c hs w6) {j : Nat} {e e7 : Ev} (he : hs[j]? = some e) {rb : Nat} (hr : Mem.blk e.rA = some rb) (hk : Mem.Keeps (fun q => q = rb) w6 w7) (h7 : EvOk w7 w7.heap.size e7) (hc : evCells e7 = evCells e) (hcl : okI e7.cl ∧ e7.res.length ≤ 703687441776) (hd : ∀ e ∈ h, okI e.cl ∧ e.res.length ≤ 703687441776) :
    Mem.Rd w7 w7.heap.size X ((hs.set j e7).flatMap evCells) ∧ ∀ e' ∈ hs.set j e7, EvOk w7 w7.heap.size e' ∧ okI e'.cl ∧ e'.res.length ≤ 703687441776 := by
  have hm := List.mem_of_getElem? he
  obtain ⟨hj, hx⟩ := List.getElem?_eq_some_iff.1 he
  refine ⟨?_, fun e' he' => ?_⟩
  · rw [set_cells he hc]
    exact t.o.rd.keepsAt hk (Nat.le_refl _) (fun q hq e1 => by subst e1; exact ((t.e e hm).kx q hq).2 hr)
  · obtain ⟨q, hq⟩ := List.getElem?_of_mem he'
    rw [List.getElem?_set] at hq
    split at hq
    · obtain rfl := Option.some.inj hq
      exact ⟨h7, hcl⟩
    · rename_i hne
      have hm' := List.mem_of_getElem? hq
      obtain ⟨hq2, hx2⟩ := List.getElem?_eq_some_iff.1 hq
      have hlt : ∀ r, (Mem.blk e'.kA = some r ∨ Mem.blk e'.rA = some r) → ¬ r = rb := fun r h1 h2 => by
        subst h2
        rcases Nat.lt_or_ge q j with h3 | h3
        · have h4 := List.pairwise_iff_getElem.1 t.p q j hq2 hj h3
          rw [hx2, hx] at h4
          exact Nat.lt_irrefl _ (h4 r r h1 (.inr hr))
        · have h4 := List.pairwise_iff_getElem.1 t.p j q hj hq2 (by omega)
          rw [hx2, hx] at h4
          exact Nat.lt_irrefl _ (h4 r r (.inr hr) h1)
      obtain ⟨e0, he0, hbe⟩ := t.mem hm'
      refine ⟨((t.e e' hm').keeps hk hlt).ok, ?_, ?_⟩
      · rw [bare_cl hbe]; exact (hd e0 he0).1
      · rw [bare_res hbe]; exact (hd e0 he0).2
/-- the turned value is found out -/
theorem turn_finds {ps : List (ByteArray × ByteArray)} {i : Nat} {p : ByteArray × ByteArray} (hp : ps[i]? = some p) {v : ByteArray} (hv : v ≠ p.2) {l : List Ev} {kA : Option Addr} {kc : Nat} {rA : Option Addr} {rc j : Nat} (h : l[j]? = some (enF i p (wrtV i p v) kA kc rA rc)) : findL l (wrts ps) ≠ [] := by
  refine finds_sees h rfl rfl ?_
  show (!([(⟨p.1, true, wrtV i p v⟩ : Rs)].any fun r => ((Vec.visible r.key (cutN (i + 1)) (wrts ps)).2 != r.has) || !Vec.eqEnt (Vec.visible r.key (cutN (i + 1)) (wrts ps)).1 r.e)) = false
  have h1 : Vec.eqEnt (wrt i p) (wrtV i p v) = false := by
    cases h2 : Vec.eqEnt (wrt i p) (wrtV i p v) with
    | false => rfl
    | true =>
      have h3 := Vec.eqEnt_iff.1 h2
      exact absurd (congrArg Vec.Ent.val h3).symm hv
  rw [List.any_cons, List.any_nil]
  show (!((((Vec.visible p.1 (cutN (i + 1)) (wrts ps)).2 != true) || !Vec.eqEnt (Vec.visible p.1 (cutN (i + 1)) (wrts ps)).1 (wrtV i p v)) || false)) = false
  rw [wrts_sees hp, h1]
  rfl
theorem own_neb {w : World} {e1 e2 : TypeId} {z1 z2 n1 n2 c1 c2 : Nat} {A1 A2 : Option Addr} {xs ys : List Value} (h1 : Mem.Own w e1 z1 A1 n1 c1 xs) (h2 : Mem.Own w e2 z2 A2 n2 c2 ys) (he : e1 ≠ e2) : ∀ q, Mem.blk A1 = some q → ¬ Mem.blk A2 = some q := fun q hq hq2 => by
  rcases h1.2 with ⟨h, _⟩ | ⟨g1, p1, cu1, ha, hg1, _⟩
  · subst h; cases hq
  rcases h2.2 with ⟨h, _⟩ | ⟨g2, p2, cu2, hb, hg2, _⟩
  · subst h; cases hq2
  subst ha hb
  have e3 : g1 = q := Option.some.inj hq
  have e4 : g2 = q := Option.some.inj hq2
  subst e3 e4
  rw [hg1] at hg2
  injection hg2 with h3
  injection h3 with h4 h5
  exact he h5
/-- a history in memory of its own -/
structure TwB (B : Nat) (h : List Ev) (X : Option Addr) (c : Nat) (hs : List Ev) (u : World) : Prop where
  b : hs.map bare = h.map bare
  o : Mem.Own u 46 20 X hs.length c (hs.flatMap evCells)
  f : Mem.From B X
  e : ∀ e ∈ hs, Mem.Own u 9 1 e.kA e.keys.length e.kc (e.keys.map sv) ∧ Mem.Own u 48 22 e.rA e.res.length e.rc (e.res.flatMap rsCells)
theorem TwB.of {w0 : World} {h : List Ev} {X : Option Addr} {c : Nat} {hs : List Ev} {u : World} {B : Nat} (t : Tw w0 h h.length X c hs u) (hB : B ≤ w0.heap.size) : TwB B h X c hs u :=
  ⟨by rw [t.b, List.take_length], t.o, t.f.mono hB, fun e he => ⟨(t.e e he).k, (t.e e he).r⟩⟩
theorem TwB.len {B : Nat} {h : List Ev} {X : Option Addr} {c : Nat} {hs : List Ev} {u : World} (t : TwB B h X c hs u) : hs.length = h.length := by
  have := congrArg List.length t.b
  rwa [List.length_map, List.length_map] at this
theorem TwB.keeps {B : Nat} {h : List Ev} {X : Option Addr} {c : Nat} {hs : List Ev} {u u' : World} {S : Nat → Prop} (t : TwB B h X c hs u) (hk : Mem.Keeps S u u') (hS : ∀ q, ¬ S q) : TwB B h X c hs u' :=
  ⟨t.b, t.o.keeps hk (fun q _ => hS q), t.f, fun e he => ⟨(t.e e he).1.keeps hk (fun q _ => hS q), (t.e e he).2.keeps hk (fun q _ => hS q)⟩⟩
theorem TwB.app {B : Nat} {h h2 : List Ev} {X X2 X' : Option Addr} {c c2 c' : Nat} {hs hs2 : List Ev} {u u' : World} (t : TwB B h X c hs u) (t2 : TwB B h2 X2 c2 hs2 u) (hk : Mem.Keeps (fun q => Mem.blk X = some q) u u') (hO : Mem.Own u' 46 20 X' (hs.length + hs2.length) c' (hs.flatMap evCells ++ hs2.flatMap evCells)) (hf : Mem.From B X') : TwB B (h ++ h2) X' c' (hs ++ hs2) u' := by
  refine ⟨by rw [List.map_append, List.map_append, t.b, t2.b], by rw [List.length_append, List.flatMap_append]; exact hO, hf, fun e he => ?_⟩
  have h1 : Mem.Own u 9 1 e.kA e.keys.length e.kc (e.keys.map sv) ∧ Mem.Own u 48 22 e.rA e.res.length e.rc (e.res.flatMap rsCells) := (List.mem_append.1 he).elim (t.e e) (t2.e e)
  exact ⟨h1.1.keeps hk (own_neb h1.1 t.o (by decide)), h1.2.keeps hk (own_neb h1.2 t.o (by decide))⟩
theorem TwB.ok {B : Nat} {h : List Ev} {X : Option Addr} {c : Nat} {hs : List Ev} {u : World} (t : TwB B h X c hs u) (hd : ∀ e ∈ h, okI e.cl ∧ e.res.length ≤ 703687441776) : ∀ e ∈ hs, EvOk u u.heap.size e ∧ okI e.cl ∧ e.res.length ≤ 703687441776 := fun e he => by
  obtain ⟨h1, h2⟩ := t.e e he
  have h3 : bare e ∈ h.map bare := by rw [← t.b]; exact List.mem_map_of_mem he
  obtain ⟨e0, he0, hbe⟩ := List.mem_map.1 h3
  refine ⟨⟨h1.rd, h2.rd, h1.le, h2.le, h1.cap, h2.cap⟩, ?_, ?_⟩
  · rw [bare_cl hbe.symm]; exact (hd e0 he0).1
  · rw [bare_res hbe.symm]; exact (hd e0 he0).2
/-- a missing end is found out -/
theorem miss_finds {ps : List (ByteArray × ByteArray)} {i : Nat} (hi : i + 1 < ps.length) {l : List Ev} (h : l.map bare = (hist ps).take (2 * i + 1) ++ (hist ps).drop (2 * i + 2)) : findL l (wrts ps) ≠ [] := by
  obtain ⟨p, hp⟩ : ∃ p, ps[i]? = some p := ⟨_, List.getElem?_eq_getElem (by omega)⟩
  obtain ⟨p2, hp2⟩ : ∃ p, ps[i + 1]? = some p := ⟨_, List.getElem?_eq_getElem hi⟩
  have hl := hist_len ps
  have h1 : ((hist ps).take (2 * i + 1) ++ (hist ps).drop (2 * i + 2))[2 * i]? = some (begE i p) := by
    rw [List.getElem?_append_left (by rw [List.length_take]; omega), List.getElem?_take, if_pos (by omega)]
    exact (hist_get ps hp).1
  have h2 : ((hist ps).take (2 * i + 1) ++ (hist ps).drop (2 * i + 2))[2 * i + 1]? = some (begE (i + 1) p2) := by
    have h3 : ((hist ps).take (2 * i + 1)).length = 2 * i + 1 := by rw [List.length_take]; omega
    rw [List.getElem?_append_right (by omega), h3, Nat.sub_self, List.getElem?_drop]
    exact (hist_get ps hp2).1
  obtain ⟨e, he, hb⟩ := bare_get h h1
  obtain ⟨e2, he2, hb2⟩ := bare_get h h2
  have a1 : e.fresh = false := congrArg Ev.fresh hb
  have a2 : e.fin = false := congrArg Ev.fin hb
  have a3 : e2.fresh = false := congrArg Ev.fresh hb2
  have a4 : e2.fin = false := congrArg Ev.fin hb2
  have a5 : e.cl = 0 := congrArg Ev.cl hb
  have a6 : e2.cl = 0 := congrArg Ev.cl hb2
  exact finds_under he he2 (by unfold beg; rw [a1, a2]; rfl) (by unfold beg; rw [a3, a4]; rfl) (a6.trans a5.symm)
theorem flat_drop' {α : Type} {f : α → List Value} {n : Nat} (hf : ∀ x, (f x).length = n) : ∀ (l : List α) (k : Nat), (l.flatMap f).drop (k * n) = (l.drop k).flatMap f
  | _, 0 => by simp
  | [], k + 1 => by simp
  | x :: l, k + 1 => by
    rw [List.flatMap_cons, List.drop_succ_cons, ← flat_drop' hf l k, show (k + 1) * n = (f x).length + k * n by rw [hf, Nat.add_mul, Nat.one_mul, Nat.add_comm], ← List.drop_drop, List.drop_left]
/-- the place of the write that is turned -/
theorem at_nums {L : Nat} (h : L ≤ 360) (h0 : L ≠ 0) (t : Int) : ∃ n : Nat, n < L ∧ (wrap64 (Int.tmod t (L : Int) + L)).tmod (L : Int) = n := by
  have h1 : -(L : Int) < Int.tmod t (L : Int) ∧ Int.tmod t (L : Int) < (L : Int) := by
    refine ⟨?_, Int.tmod_lt_of_pos _ (by omega)⟩
    rcases Int.le_total 0 t with h | h
    · have := Int.tmod_nonneg (L : Int) h; omega
    · have h2 := Int.tmod_lt_of_pos (-t) (b := (L : Int)) (by omega)
      rw [Int.neg_tmod] at h2
      omega
  have h2 : wrap64 (Int.tmod t (L : Int) + L) = Int.tmod t (L : Int) + L := IntWalk.wrap64_in _ (by omega)
  rw [h2]
  have h4 := Int.tmod_nonneg (a := Int.tmod t (L : Int) + L) (L : Int) (by omega)
  have h5 := Int.tmod_lt_of_pos (Int.tmod t (L : Int) + L) (b := (L : Int)) (by omega)
  exact ⟨(Int.tmod (Int.tmod t (L : Int) + L) (L : Int)).toNat, by omega, by omega⟩
theorem take_len {α : Type} {l : List α} {k : Nat} {x : α} (h : l[k]? = some x) : (l.take k).length = k := by
  have := (List.getElem?_eq_some_iff.1 h).1
  rw [List.length_take]
  omega
theorem Wr.more8 {w : World} {ps : List (ByteArray × ByteArray)} {k m n : Nat} {X8 : Option Addr} {c8 : Nat} {X9 : Option Addr} {c9 : Nat} {gc : Nat} {es : List Ev} {wr w' : World} (h : Wr w ps k m n X8 c8 X9 c9 gc es wr) {p : ByteArray × ByteArray} (hp : ps[k]? = some p) {X : Option Addr} {c : Nat} {eB eE : Ev} (hk : Mem.Keeps (fun q => Mem.blk X8 = some q) wr w')
    (hO : Mem.Own w' 46 20 X (2 * k + 2) c (es.flatMap evCells ++ (evCells eB ++ evCells eE))) (hA : X = X8 ∨ X = some ⟨wr.heap.size, 0, none⟩) (hB : bare eB = begE k p) (hE : bare eE = endE k p (wrt k p)) (h1 : WrE (wrS X8 X9 gc) wr eB) (h2 : WrE (wrS X8 X9 gc) wr eE) : Wr w ps (k + 1) m n X c X9 c9 gc (es ++ [eB, eE]) w' := by
  have hd : ∀ q, q < wr.heap.size → wrS X X9 gc q → wrS X8 X9 gc q := by
    rintro q hq (e | e | e)
    · exact .inl e
    · rcases hA with rfl | rfl
      · exact .inr (.inl e)
      · have h3 : wr.heap.size = q := Option.some.inj e; omega
    · exact .inr (.inr e)
  refine ⟨?_, ?_, h.W.keeps hk (fun q hq e => h.hw q e hq), h.C.keeps hk h.hc, fun e he => ?_, fun q hq => ?_, ?_, h.wc, ?_, h.f9, h.fc, h.bl.trans (hk.below (B := w.heap.size) (fun q e => h.f8.blk q e) h.bl.size)⟩
  · rw [Mem.take_snoc hp, hist_snoc, take_len hp, List.map_append, h.b]
    show _ ++ [bare eB, bare eE] = _
    rw [hB, hE]; rfl
  · show Mem.Own w' _ 20 X (2 * k + 2) c _
    rw [List.flatMap_append]
    simpa using hO
  · refine WrE.keeps (S := wrS X8 X9 gc) ?_ hk (fun q e => .inr (.inl e)) hd
    rcases List.mem_append.1 he with h3 | h3
    · exact h.e e h3
    · rcases List.mem_cons.1 h3 with rfl | h3
      · exact h1
      · rw [List.mem_singleton] at h3; subst h3; exact h2
  · rcases hA with rfl | rfl
    · exact h.hw q hq
    · intro h4
      have h3 : wr.heap.size = q := Option.some.inj hq
      have := h.W.lt h4; omega
  · rcases hA with rfl | rfl
    · exact h.hc
    · intro h4
      have h3 : wr.heap.size = gc := Option.some.inj h4
      have := h.C.lt; omega
  · rcases hA with rfl | rfl
    · exact h.f8
    · exact Mem.From.some_ h.bl.size
theorem Wr.more9 {w : World} {ps : List (ByteArray × ByteArray)} {k m n : Nat} {X8 : Option Addr} {c8 : Nat} {X9 : Option Addr} {c9 : Nat} {gc : Nat} {es : List Ev} {wr w' : World} (h : Wr w ps k m n X8 c8 X9 c9 gc es wr) {p : ByteArray × ByteArray} (hp : ps[n]? = some p) {X : Option Addr} {c : Nat} (hk : Mem.Keeps (fun q => Mem.blk X9 = some q) wr w')
    (hO : Mem.Own w' 35 20 X (n + 1) c ((wrts (ps.take n)).flatMap Vec.entCells ++ Vec.entCells (wrt n p))) (hA : X = X9 ∨ ∃ z, wr.heap.size ≤ z ∧ X = some ⟨z, 0, none⟩) : Wr w ps k m (n + 1) X8 c8 X c gc es w' := by
  have hd : ∀ q, q < wr.heap.size → wrS X8 X gc q → wrS X8 X9 gc q := by
    rintro q hq (e | e | e)
    · exact .inl e
    · exact .inr (.inl e)
    · rcases hA with rfl | ⟨z, hz, rfl⟩
      · exact .inr (.inr e)
      · have h3 : z = q := Option.some.inj e; omega
  refine ⟨h.b, h.H.keeps hk (fun q hq e => h.hw q hq e), ?_, h.C.keeps hk h.wc, fun e he => (h.e e he).keeps hk (fun q e => .inr (.inr e)) hd, fun q hq => ?_, h.hc, ?_, h.f8, ?_, h.fc, h.bl.trans (hk.below (B := w.heap.size) (fun q e => h.f9.blk q e) h.bl.size)⟩
  · rw [Mem.take_snoc hp, wrts_snoc, take_len hp, List.flatMap_append]
    simpa using hO
  · rcases hA with rfl | ⟨z, hz, rfl⟩
    · exact h.hw q hq
    · intro h4
      have h3 : z = q := Option.some.inj h4
      have := h.H.lt hq; omega
  · rcases hA with rfl | ⟨z, hz, rfl⟩
    · exact h.wc
    · intro h4
      have h3 : z = gc := Option.some.inj h4
      have := h.C.lt; omega
  · rcases hA with rfl | ⟨z, hz, rfl⟩
    · exact h.f9
    · exact Mem.From.some_ (Nat.le_trans h.bl.size hz)
def eBe (k : Nat) (s : Nat) (ky vl : ByteArray) : Ev := ⟨0, (k : Int) + 1, 1, some ⟨s, 0, none⟩, 1, [ky], vl, 0, 0, false, false, 0, none, 0, [], Vec.vc0⟩
def rOf (k : Nat) (ky vl : ByteArray) : Rs := ⟨ky, true, wrt k (ky, vl)⟩
def eEn (k : Nat) (s r : Nat) (ky vl : ByteArray) : Ev := ⟨0, (k : Int) + 1, 1, some ⟨s, 0, none⟩, 1, [ky], vl, 0, 0, false, true, 0, some ⟨r, 0, none⟩, 1, [rOf k ky vl], cutN (k + 1)⟩
def askL (s : Nat) (vl : ByteArray) : List Value := [.int .i64 1, .slice (some ⟨s, 0, none⟩) 1 1, .string vl, .int .i64 0]
structure WrRel (w : World) (ps : List (ByteArray × ByteArray)) (gc : Nat) (v8 v9 vi : Value) (wr : World) : Prop where
  out : ∃ (k : Nat) (X8 : Option Addr) (c8 : Nat) (X9 : Option Addr) (c9 : Nat) (es : List Ev), k ≤ ps.length ∧ v8 = .slice X8 (2 * k) c8 ∧ v9 = .slice X9 k c9 ∧ vi = .int .i64 k ∧ Hid (Wr w ps k k k X8 c8 X9 c9 gc es wr) ∧ Hid (∀ j p, j < k → ps[j]? = some p → p.2.size ≤ 32)
end Au
namespace auditWritesOpen
open Au
open Vec (entCells ent0 entCells_length ent_one vcCells vcCells_length vc_one vc0)
set_option maxRecDepth 20000 in
set_option maxHeartbeats 4000000 in
theorem walk (A : Option Addr) (c : Nat) (ks : List ByteArray) (A2 : Option Addr) (c2 : Nat) (vs : List ByteArray) (kk : Int) (w : World) (hr : Mem.Rd w w.heap.size A (ks.map sv)) (hr2 : Mem.Rd w w.heap.size A2 (vs.map sv)) (hn : ks.length ≤ 8796093022208) (hn2 : vs.length ≤ 8796093022208) (hk : ∀ s ∈ ks, s.size ≤ 140737488351232) (hv : ∀ s ∈ vs, s.size ≤ 140737488351232) :
    Calls Try.prog 7 #[.slice A ks.length c, .slice A2 vs.length c2, .int .i64 kk] w fun e w' => e = .returned (.bool true) ∧ Below w.heap.size w w' := by
  have HR := Lib.hid hr
  have HR2 := Lib.hid hr2
  have HK := Lib.hid hk
  have HV := Lib.hid hv
  clear hr hr2 hk hv
  go_enter Try.func7, Try.ntmps7
  go_wp2_with fail
  refine (auditAble_any w).mono ?_
  rintro x w1 ⟨rfl, hb1⟩
  have HB1 := Lib.hid hb1
  clear hb1
  obtain ⟨ps, hps⟩ : ∃ ps, (ks.zip vs).take 20 = ps := ⟨_, rfl⟩
  have hpl : ps.length = min 20 (min ks.length vs.length) := by rw [← hps, List.length_take, List.length_zip]
  have HPS := Lib.hid hps
  have hmn : ∀ ts t W, (Builtin.min_ ts t #[.int .i64 (ks.length : Int), .int .i64 (vs.length : Int), .int .i64 20]).run Try.prog W = .ok (.int .i64 (ps.length : Int)) W := fun ts t W => by
    rw [run_min_int3]
    congr 2
    rw [hpl]
    split <;> split at * <;> omega
  have HPL := Lib.hid hpl
  have hp20 : ps.length ≤ 20 := by omega
  clear hpl hps
  go_upto_region 7 with fail
  have HGC : Hid (Vec.VBx (w1.alloc (.cells #[.int .i64 0, .int .i64 0, .int .i64 0, .int .i64 0, .int .i64 0, .int .i64 0, .int .i64 0, .int .i64 0, .int .i64 0] 33)) w1.heap.size (cutN 0)) := Mem.Bx.new w1 33 (vcCells vc0).toArray rfl rfl
  have HB2 : Hid (Below w.heap.size w (w1.alloc (.cells #[.int .i64 0, .int .i64 0, .int .i64 0, .int .i64 0, .int .i64 0, .int .i64 0, .int .i64 0, .int .i64 0, .int .i64 0] 33))) := HB1.out.trans ((Reg.below_new w1 _).mono HB1.out.size)
  obtain ⟨w2, hw2⟩ : ∃ z, w1.alloc (.cells #[.int .i64 0, .int .i64 0, .int .i64 0, .int .i64 0, .int .i64 0, .int .i64 0, .int .i64 0, .int .i64 0, .int .i64 0] 33) = z := ⟨_, rfl⟩
  obtain ⟨gc, hgc⟩ : ∃ z, w1.heap.size = z := ⟨_, rfl⟩
  have HGF : Hid (w.heap.size ≤ gc) := by show _ ≤ _; rw [← hgc]; exact HB1.out.size
  rw [hw2] at HGC HB2
  rw [hgc] at HGC
  rw [hw2, hgc]
  clear hw2 hgc HB1 hmn
  go_wp2
  go_loopw [8, 9, 11] (WrRel w ps gc) (fun _ _ t _ => ps.length - (intOf t).toNat)
  case atStart => exact ⟨⟨0, none, 0, none, 0, [], by omega, rfl, rfl, rfl, ⟨rfl, Mem.Own.nil _ _ _, Mem.Own.nil _ _ _, HGC.out, fun e he => by (cases he), fun q hq => by (cases hq), fun h => by (cases h), fun h => by (cases h), Mem.From.none_ _, Mem.From.none_ _, HGF.out, HB2.out⟩, fun j p hj => absurd hj (Nat.not_lt_zero _)⟩⟩
  case round =>
    clear HGC HB2 HGF
    obtain ⟨k, X8, c8, X9, c9, es, hk, rfl, rfl, rfl, HW, HSZ⟩ := hrel.out
    clear hrel
    by_cases hlt : k < ps.length
    · obtain ⟨p, hp⟩ : ∃ p, ps[k]? = some p := ⟨_, List.getElem?_eq_getElem hlt⟩
      obtain ⟨ky, vl⟩ := p
      have hkv : ks[k]? = some ky ∧ vs[k]? = some vl := by
        have h1 := hp
        rw [← HPS.out, List.getElem?_take, if_pos (by have := HPL.out; omega)] at h1
        rw [List.getElem?_zip_eq_some] at h1
        exact h1
      have HP := Lib.hid hp
      have HLT := Lib.hid hlt
      have hkl : k < ks.length := by have := HPL.out; omega
      have hvl : k < vs.length := by have := HPL.out; omega
      obtain ⟨b, o, rfl, hb, hc1⟩ := HR.out.at (k := k) (by rw [List.length_map]; exact hkl)
      obtain ⟨b2, o2, rfl, hb2, hc2⟩ := HR2.out.at (k := k) (by rw [List.length_map]; exact hvl)
      have hky : ks[k] = ky := by have h1 := hkv.1; rw [List.getElem?_eq_getElem hkl] at h1; exact Option.some.inj h1
      have hvy : vs[k] = vl := by have h1 := hkv.2; rw [List.getElem?_eq_getElem hvl] at h1; exact Option.some.inj h1
      rw [List.getElem_map, hky] at hc1
      rw [List.getElem_map, hvy] at hc2
      have x0 : wr.cell? ⟨b, o + k, none⟩ = some (.string ky) := (HW.out.bl.cell (p := ⟨b, o + k, none⟩) hb).trans hc1
      have x1 : wr.cell? ⟨b2, o2 + k, none⟩ = some (.string vl) := (HW.out.bl.cell (p := ⟨b2, o2 + k, none⟩) hb2).trans hc2
      have hks := HK.out ky (List.mem_of_getElem? hkv.1)
      have hvs := HV.out vl (List.mem_of_getElem? hkv.2)
      have d0 : decide ((k : Int) < (ps.length : Int)) = true := by simp; omega
      have hbw := Nat.lt_of_lt_of_le hb HW.out.bl.size
      have hbw2 := Nat.lt_of_lt_of_le hb2 HW.out.bl.size
      clear hp hkv hky hvy hc1 hc2 hlt
      by_cases hok : 1 ≤ ky.size ∧ ky.size ≤ 16 ∧ vl.size ≤ 32
      case neg =>
        by_cases h1 : ky.size < 1
        · have e1 : decide ((ky.size : Int) < 1) = true := by simp; omega
          go_wp2
          go_ret
          exact ⟨rfl, HW.out.bl⟩
        · have e1 : decide ((ky.size : Int) < 1) = false := by simp; omega
          by_cases h2 : 16 < ky.size
          · have e2 : decide ((16 : Int) < (ky.size : Int)) = true := by simp; omega
            go_wp2
            go_ret
            exact ⟨rfl, HW.out.bl⟩
          · have e2 : decide ((16 : Int) < (ky.size : Int)) = false := by simp; omega
            have e3 : decide ((32 : Int) < (vl.size : Int)) = true := by simp; omega
            go_wp2
            go_ret
            exact ⟨rfl, HW.out.bl⟩
      case pos =>
        obtain ⟨ok1, ok2, ok3⟩ := hok
        have e1 : decide ((ky.size : Int) < 1) = false := by simp; omega
        have e2 : decide ((16 : Int) < (ky.size : Int)) = false := by simp; omega
        have e3 : decide ((32 : Int) < (vl.size : Int)) = false := by simp; omega
        have HOK := Lib.hid ok3
        go_upto_region 12 with fail
        clear e1 e2 e3 ok1 ok2 ok3 hks hvs
        refine Reg.wp_region_z (by kernel_rfl) 172 12 rfl rfl (by kernel_rfl) 90 91 (by decide) (11) (fun y => wr.heap.size ≤ y) (0) (fun _ => False) (0) (fun _ => False)
          (fun i f v u => match i with
            | 0 => v = .slice (some ⟨b, o, none⟩) ks.length c
            | 1 => v = .int .i64 k
            | 2 => v = .pointer (some ⟨b, o + k, none⟩)
            | 3 => v = .string ky
            | 4 => ∃ s, v = .slice (some ⟨s, 0, none⟩) 1 1 ∧ wr.heap.size ≤ s ∧ Mem.Own u 9 1 (some ⟨s, 0, none⟩) 1 1 [sv ky]
            | 5 => v = .slice (some ⟨b2, o2, none⟩) vs.length c2
            | 6 => v = .int .i64 k
            | 7 => v = .pointer (some ⟨b2, o2 + k, none⟩)
            | 8 => v = .string vl
            | 9 => ∃ s, v = .agg #[.int .i64 1, .slice (some ⟨s, 0, none⟩) 1 1, .string vl, .int .i64 0] ∧ wr.heap.size ≤ s ∧ Mem.Own u 9 1 (some ⟨s, 0, none⟩) 1 1 [sv ky]
            | 10 => ∃ g, v = .pointer (some ⟨g, 0, none⟩) ∧ wr.heap.size ≤ g ∧ Mem.Bx u 42 4 g (askCells ev0)
            | 11 => ∃ g s, f 12 = .pointer (some ⟨g, 0, none⟩) ∧ wr.heap.size ≤ g ∧ wr.heap.size ≤ s ∧ s ≠ g ∧ Mem.Bx u 42 4 g (askL s vl) ∧ Mem.Own u 9 1 (some ⟨s, 0, none⟩) 1 1 [sv ky]
            | _ => True) ?_ ?_
        · refine Reg.StepsZ.cons ?_ (Reg.StepsZ.cons ?_ (Reg.StepsZ.cons ?_ (Reg.StepsZ.cons ?_ (Reg.StepsZ.cons ?_ (Reg.StepsZ.cons ?_ (Reg.StepsZ.cons ?_ (Reg.StepsZ.cons ?_ (Reg.StepsZ.cons ?_ (Reg.StepsZ.cons ?_ (Reg.StepsZ.cons ?_ (Reg.StepsZ.cons ?_ (Reg.StepsZ.nil _))))))))))))
          · intro val ac u hR hp hpq ha K hK0
            have hK := fun v w' h1 h2 => hK0 v w' h1 h2 (fun j f v' h _ => by omega); have e0 : (ac.tmps[0]?).getD undef = .slice (some ⟨b, o, none⟩) ks.length c := ha 0 (by decide); clear ha hp
            refine Reg.Op1.plain rfl ?_
            go_wp2
            exact ⟨rfl, hK _ _ rfl (Reg.Wr.same _)⟩
          · intro val ac u hR hp hpq ha K hK0
            have hK := fun v w' h1 h2 => hK0 v w' h1 h2 (fun j f v' h _ => by omega); have e11 : (ac.tmps[11]?).getD undef = .int .i64 k := ha 11 (by decide); clear ha hp
            refine Reg.Op1.plain rfl ?_
            go_wp2
            exact ⟨rfl, hK _ _ rfl (Reg.Wr.same _)⟩
          · intro val ac u hR hp hpq ha K hK0
            have hK := fun v w' h1 h2 => hK0 v w' h1 h2 (fun j f v' h _ => by omega); obtain ⟨w51, h51, r51⟩ := hp 0 (by decide); have e51 : (ac.tmps[51]?).getD undef = .slice (some ⟨b, o, none⟩) ks.length c := (ha 51 (by decide)).trans h51; obtain ⟨w52, h52, r52⟩ := hp 1 (by decide); have e52 : (ac.tmps[52]?).getD undef = .int .i64 k := (ha 52 (by decide)).trans h52; clear h51 h52 ha hp
            refine Reg.Op1.plain rfl ?_
            go_wp2
            exact ⟨rfl, hK _ _ rfl (Reg.Wr.same _)⟩
          · intro val ac u hR hp hpq ha K hK0
            have hK := fun v w' h1 h2 => hK0 v w' h1 h2 (fun j f v' h _ => by omega); obtain ⟨w53, h53, r53⟩ := hp 2 (by decide); have e53 : (ac.tmps[53]?).getD undef = .pointer (some ⟨b, o + k, none⟩) := (ha 53 (by decide)).trans h53; clear h53 ha hp
            refine Reg.Op1.plain rfl ?_
            have hk0 := (Mem.Keeps.refl (fun _ => False ∨ False) wr).drew.trans (Reg.Wr.not1 hR (by decide +kernel)) (fun _ h _ => h)
            have z0 := (hk0.cell (p := ⟨b, o + k, none⟩) hbw (fun h => h.elim id id)).trans x0
            go_wp2
            exact ⟨rfl, hK _ _ rfl (Reg.Wr.same _)⟩
          · intro val ac u hR hp hpq ha K hK0
            have hK := fun v w' h1 h2 => hK0 v w' h1 h2 (fun j f v' h _ => by omega); obtain ⟨w54, h54, r54⟩ := hp 3 (by decide); have e54 : (ac.tmps[54]?).getD undef = .string ky := (ha 54 (by decide)).trans h54; clear h54 ha hp
            refine Reg.Op1.plain rfl ?_
            have hbu : wr.heap.size ≤ u.heap.size := (Reg.Wr.all hR).size
            go_wp2
            exact ⟨rfl, hK _ _ ⟨u.heap.size, rfl, hbu, Mem.Own.lit u _ 1 #[.string ky] 1 rfl rfl (by simp [maxLen])⟩ (Reg.Wr.quiet ((Mem.Keeps.refl _ u).alloc _))⟩
          · intro val ac u hR hp hpq ha K hK0
            have hK := fun v w' h1 h2 => hK0 v w' h1 h2 (fun j f v' h _ => by omega); have e1 : (ac.tmps[1]?).getD undef = .slice (some ⟨b2, o2, none⟩) vs.length c2 := ha 1 (by decide); clear ha hp
            refine Reg.Op1.plain rfl ?_
            go_wp2
            exact ⟨rfl, hK _ _ rfl (Reg.Wr.same _)⟩
          · intro val ac u hR hp hpq ha K hK0
            have hK := fun v w' h1 h2 => hK0 v w' h1 h2 (fun j f v' h _ => by omega); have e11 : (ac.tmps[11]?).getD undef = .int .i64 k := ha 11 (by decide); clear ha hp
            refine Reg.Op1.plain rfl ?_
            go_wp2
            exact ⟨rfl, hK _ _ rfl (Reg.Wr.same _)⟩
          · intro val ac u hR hp hpq ha K hK0
            have hK := fun v w' h1 h2 => hK0 v w' h1 h2 (fun j f v' h _ => by omega); obtain ⟨w56, h56, r56⟩ := hp 5 (by decide); have e56 : (ac.tmps[56]?).getD undef = .slice (some ⟨b2, o2, none⟩) vs.length c2 := (ha 56 (by decide)).trans h56; obtain ⟨w57, h57, r57⟩ := hp 6 (by decide); have e57 : (ac.tmps[57]?).getD undef = .int .i64 k := (ha 57 (by decide)).trans h57; clear h56 h57 ha hp
            refine Reg.Op1.plain rfl ?_
            go_wp2
            exact ⟨rfl, hK _ _ rfl (Reg.Wr.same _)⟩
          · intro val ac u hR hp hpq ha K hK0
            have hK := fun v w' h1 h2 => hK0 v w' h1 h2 (fun j f v' h _ => by omega); obtain ⟨w58, h58, r58⟩ := hp 7 (by decide); have e58 : (ac.tmps[58]?).getD undef = .pointer (some ⟨b2, o2 + k, none⟩) := (ha 58 (by decide)).trans h58; clear h58 ha hp
            refine Reg.Op1.plain rfl ?_
            have hk0 := (Mem.Keeps.refl (fun _ => False ∨ False) wr).drew.trans (Reg.Wr.not1 hR (by decide +kernel)) (fun _ h _ => h)
            have z0 := (hk0.cell (p := ⟨b2, o2 + k, none⟩) hbw2 (fun h => h.elim id id)).trans x1
            go_wp2
            exact ⟨rfl, hK _ _ rfl (Reg.Wr.same _)⟩
          · intro val ac u hR hp hpq ha K hK0
            have hK := fun v w' h1 h2 => hK0 v w' h1 h2 (fun j f v' h _ => by omega); obtain ⟨w55, h55, r55⟩ := hp 4 (by decide); have e55 : (ac.tmps[55]?).getD undef = val 4 := ha 55 (by decide); obtain ⟨w59, h59, r59⟩ := hp 8 (by decide); have e59 : (ac.tmps[59]?).getD undef = .string vl := (ha 59 (by decide)).trans h59; clear h59 ha hp
            refine Reg.Op1.plain rfl ?_
            obtain ⟨s, hv, hs, ho⟩ := h55
            rw [hv] at e55
            have HO := Lib.hid (ho.keeps (Reg.Wr.not1 r55 (by decide +kernel)) (fun _ _ h => h.elim id id))
            have HS := Lib.hid hs
            clear hv hs ho
            go_wp2
            exact ⟨rfl, hK _ _ ⟨s, rfl, HS.out, HO.out⟩ (Reg.Wr.same _)⟩
          · intro val ac u hR hp hpq ha K hK0
            have hK := fun v w' h1 h2 => hK0 v w' h1 h2 (fun j f v' h _ => by omega); clear ha hp
            refine Reg.Op1.plain rfl ?_
            have hbu : wr.heap.size ≤ u.heap.size := (Reg.Wr.all hR).size
            go_wp2
            exact ⟨rfl, hK _ _ ⟨u.heap.size, rfl, hbu, Mem.Bx.new u 42 (askCells ev0).toArray rfl rfl⟩ (Reg.Wr.quiet ((Mem.Keeps.refl _ u).alloc _))⟩
          · intro val ac u hR hp hpq ha K hK0
            have hK := fun v w' h1 h2 => hK0 v w' h1 h2 (fun j f v' h _ => by omega); obtain ⟨w12, h12, r12⟩ := hp 10 (by decide); have e12 : (ac.tmps[12]?).getD undef = val 10 := ha 12 (by decide); obtain ⟨w60, h60, r60⟩ := hp 9 (by decide); have e60 : (ac.tmps[60]?).getD undef = val 9 := ha 60 (by decide); clear ha hp
            refine Reg.Op1.plain rfl ?_
            obtain ⟨g, hv, hg, hbx⟩ := h12
            obtain ⟨s, hv2, hs, ho⟩ := h60
            have hv12 := hv
            rw [hv] at e12
            rw [hv2] at e60
            have hbx' : Mem.Bx u 42 4 g (askCells ev0) := hbx.keeps (Reg.Wr.not1 r12 (by decide +kernel)) (fun h => h.elim id id)
            have ho' := ho.keeps (Reg.Wr.not1 r60 (by decide +kernel)) (fun _ _ h => h.elim id id)
            have hne : s ≠ g := Mem.Own.ne ho' hbx' (by decide)
            refine Mem.store_agg _ _ ask_agg g (askCells ev0) (askL s vl) (Reg.eval_of e12) (Reg.eval_of e60) hbx' rfl (by simp [askL, Value.oneCell']) ?_
            intro w' hb hk hs'
            exact ⟨rfl, hK undef _ ⟨g, s, hv12, hg, hs, hne, hb, ho'.keeps hk (fun q hq h => by cases hq; exact hne h)⟩ (Reg.Wr.does1 (hk.mono (fun i h _ => by show wr.heap.size ≤ i; omega)))⟩
        intro val u hR H hZ
        obtain ⟨wA, ⟨g, s, hv12, hg, hs, hne, hb, ho⟩, rA⟩ := H 11 (by decide)
        have hv12 : val 10 = .pointer (some ⟨g, 0, none⟩) := hv12
        have hq : Mem.Keeps (fun y => wr.heap.size ≤ y ∨ False ∨ False) wr u := (Mem.Keeps.refl (fun y => wr.heap.size ≤ y ∨ False ∨ False) wr).drew.trans (Reg.Wr.all hR) (fun _ h _ => h)
        have HKu : Hid (Below wr.heap.size wr u) := hq.below (fun y h => by rcases h with h | h | h <;> first | exact h | exact h.elim) (Nat.le_refl _)
        have HA : Hid (Mem.Bx u 42 4 g (askL s vl)) := hb.keeps (Reg.Wr.not1 rA (by decide +kernel)) (fun h => h.elim id id)
        have HKY : Hid (Mem.Own u 9 1 (some ⟨s, 0, none⟩) 1 1 [sv ky]) := ho.keeps (Reg.Wr.not1 rA (by decide +kernel)) (fun _ _ h => h.elim id id)
        have HGS : Hid (wr.heap.size ≤ g ∧ wr.heap.size ≤ s ∧ s ≠ g) := ⟨hg, hs, hne⟩
        simp only [List.map_cons, List.map_nil, Reg.lay, Act.put, List.setIfInBounds_toArray, List.set_cons_succ, List.set_cons_zero, Nat.reduceAdd, hv12]
        clear hR H hZ hq hb rA hv12 hg hs hne ho
        obtain ⟨w3, hw3⟩ : ∃ z, z = u := ⟨_, rfl⟩
        subst hw3
        have HW3 := Lib.hid (HW.out.later HKu.out)
        have x0' : w3.cell? ⟨b, o + k, none⟩ = some (.string ky) := (HKu.out.cell (p := ⟨b, o + k, none⟩) hbw).trans x0
        have x1' : w3.cell? ⟨b2, o2 + k, none⟩ = some (.string vl) := (HKu.out.cell (p := ⟨b2, o2 + k, none⟩) hbw2).trans x1
        have hbv : b < w3.heap.size := Nat.lt_of_lt_of_le hbw HKu.out.size
        have hbv2 : b2 < w3.heap.size := Nat.lt_of_lt_of_le hbw2 HKu.out.size
        have hk20 : k ≤ 20 := by omega
        clear x0 x1 hbw hbw2
        go_upto_region 13 with fail
        refine Reg.wp_region_z (by kernel_rfl) 172 20 rfl rfl (by kernel_rfl) 90 91 (by decide) (19) (fun y => w3.heap.size ≤ y) (0) (fun _ => False) (0) (fun _ => False)
          (fun i f v u => match i with
            | 0 => v = .int .i64 k
            | 1 => v = .int .i64 ((k : Int) + 1)
            | 2 => v = .agg #[.int .i64 0, .int .i64 0, .int .i64 ((k : Int) + 1)]
            | 3 => v = .int .i64 k
            | 4 => v = .int .i64 ((k : Int) + 1)
            | 5 => v = .agg #[.int .i64 ((k : Int) + 1), .int .i64 0, .int .i64 0]
            | 6 => v = .slice (some ⟨b, o, none⟩) ks.length c
            | 7 => v = .int .i64 k
            | 8 => v = .pointer (some ⟨b, o + k, none⟩)
            | 9 => v = .string ky
            | 10 => v = .slice (some ⟨b2, o2, none⟩) vs.length c2
            | 11 => v = .int .i64 k
            | 12 => v = .pointer (some ⟨b2, o2 + k, none⟩)
            | 13 => v = .string vl
            | 14 => v = .agg #[.int .i64 k, .int .i64 0, .int .i64 0, .int .i64 0, .int .i64 0, .int .i64 0, .int .i64 0, .int .i64 0, .int .i64 0]
            | 15 => v = .int .i64 k
            | 16 => v = .int .i64 ((k : Int) + 1)
            | 17 => v = .agg (entCells (wrt k (ky, vl))).toArray
            | 18 => ∃ g, v = .pointer (some ⟨g, 0, none⟩) ∧ w3.heap.size ≤ g ∧ Vec.EBx u g ent0
            | 19 => ∃ g, f 13 = .pointer (some ⟨g, 0, none⟩) ∧ w3.heap.size ≤ g ∧ Vec.EBx u g (wrt k (ky, vl))
            | _ => True) ?_ ?_
        · refine Reg.StepsZ.cons ?_ (Reg.StepsZ.cons ?_ (Reg.StepsZ.cons ?_ (Reg.StepsZ.cons ?_ (Reg.StepsZ.cons ?_ (Reg.StepsZ.cons ?_ (Reg.StepsZ.cons ?_ (Reg.StepsZ.cons ?_ (Reg.StepsZ.cons ?_ (Reg.StepsZ.cons ?_ (Reg.StepsZ.cons ?_ (Reg.StepsZ.cons ?_ (Reg.StepsZ.cons ?_ (Reg.StepsZ.cons ?_ (Reg.StepsZ.cons ?_ (Reg.StepsZ.cons ?_ (Reg.StepsZ.cons ?_ (Reg.StepsZ.cons ?_ (Reg.StepsZ.cons ?_ (Reg.StepsZ.cons ?_ (Reg.StepsZ.nil _))))))))))))))))))))
          · intro val ac u hR hp hpq ha K hK0
            have hK := fun v w' h1 h2 => hK0 v w' h1 h2 (fun j f v' h _ => by omega); have e11 : (ac.tmps[11]?).getD undef = .int .i64 k := ha 11 (by decide); clear ha hp
            refine Reg.Op1.plain rfl ?_
            go_wp2
            exact ⟨rfl, hK _ _ rfl (Reg.Wr.same _)⟩
          · intro val ac u hR hp hpq ha K hK0
            have hK := fun v w' h1 h2 => hK0 v w' h1 h2 (fun j f v' h _ => by omega); obtain ⟨w61, h61, r61⟩ := hp 0 (by decide); have e61 : (ac.tmps[61]?).getD undef = .int .i64 k := (ha 61 (by decide)).trans h61; clear h61 ha hp
            refine Reg.Op1.plain rfl ?_
            go_wp2
            exact ⟨rfl, hK _ _ rfl (Reg.Wr.same _)⟩
          · intro val ac u hR hp hpq ha K hK0
            have hK := fun v w' h1 h2 => hK0 v w' h1 h2 (fun j f v' h _ => by omega); obtain ⟨w62, h62, r62⟩ := hp 1 (by decide); have e62 : (ac.tmps[62]?).getD undef = .int .i64 ((k : Int) + 1) := (ha 62 (by decide)).trans h62; clear h62 ha hp
            refine Reg.Op1.plain rfl ?_
            go_wp2
            exact ⟨rfl, hK _ _ rfl (Reg.Wr.same _)⟩
          · intro val ac u hR hp hpq ha K hK0
            have hK := fun v w' h1 h2 => hK0 v w' h1 h2 (fun j f v' h _ => by omega); have e11 : (ac.tmps[11]?).getD undef = .int .i64 k := ha 11 (by decide); clear ha hp
            refine Reg.Op1.plain rfl ?_
            go_wp2
            exact ⟨rfl, hK _ _ rfl (Reg.Wr.same _)⟩
          · intro val ac u hR hp hpq ha K hK0
            have hK := fun v w' h1 h2 => hK0 v w' h1 h2 (fun j f v' h _ => by omega); obtain ⟨w64, h64, r64⟩ := hp 3 (by decide); have e64 : (ac.tmps[64]?).getD undef = .int .i64 k := (ha 64 (by decide)).trans h64; clear h64 ha hp
            refine Reg.Op1.plain rfl ?_
            go_wp2
            exact ⟨rfl, hK _ _ rfl (Reg.Wr.same _)⟩
          · intro val ac u hR hp hpq ha K hK0
            have hK := fun v w' h1 h2 => hK0 v w' h1 h2 (fun j f v' h _ => by omega); obtain ⟨w65, h65, r65⟩ := hp 4 (by decide); have e65 : (ac.tmps[65]?).getD undef = .int .i64 ((k : Int) + 1) := (ha 65 (by decide)).trans h65; clear h65 ha hp
            refine Reg.Op1.plain rfl ?_
            go_wp2
            exact ⟨rfl, hK _ _ rfl (Reg.Wr.same _)⟩
          · intro val ac u hR hp hpq ha K hK0
            have hK := fun v w' h1 h2 => hK0 v w' h1 h2 (fun j f v' h _ => by omega); have e0 : (ac.tmps[0]?).getD undef = .slice (some ⟨b, o, none⟩) ks.length c := ha 0 (by decide); clear ha hp
            refine Reg.Op1.plain rfl ?_
            go_wp2
            exact ⟨rfl, hK _ _ rfl (Reg.Wr.same _)⟩
          · intro val ac u hR hp hpq ha K hK0
            have hK := fun v w' h1 h2 => hK0 v w' h1 h2 (fun j f v' h _ => by omega); have e11 : (ac.tmps[11]?).getD undef = .int .i64 k := ha 11 (by decide); clear ha hp
            refine Reg.Op1.plain rfl ?_
            go_wp2
            exact ⟨rfl, hK _ _ rfl (Reg.Wr.same _)⟩
          · intro val ac u hR hp hpq ha K hK0
            have hK := fun v w' h1 h2 => hK0 v w' h1 h2 (fun j f v' h _ => by omega); obtain ⟨w67, h67, r67⟩ := hp 6 (by decide); have e67 : (ac.tmps[67]?).getD undef = .slice (some ⟨b, o, none⟩) ks.length c := (ha 67 (by decide)).trans h67; obtain ⟨w68, h68, r68⟩ := hp 7 (by decide); have e68 : (ac.tmps[68]?).getD undef = .int .i64 k := (ha 68 (by decide)).trans h68; clear h67 h68 ha hp
            refine Reg.Op1.plain rfl ?_
            go_wp2
            exact ⟨rfl, hK _ _ rfl (Reg.Wr.same _)⟩
          · intro val ac u hR hp hpq ha K hK0
            have hK := fun v w' h1 h2 => hK0 v w' h1 h2 (fun j f v' h _ => by omega); obtain ⟨w69, h69, r69⟩ := hp 8 (by decide); have e69 : (ac.tmps[69]?).getD undef = .pointer (some ⟨b, o + k, none⟩) := (ha 69 (by decide)).trans h69; clear h69 ha hp
            refine Reg.Op1.plain rfl ?_
            have hk0 := (Mem.Keeps.refl (fun _ => False ∨ False) w3).drew.trans (Reg.Wr.not1 hR (by decide +kernel)) (fun _ h _ => h)
            have z0 := (hk0.cell (p := ⟨b, o + k, none⟩) hbv (fun h => h.elim id id)).trans x0'
            go_wp2
            exact ⟨rfl, hK _ _ rfl (Reg.Wr.same _)⟩
          · intro val ac u hR hp hpq ha K hK0
            have hK := fun v w' h1 h2 => hK0 v w' h1 h2 (fun j f v' h _ => by omega); have e1 : (ac.tmps[1]?).getD undef = .slice (some ⟨b2, o2, none⟩) vs.length c2 := ha 1 (by decide); clear ha hp
            refine Reg.Op1.plain rfl ?_
            go_wp2
            exact ⟨rfl, hK _ _ rfl (Reg.Wr.same _)⟩
          · intro val ac u hR hp hpq ha K hK0
            have hK := fun v w' h1 h2 => hK0 v w' h1 h2 (fun j f v' h _ => by omega); have e11 : (ac.tmps[11]?).getD undef = .int .i64 k := ha 11 (by decide); clear ha hp
            refine Reg.Op1.plain rfl ?_
            go_wp2
            exact ⟨rfl, hK _ _ rfl (Reg.Wr.same _)⟩
          · intro val ac u hR hp hpq ha K hK0
            have hK := fun v w' h1 h2 => hK0 v w' h1 h2 (fun j f v' h _ => by omega); obtain ⟨w71, h71, r71⟩ := hp 10 (by decide); have e71 : (ac.tmps[71]?).getD undef = .slice (some ⟨b2, o2, none⟩) vs.length c2 := (ha 71 (by decide)).trans h71; obtain ⟨w72, h72, r72⟩ := hp 11 (by decide); have e72 : (ac.tmps[72]?).getD undef = .int .i64 k := (ha 72 (by decide)).trans h72; clear h71 h72 ha hp
            refine Reg.Op1.plain rfl ?_
            go_wp2
            exact ⟨rfl, hK _ _ rfl (Reg.Wr.same _)⟩
          · intro val ac u hR hp hpq ha K hK0
            have hK := fun v w' h1 h2 => hK0 v w' h1 h2 (fun j f v' h _ => by omega); obtain ⟨w73, h73, r73⟩ := hp 12 (by decide); have e73 : (ac.tmps[73]?).getD undef = .pointer (some ⟨b2, o2 + k, none⟩) := (ha 73 (by decide)).trans h73; clear h73 ha hp
            refine Reg.Op1.plain rfl ?_
            have hk0 := (Mem.Keeps.refl (fun _ => False ∨ False) w3).drew.trans (Reg.Wr.not1 hR (by decide +kernel)) (fun _ h _ => h)
            have z0 := (hk0.cell (p := ⟨b2, o2 + k, none⟩) hbv2 (fun h => h.elim id id)).trans x1'
            go_wp2
            exact ⟨rfl, hK _ _ rfl (Reg.Wr.same _)⟩
          · intro val ac u hR hp hpq ha K hK0
            have hK := fun v w' h1 h2 => hK0 v w' h1 h2 (fun j f v' h _ => by omega); have e10 : (ac.tmps[10]?).getD undef = .pointer (some ⟨gc, 0, none⟩) := ha 10 (by decide); clear ha hp
            refine Reg.Op1.plain rfl ?_
            have hk0 := (Mem.Keeps.refl (fun _ => False ∨ False) w3).drew.trans (Reg.Wr.not1 hR (by decide +kernel)) (fun _ h _ => h)
            have hCu := HW3.out.C.keeps hk0 (fun h => h.elim id id)
            refine Mem.load_agg _ _ vec_agg gc 0 [.int .i64 k, .int .i64 0, .int .i64 0, .int .i64 0, .int .i64 0, .int .i64 0, .int .i64 0, .int .i64 0, .int .i64 0] (Reg.eval_of e10) rfl (fun j u' hu => by rw [Nat.zero_add]; exact hCu.cell hu) ?_
            exact ⟨rfl, hK _ _ rfl (Reg.Wr.same _)⟩
          · intro val ac u hR hp hpq ha K hK0
            have hK := fun v w' h1 h2 => hK0 v w' h1 h2 (fun j f v' h _ => by omega); have e11 : (ac.tmps[11]?).getD undef = .int .i64 k := ha 11 (by decide); clear ha hp
            refine Reg.Op1.plain rfl ?_
            go_wp2
            exact ⟨rfl, hK _ _ rfl (Reg.Wr.same _)⟩
          · intro val ac u hR hp hpq ha K hK0
            have hK := fun v w' h1 h2 => hK0 v w' h1 h2 (fun j f v' h _ => by omega); obtain ⟨w76, h76, r76⟩ := hp 15 (by decide); have e76 : (ac.tmps[76]?).getD undef = .int .i64 k := (ha 76 (by decide)).trans h76; clear h76 ha hp
            refine Reg.Op1.plain rfl ?_
            go_wp2
            exact ⟨rfl, hK _ _ rfl (Reg.Wr.same _)⟩
          · intro val ac u hR hp hpq ha K hK0
            have hK := fun v w' h1 h2 => hK0 v w' h1 h2 (fun j f v' h _ => by omega); obtain ⟨w63, h63, r63⟩ := hp 2 (by decide); have e63 : (ac.tmps[63]?).getD undef = .agg #[.int .i64 0, .int .i64 0, .int .i64 ((k : Int) + 1)] := (ha 63 (by decide)).trans h63; obtain ⟨w66, h66, r66⟩ := hp 5 (by decide); have e66 : (ac.tmps[66]?).getD undef = .agg #[.int .i64 ((k : Int) + 1), .int .i64 0, .int .i64 0] := (ha 66 (by decide)).trans h66; obtain ⟨w70, h70, r70⟩ := hp 9 (by decide); have e70 : (ac.tmps[70]?).getD undef = .string ky := (ha 70 (by decide)).trans h70; obtain ⟨w74, h74, r74⟩ := hp 13 (by decide); have e74 : (ac.tmps[74]?).getD undef = .string vl := (ha 74 (by decide)).trans h74; obtain ⟨w75, h75, r75⟩ := hp 14 (by decide); have e75 : (ac.tmps[75]?).getD undef = .agg #[.int .i64 k, .int .i64 0, .int .i64 0, .int .i64 0, .int .i64 0, .int .i64 0, .int .i64 0, .int .i64 0, .int .i64 0] := (ha 75 (by decide)).trans h75; obtain ⟨w77, h77, r77⟩ := hp 16 (by decide); have e77 : (ac.tmps[77]?).getD undef = .int .i64 ((k : Int) + 1) := (ha 77 (by decide)).trans h77; clear h63 h66 h70 h74 h75 h77 ha hp
            refine Reg.Op1.plain rfl ?_
            go_wp2
            exact ⟨rfl, hK _ _ rfl (Reg.Wr.same _)⟩
          · intro val ac u hR hp hpq ha K hK0
            have hK := fun v w' h1 h2 => hK0 v w' h1 h2 (fun j f v' h _ => by omega); clear ha hp
            refine Reg.Op1.plain rfl ?_
            have hbu : w3.heap.size ≤ u.heap.size := (Reg.Wr.all hR).size
            go_wp2
            exact ⟨rfl, hK _ _ ⟨u.heap.size, rfl, hbu, Mem.Bx.new u 35 (entCells ent0).toArray rfl rfl⟩ (Reg.Wr.quiet ((Mem.Keeps.refl _ u).alloc _))⟩
          · intro val ac u hR hp hpq ha K hK0
            have hK := fun v w' h1 h2 => hK0 v w' h1 h2 (fun j f v' h _ => by omega); obtain ⟨w13, h13, r13⟩ := hp 18 (by decide); have e13 : (ac.tmps[13]?).getD undef = val 18 := ha 13 (by decide); obtain ⟨w78, h78, r78⟩ := hp 17 (by decide); have e78 : (ac.tmps[78]?).getD undef = .agg (entCells (wrt k (ky, vl))).toArray := (ha 78 (by decide)).trans h78; clear h78 ha hp
            refine Reg.Op1.plain rfl ?_
            obtain ⟨g9, hv, hg, hbx⟩ := h13
            have hv13 := hv
            rw [hv] at e13
            have hbx' : Vec.EBx u g9 ent0 := hbx.keeps (Reg.Wr.not1 r13 (by decide +kernel)) (fun h => h.elim id id)
            refine Mem.store_agg _ _ entry_agg g9 (entCells ent0) (entCells (wrt k (ky, vl))) (Reg.eval_of e13) (Reg.eval_of e78) hbx' (entCells_length _) (ent_one _) ?_
            intro w' hb hk hs'
            exact ⟨rfl, hK undef _ ⟨g9, hv13, hg, hb⟩ (Reg.Wr.does1 (hk.mono (fun i h _ => by show w3.heap.size ≤ i; omega)))⟩
        intro val u hR H hZ
        obtain ⟨wA, ⟨gw, hv13, hg, hb⟩, rA⟩ := H 19 (by decide)
        have hv13 : val 18 = .pointer (some ⟨gw, 0, none⟩) := hv13
        have hq : Mem.Keeps (fun y => w3.heap.size ≤ y ∨ False ∨ False) w3 u := (Mem.Keeps.refl (fun y => w3.heap.size ≤ y ∨ False ∨ False) w3).drew.trans (Reg.Wr.all hR) (fun _ h _ => h)
        have HKv : Hid (Below w3.heap.size w3 u) := hq.below (fun y h => by rcases h with h | h | h <;> first | exact h | exact h.elim) (Nat.le_refl _)
        have HE4 : Hid (Vec.EBx u gw (wrt k (ky, vl))) := hb.keeps (Reg.Wr.not1 rA (by decide +kernel)) (fun h => h.elim id id)
        have HGW : Hid (w3.heap.size ≤ gw) := hg
        simp only [List.map_cons, List.map_nil, Reg.lay, Act.put, List.setIfInBounds_toArray, List.set_cons_succ, List.set_cons_zero, Nat.reduceAdd, hv13]
        clear hR H hZ hq hb rA hv13 hg
        obtain ⟨w4, hw4⟩ : ∃ z, z = u := ⟨_, rfl⟩
        subst hw4
        have HW4 := Lib.hid (HW3.out.later HKv.out)
        have HA4 : Hid (Mem.Bx w4 42 4 g (askL s vl)) := HA.out.below HKv.out HA.out.lt
        have HKY4 : Hid (Mem.Own w4 9 1 (some ⟨s, 0, none⟩) 1 1 [sv ky]) := HKY.out.below HKv.out (fun q hq => HKY.out.lt hq)
        have HNE : Hid (g ≠ gc ∧ s ≠ gc ∧ gw ≠ gc ∧ ¬ wrS X8 X9 gc s) := by
          have h1 := HW.out.C.lt
          have h2 := HKu.out.size
          have h3 := HGW.out
          have h4 := HGS.out
          exact ⟨by omega, by omega, by omega, HW.out.fresh HGS.out.2.1⟩
        have HBG : Hid (b ≠ gc) := by
          have h1 := HW.out.fc
          show b ≠ gc
          omega
        have HGX : Hid (¬ Mem.blk X8 = some gw) := fun h => by
          have h1 := HW.out.H.lt h
          have h2 := HKu.out.size
          have h3 := HGW.out
          omega
        have HGX9 : Hid (¬ Mem.blk X9 = some gw) := fun h => by
          have h1 := HW.out.W.lt h
          have h2 := HKu.out.size
          have h3 := HGW.out
          omega
        have x04 : w4.cell? ⟨b, o + k, none⟩ = some (.string ky) := (HKv.out.cell (p := ⟨b, o + k, none⟩) hbv).trans x0'
        have hb4 : b < w4.heap.size := Nat.lt_of_lt_of_le hbv HKv.out.size
        have HE4' : Hid (∀ j u, (entCells (wrt k (ky, vl)))[j]? = some u → w4.cell? ⟨gw, 0 + j, none⟩ = some u) := fun j u hu => by rw [Nat.zero_add]; exact HE4.out.cell hu
        clear HW HW3 x0' x1' hbv hbv2 HKu HKv HA HKY HGS HGW
        go_upto_region 15 with (first
          | ((with_reducible refine Mem.load_agg _ _ entry_agg gw 0 (entCells (wrt k (ky, vl))) ?hx (entCells_length _) HE4'.out ?_); case hx => exact rfl)
          | ((with_reducible refine Mem.build1_agg _ _ 20 _ Try.underlying23 entry_zero (by decide) (by decide) (entCells (wrt k (ky, vl))) ?hra (entCells_length _) ?_); (case hra => exact rfl))
          | (go_at_call 21; (have HRP : Hid (Mem.Rd (w4.alloc (.cells (entCells (wrt k (ky, vl))).toArray 35)) (w4.heap.size + 1) (some ⟨w4.heap.size, 0, none⟩) ([wrt k (ky, vl)].flatMap entCells)) := (Mem.Rd.alloc_new w4 _ _ _ rfl)); (refine (past_any _ 1 [wrt k (ky, vl)] (w4.heap.size + 1) _ HRP.out (Nat.le_of_eq (Array.size_push _).symm) (by simp [maxLen])).mono ?_); rintro x w5 ⟨rfl, hb5⟩; have HB5 : Hid (Below w4.heap.size w4 w5) := (Reg.below_new w4 _).trans (hb5.mono (Nat.le_trans (Nat.le_succ _) (Nat.le_of_eq (Array.size_push _).symm))); clear hb5 HRP; rw [cut_past]; have HW5 := Lib.hid (HW4.out.later HB5.out))
          | ((with_reducible refine Mem.store_agg _ _ vec_agg gc (vcCells (cutN k)) (vcCells (cutN (k + 1))) ?hsx ?hsy HW5.out.C rfl (vc_one _) ?_); (case hsx => exact rfl); (case hsy => exact rfl); intro w6 hb6 hk6 hs6; have HB6 := Lib.hid hb6; have HK6 := Lib.hid hk6; clear hb6 hk6 hs6))
        have HW6 : Hid (Wr w ps k (k + 1) k X8 c8 X9 c9 gc es w6) := HW5.out.cut HK6.out HB6.out
        have HA6 : Hid (Mem.Bx w6 42 4 g (askL s vl)) := (HA4.out.below HB5.out HA4.out.lt).keeps HK6.out HNE.out.1
        have HKY6 : Hid (Mem.Own w6 9 1 (some ⟨s, 0, none⟩) 1 1 [sv ky]) := (HKY4.out.below HB5.out (fun q hq => HKY4.out.lt hq)).keeps HK6.out (fun q hq e => HNE.out.2.1 ((Option.some.inj hq).trans e))
        have HE6 : Hid (Vec.EBx w6 gw (wrt k (ky, vl))) := (HE4.out.below HB5.out HE4.out.lt).keeps HK6.out HNE.out.2.2.1
        have x06 : w6.cell? ⟨b, o + k, none⟩ = some (.string ky) := (HK6.out.cell (p := ⟨b, o + k, none⟩) (Nat.lt_of_lt_of_le hb4 HB5.out.size) (fun e => HBG.out e)).trans ((HB5.out.cell (p := ⟨b, o + k, none⟩) hb4).trans x04)
        have hb6 : b < w6.heap.size := Nat.lt_of_lt_of_le (Nat.lt_of_lt_of_le hb4 HB5.out.size) HK6.out.size
        have HNS := Lib.hid HNE.out.2.2.2
        have hk2 : (2 * k + 2) * 192 ≤ 140737488355328 := by omega
        have hk3 : 2 * k + 2 ≤ maxLen := by unfold maxLen; omega
        clear HW4 HA4 HKY4 HNE x04 hb4 HE4 HE4' HB5 HB6 HK6 HW5 HBG
        go_upto_region 15 with fail
        refine Reg.wp_region_z (by kernel_rfl) 172 20 rfl rfl (by kernel_rfl) 90 91 (by decide) (18) (fun y => Mem.blk X8 = some y) (0) (fun _ => False) (0) (fun _ => False)
          (fun i f v u => match i with
            | 0 => v = .slice X8 (2 * k) c8
            | 1 => v = .int .i64 k
            | 2 => v = .int .i64 ((k : Int) + 1)
            | 3 => v = .agg #[.int .i64 1, .slice (some ⟨s, 0, none⟩) 1 1, .string vl, .int .i64 0]
            | 4 => v = .agg (evCells (eBe k s ky vl)).toArray
            | 5 => v = .int .i64 k
            | 6 => v = .int .i64 ((k : Int) + 1)
            | 7 => v = .agg #[.int .i64 1, .slice (some ⟨s, 0, none⟩) 1 1, .string vl, .int .i64 0]
            | 8 => v = .slice (some ⟨b, o, none⟩) ks.length c
            | 9 => v = .int .i64 k
            | 10 => v = .pointer (some ⟨b, o + k, none⟩)
            | 11 => v = .string ky
            | 12 => v = .agg #[.int .i64 0, .int .i64 0, .int .i64 ((k : Int) + 1), .int .i64 ((k : Int) + 1), .int .i64 0, .int .i64 0, .string ky, .string vl, .bool false, .int .i64 k, .int .i64 0, .int .i64 0, .int .i64 0, .int .i64 0, .int .i64 0, .int .i64 0, .int .i64 0, .int .i64 0, .int .i64 0, .int .i64 ((k : Int) + 1)]
            | 13 => v = .agg (rsCells (rOf k ky vl)).toArray
            | 14 => ∃ r, v = .slice (some ⟨r, 0, none⟩) 1 1 ∧ w6.heap.size ≤ r ∧ Mem.Own u 48 22 (some ⟨r, 0, none⟩) 1 1 (rsCells (rOf k ky vl))
            | 15 => v = .agg #[.int .i64 ((k + 1 : Nat) : Int), .int .i64 0, .int .i64 0, .int .i64 0, .int .i64 0, .int .i64 0, .int .i64 0, .int .i64 0, .int .i64 0]
            | 16 => ∃ r, v = .agg (evCells (eEn k s r ky vl)).toArray ∧ w6.heap.size ≤ r ∧ Mem.Own u 48 22 (some ⟨r, 0, none⟩) 1 1 (rsCells (rOf k ky vl))
            | 17 => ∃ r t, v = .slice (some ⟨t, 0, none⟩) 2 2 ∧ w6.heap.size ≤ r ∧ Mem.Own u 48 22 (some ⟨r, 0, none⟩) 1 1 (rsCells (rOf k ky vl)) ∧ Mem.Own u 46 20 (some ⟨t, 0, none⟩) 2 2 (evCells (eBe k s ky vl) ++ evCells (eEn k s r ky vl))
            | 18 => ∃ r X c, v = .slice X (2 * k + 2) c ∧ Wr w ps (k + 1) (k + 1) k X c X9 c9 gc (es ++ [eBe k s ky vl, eEn k s r ky vl]) u ∧ Vec.EBx u gw (wrt k (ky, vl))
            | 19 => ∃ r X c, v = .slice X (2 * k + 2) c ∧ Wr w ps (k + 1) (k + 1) k X c X9 c9 gc (es ++ [eBe k s ky vl, eEn k s r ky vl]) u ∧ Vec.EBx u gw (wrt k (ky, vl))
            | _ => True) ?_ ?_
        · refine Reg.StepsZ.cons ?_ (Reg.StepsZ.cons ?_ (Reg.StepsZ.cons ?_ (Reg.StepsZ.cons ?_ (Reg.StepsZ.cons ?_ (Reg.StepsZ.cons ?_ (Reg.StepsZ.cons ?_ (Reg.StepsZ.cons ?_ (Reg.StepsZ.cons ?_ (Reg.StepsZ.cons ?_ (Reg.StepsZ.cons ?_ (Reg.StepsZ.cons ?_ (Reg.StepsZ.cons ?_ (Reg.StepsZ.cons ?_ (Reg.StepsZ.cons ?_ (Reg.StepsZ.cons ?_ (Reg.StepsZ.cons ?_ (Reg.StepsZ.cons ?_ (Reg.StepsZ.cons ?_ (Reg.StepsZ.cons ?_ (Reg.StepsZ.nil _))))))))))))))))))))
          · intro val ac u hR hp hpq ha K hK0
            have hK := fun v w' h1 h2 => hK0 v w' h1 h2 (fun j f v' h _ => by omega); have e8 : (ac.tmps[8]?).getD undef = .slice X8 (2 * k) c8 := ha 8 (by decide); clear ha hp
            refine Reg.Op1.plain rfl ?_
            go_wp2
            exact ⟨rfl, hK _ _ rfl (Reg.Wr.same _)⟩
          · intro val ac u hR hp hpq ha K hK0
            have hK := fun v w' h1 h2 => hK0 v w' h1 h2 (fun j f v' h _ => by omega); have e11 : (ac.tmps[11]?).getD undef = .int .i64 k := ha 11 (by decide); clear ha hp
            refine Reg.Op1.plain rfl ?_
            go_wp2
            exact ⟨rfl, hK _ _ rfl (Reg.Wr.same _)⟩
          · intro val ac u hR hp hpq ha K hK0
            have hK := fun v w' h1 h2 => hK0 v w' h1 h2 (fun j f v' h _ => by omega); obtain ⟨w83, h83, r83⟩ := hp 1 (by decide); have e83 : (ac.tmps[83]?).getD undef = .int .i64 k := (ha 83 (by decide)).trans h83; clear h83 ha hp
            refine Reg.Op1.plain rfl ?_
            go_wp2
            exact ⟨rfl, hK _ _ rfl (Reg.Wr.same _)⟩
          · intro val ac u hR hp hpq ha K hK0
            have hK := fun v w' h1 h2 => hK0 v w' h1 h2 (fun j f v' h _ => by omega); have e12 : (ac.tmps[12]?).getD undef = .pointer (some ⟨g, 0, none⟩) := ha 12 (by decide); clear ha hp
            refine Reg.Op1.plain rfl ?_
            have hk0 := (Mem.Keeps.refl (fun _ => False ∨ False) w6).drew.trans (Reg.Wr.not1 hR (by decide +kernel)) (fun _ h _ => h)
            have hAu := HA6.out.keeps hk0 (fun h => h.elim id id)
            refine Mem.load_agg _ _ ask_agg g 0 [.int .i64 1, .slice (some ⟨s, 0, none⟩) 1 1, .string vl, .int .i64 0] (Reg.eval_of e12) rfl (fun j u' hu => by rw [Nat.zero_add]; exact hAu.cell hu) ?_
            exact ⟨rfl, hK _ _ rfl (Reg.Wr.same _)⟩
          · intro val ac u hR hp hpq ha K hK0
            have hK := fun v w' h1 h2 => hK0 v w' h1 h2 (fun j f v' h _ => by omega); obtain ⟨w84, h84, r84⟩ := hp 2 (by decide); have e84 : (ac.tmps[84]?).getD undef = .int .i64 ((k : Int) + 1) := (ha 84 (by decide)).trans h84; obtain ⟨w85, h85, r85⟩ := hp 3 (by decide); have e85 : (ac.tmps[85]?).getD undef = .agg #[.int .i64 1, .slice (some ⟨s, 0, none⟩) 1 1, .string vl, .int .i64 0] := (ha 85 (by decide)).trans h85; clear h84 h85 ha hp
            refine Reg.Op1.plain rfl ?_
            go_wp2
            exact ⟨rfl, hK _ _ rfl (Reg.Wr.same _)⟩
          · intro val ac u hR hp hpq ha K hK0
            have hK := fun v w' h1 h2 => hK0 v w' h1 h2 (fun j f v' h _ => by omega); have e11 : (ac.tmps[11]?).getD undef = .int .i64 k := ha 11 (by decide); clear ha hp
            refine Reg.Op1.plain rfl ?_
            go_wp2
            exact ⟨rfl, hK _ _ rfl (Reg.Wr.same _)⟩
          · intro val ac u hR hp hpq ha K hK0
            have hK := fun v w' h1 h2 => hK0 v w' h1 h2 (fun j f v' h _ => by omega); obtain ⟨w87, h87, r87⟩ := hp 5 (by decide); have e87 : (ac.tmps[87]?).getD undef = .int .i64 k := (ha 87 (by decide)).trans h87; clear h87 ha hp
            refine Reg.Op1.plain rfl ?_
            go_wp2
            exact ⟨rfl, hK _ _ rfl (Reg.Wr.same _)⟩
          · intro val ac u hR hp hpq ha K hK0
            have hK := fun v w' h1 h2 => hK0 v w' h1 h2 (fun j f v' h _ => by omega); have e12 : (ac.tmps[12]?).getD undef = .pointer (some ⟨g, 0, none⟩) := ha 12 (by decide); clear ha hp
            refine Reg.Op1.plain rfl ?_
            have hk0 := (Mem.Keeps.refl (fun _ => False ∨ False) w6).drew.trans (Reg.Wr.not1 hR (by decide +kernel)) (fun _ h _ => h)
            have hAu := HA6.out.keeps hk0 (fun h => h.elim id id)
            refine Mem.load_agg _ _ ask_agg g 0 [.int .i64 1, .slice (some ⟨s, 0, none⟩) 1 1, .string vl, .int .i64 0] (Reg.eval_of e12) rfl (fun j u' hu => by rw [Nat.zero_add]; exact hAu.cell hu) ?_
            exact ⟨rfl, hK _ _ rfl (Reg.Wr.same _)⟩
          · intro val ac u hR hp hpq ha K hK0
            have hK := fun v w' h1 h2 => hK0 v w' h1 h2 (fun j f v' h _ => by omega); have e0 : (ac.tmps[0]?).getD undef = .slice (some ⟨b, o, none⟩) ks.length c := ha 0 (by decide); clear ha hp
            refine Reg.Op1.plain rfl ?_
            go_wp2
            exact ⟨rfl, hK _ _ rfl (Reg.Wr.same _)⟩
          · intro val ac u hR hp hpq ha K hK0
            have hK := fun v w' h1 h2 => hK0 v w' h1 h2 (fun j f v' h _ => by omega); have e11 : (ac.tmps[11]?).getD undef = .int .i64 k := ha 11 (by decide); clear ha hp
            refine Reg.Op1.plain rfl ?_
            go_wp2
            exact ⟨rfl, hK _ _ rfl (Reg.Wr.same _)⟩
          · intro val ac u hR hp hpq ha K hK0
            have hK := fun v w' h1 h2 => hK0 v w' h1 h2 (fun j f v' h _ => by omega); obtain ⟨w90, h90, r90⟩ := hp 8 (by decide); have e90 : (ac.tmps[90]?).getD undef = .slice (some ⟨b, o, none⟩) ks.length c := (ha 90 (by decide)).trans h90; obtain ⟨w91, h91, r91⟩ := hp 9 (by decide); have e91 : (ac.tmps[91]?).getD undef = .int .i64 k := (ha 91 (by decide)).trans h91; clear h90 h91 ha hp
            refine Reg.Op1.plain rfl ?_
            go_wp2
            exact ⟨rfl, hK _ _ rfl (Reg.Wr.same _)⟩
          · intro val ac u hR hp hpq ha K hK0
            have hK := fun v w' h1 h2 => hK0 v w' h1 h2 (fun j f v' h _ => by omega); obtain ⟨w92, h92, r92⟩ := hp 10 (by decide); have e92 : (ac.tmps[92]?).getD undef = .pointer (some ⟨b, o + k, none⟩) := (ha 92 (by decide)).trans h92; clear h92 ha hp
            refine Reg.Op1.plain rfl ?_
            have hk0 := (Mem.Keeps.refl (fun _ => False ∨ False) w6).drew.trans (Reg.Wr.not1 hR (by decide +kernel)) (fun _ h _ => h)
            have z0 := (hk0.cell (p := ⟨b, o + k, none⟩) hb6 (fun h => h.elim id id)).trans x06
            go_wp2
            exact ⟨rfl, hK _ _ rfl (Reg.Wr.same _)⟩
          · intro val ac u hR hp hpq ha K hK0
            have hK := fun v w' h1 h2 => hK0 v w' h1 h2 (fun j f v' h _ => by omega); have e13 : (ac.tmps[13]?).getD undef = .pointer (some ⟨gw, 0, none⟩) := ha 13 (by decide); clear ha hp
            refine Reg.Op1.plain rfl ?_
            have hk0 := (Mem.Keeps.refl (fun _ => False ∨ False) w6).drew.trans (Reg.Wr.not1 hR (by decide +kernel)) (fun _ h _ => h)
            have hEu := HE6.out.keeps hk0 (fun h => h.elim id id)
            refine Mem.load_agg _ _ entry_agg gw 0 [.int .i64 0, .int .i64 0, .int .i64 ((k : Int) + 1), .int .i64 ((k : Int) + 1), .int .i64 0, .int .i64 0, .string ky, .string vl, .bool false, .int .i64 k, .int .i64 0, .int .i64 0, .int .i64 0, .int .i64 0, .int .i64 0, .int .i64 0, .int .i64 0, .int .i64 0, .int .i64 0, .int .i64 ((k : Int) + 1)] (Reg.eval_of e13) rfl (fun j u' hu => by rw [Nat.zero_add]; exact hEu.cell hu) ?_
            exact ⟨rfl, hK _ _ rfl (Reg.Wr.same _)⟩
          · intro val ac u hR hp hpq ha K hK0
            have hK := fun v w' h1 h2 => hK0 v w' h1 h2 (fun j f v' h _ => by omega); obtain ⟨w93, h93, r93⟩ := hp 11 (by decide); have e93 : (ac.tmps[93]?).getD undef = .string ky := (ha 93 (by decide)).trans h93; obtain ⟨w94, h94, r94⟩ := hp 12 (by decide); have e94 : (ac.tmps[94]?).getD undef = .agg #[.int .i64 0, .int .i64 0, .int .i64 ((k : Int) + 1), .int .i64 ((k : Int) + 1), .int .i64 0, .int .i64 0, .string ky, .string vl, .bool false, .int .i64 k, .int .i64 0, .int .i64 0, .int .i64 0, .int .i64 0, .int .i64 0, .int .i64 0, .int .i64 0, .int .i64 0, .int .i64 0, .int .i64 ((k : Int) + 1)] := (ha 94 (by decide)).trans h94; clear h93 h94 ha hp
            refine Reg.Op1.plain rfl ?_
            go_wp2
            exact ⟨rfl, hK _ _ rfl (Reg.Wr.same _)⟩
          · intro val ac u hR hp hpq ha K hK0
            have hK := fun v w' h1 h2 => hK0 v w' h1 h2 (fun j f v' h _ => by omega); obtain ⟨w95, h95, r95⟩ := hp 13 (by decide); have e95 : (ac.tmps[95]?).getD undef = .agg (rsCells (rOf k ky vl)).toArray := (ha 95 (by decide)).trans h95; clear h95 ha hp
            refine Reg.Op1.plain rfl ?_
            have hbu : w6.heap.size ≤ u.heap.size := (Reg.Wr.all hR).size
            refine Mem.build1_agg _ _ 22 _ Try.underlying44 res_zero (by decide) (by decide) (rsCells (rOf k ky vl)) (Reg.eval_of e95) (rsCells_length _) ?_
            exact ⟨rfl, hK _ _ ⟨u.heap.size, rfl, hbu, Mem.Own.lit u _ 22 (rsCells (rOf k ky vl)).toArray 1 rfl rfl (by simp [maxLen])⟩ (Reg.Wr.quiet ((Mem.Keeps.refl _ u).alloc _))⟩
          · intro val ac u hR hp hpq ha K hK0
            have hK := fun v w' h1 h2 => hK0 v w' h1 h2 (fun j f v' h _ => by omega); have e10 : (ac.tmps[10]?).getD undef = .pointer (some ⟨gc, 0, none⟩) := ha 10 (by decide); clear ha hp
            refine Reg.Op1.plain rfl ?_
            have hk0 := (Mem.Keeps.refl (fun _ => False ∨ False) w6).drew.trans (Reg.Wr.not1 hR (by decide +kernel)) (fun _ h _ => h)
            have hCu := HW6.out.C.keeps hk0 (fun h => h.elim id id)
            refine Mem.load_agg _ _ vec_agg gc 0 [.int .i64 ((k + 1 : Nat) : Int), .int .i64 0, .int .i64 0, .int .i64 0, .int .i64 0, .int .i64 0, .int .i64 0, .int .i64 0, .int .i64 0] (Reg.eval_of e10) rfl (fun j u' hu => by rw [Nat.zero_add]; exact hCu.cell hu) ?_
            exact ⟨rfl, hK _ _ rfl (Reg.Wr.same _)⟩
          · intro val ac u hR hp hpq ha K hK0
            have hK := fun v w' h1 h2 => hK0 v w' h1 h2 (fun j f v' h _ => by omega); obtain ⟨w88, h88, r88⟩ := hp 6 (by decide); have e88 : (ac.tmps[88]?).getD undef = .int .i64 ((k : Int) + 1) := (ha 88 (by decide)).trans h88; obtain ⟨w89, h89, r89⟩ := hp 7 (by decide); have e89 : (ac.tmps[89]?).getD undef = .agg #[.int .i64 1, .slice (some ⟨s, 0, none⟩) 1 1, .string vl, .int .i64 0] := (ha 89 (by decide)).trans h89; obtain ⟨w96, h96, r96⟩ := hp 14 (by decide); have e96 : (ac.tmps[96]?).getD undef = val 14 := ha 96 (by decide); obtain ⟨w97, h97, r97⟩ := hp 15 (by decide); have e97 : (ac.tmps[97]?).getD undef = .agg #[.int .i64 ((k + 1 : Nat) : Int), .int .i64 0, .int .i64 0, .int .i64 0, .int .i64 0, .int .i64 0, .int .i64 0, .int .i64 0, .int .i64 0] := (ha 97 (by decide)).trans h97; clear h88 h89 h97 ha hp
            refine Reg.Op1.plain rfl ?_
            obtain ⟨r, hv, hrs, ho⟩ := h96
            rw [hv] at e96
            have HO := Lib.hid (ho.keeps (Reg.Wr.not1 r96 (by decide +kernel)) (fun _ _ h => h.elim id id))
            have HS := Lib.hid hrs
            clear hv hrs ho
            go_wp2
            exact ⟨rfl, hK _ _ ⟨r, rfl, HS.out, HO.out⟩ (Reg.Wr.same _)⟩
          · intro val ac u hR hp hpq ha K hK0
            have hK := fun v w' h1 h2 => hK0 v w' h1 h2 (fun j f v' h _ => by omega); obtain ⟨w86, h86, r86⟩ := hp 4 (by decide); have e86 : (ac.tmps[86]?).getD undef = .agg (evCells (eBe k s ky vl)).toArray := (ha 86 (by decide)).trans h86; obtain ⟨w98, h98, r98⟩ := hp 16 (by decide); have e98 : (ac.tmps[98]?).getD undef = val 16 := ha 98 (by decide); clear h86 ha hp
            refine Reg.Op1.plain rfl ?_
            obtain ⟨r, hv, hrs, ho⟩ := h98
            rw [hv] at e98
            have HO := Lib.hid (ho.keeps (Reg.Wr.not1 r98 (by decide +kernel)) (fun _ _ h => h.elim id id))
            refine Mem.build2_agg _ _ 20 _ Try.underlying22 ev_zero (by decide) (by decide) (evCells (eBe k s ky vl)) (evCells (eEn k s r ky vl)) (Reg.eval_of e86) (Reg.eval_of e98) (evCells_length _) (evCells_length _) ?_
            exact ⟨rfl, hK _ _ ⟨r, u.heap.size, rfl, hrs, HO.out.alloc _, Mem.Own.lit u _ 20 (evCells (eBe k s ky vl) ++ evCells (eEn k s r ky vl)).toArray 2 rfl rfl (by simp [maxLen])⟩ (Reg.Wr.quiet ((Mem.Keeps.refl _ u).alloc _))⟩
          · intro val ac u hR hp hpq ha K hK0
            have hK := fun v w' h1 h2 => hK0 v w' h1 h2 (fun j f v' h _ => by omega); obtain ⟨w82, h82, r82⟩ := hp 0 (by decide); have e82 : (ac.tmps[82]?).getD undef = .slice X8 (2 * k) c8 := (ha 82 (by decide)).trans h82; obtain ⟨w99, h99, r99⟩ := hp 17 (by decide); have e99 : (ac.tmps[99]?).getD undef = val 17 := ha 99 (by decide); clear h82 ha hp
            refine Reg.Op1.plain rfl ?_
            obtain ⟨r, t, hv, hrs, hor, hot⟩ := h99
            rw [hv] at e99
            have hk0 := (Mem.Keeps.refl (fun _ => False ∨ False) w6).drew.trans (Reg.Wr.not1 hR (by decide +kernel)) (fun _ h _ => h)
            have hW := HW6.out.later (hk0.below (B := w6.heap.size) (fun k h => h.elim (fun h => h.elim) (fun h => h.elim)) (Nat.le_refl _))
            have hr' := hor.keeps (Reg.Wr.not1 r99 (by decide +kernel)) (fun _ _ h => h.elim id id)
            have ht' := hot.keeps (Reg.Wr.not1 r99 (by decide +kernel)) (fun _ _ h => h.elim id id)
            have hky' := HKY6.out.keeps hk0 (fun _ _ h => h.elim id id)
            have hE' := HE6.out.keeps hk0 (fun h => h.elim id id)
            have h1 : WrE (wrS X8 X9 gc) u (eBe k s ky vl) := ⟨hky'.rd, .inl rfl, Nat.le_refl 1, Nat.le_refl 0, Nat.le_refl 1, Nat.zero_le 1, fun q hq => by cases hq; exact HNS.out, fun q hq => (by cases hq), fun q hq => hky'.lt hq, fun q hq => (by cases hq)⟩
            have h2 : WrE (wrS X8 X9 gc) u (eEn k s r ky vl) := ⟨hky'.rd, hr'.rd, Nat.le_refl 1, Nat.le_refl 1, Nat.le_refl 1, Nat.le_refl 1, fun q hq => by cases hq; exact HNS.out, fun q hq => by cases hq; exact HW6.out.fresh hrs, fun q hq => hky'.lt hq, fun q hq => hr'.lt hq⟩
            refine Mem.wpList_app u rfl (.tmp 82) (.tmp 99) _ rfl events_elem X8 (2 * k) c8 _ (Reg.eval_of e82) u.heap.size (some ⟨t, 0, none⟩) 2 2 (evCells (eBe k s ky vl) ++ evCells (eEn k s r ky vl)) (Reg.eval_of e99) ?_ hW.H ht'.rd rfl (fun y hy => (List.mem_append.1 hy).elim (ev_one _ y) (ev_one _ y)) hk3 hk2
            intro X c u' hown hg hat
            have hkk : Mem.Keeps (fun q => Mem.blk X8 = some q) u u' := (Mem.Keeps.refl _ u).grown hg (fun k hk _ => hk)
            exact ⟨rfl, hK _ _ ⟨r, X, c, rfl, hW.more8 HP.out hkk hown hat rfl rfl h1 h2, hE'.keeps hkk (fun e => HGX.out e)⟩ (Reg.Wr.does1 hkk)⟩
          · intro val ac u hR hp hpq ha K hK0
            have hK := fun v w' h1 h2 => hK0 v w' h1 h2 (fun j f v' h _ => by omega); obtain ⟨w100, h100, r100⟩ := hp 18 (by decide); have e100 : (ac.tmps[100]?).getD undef = val 18 := ha 100 (by decide); clear ha hp
            refine Reg.Op1.plain rfl ?_
            obtain ⟨r, X, c, hv, hwr, hbe⟩ := h100
            rw [hv] at e100
            have hq : Mem.Keeps (fun y => False ∨ False) _ u := Reg.Wr.not1 r100 (by decide +kernel)
            have HW7 := Lib.hid (hwr.later (hq.below (fun k h => h.elim (fun h => h.elim) (fun h => h.elim)) (Nat.le_refl _)))
            have HE7 : Hid (Vec.EBx u gw (wrt k (ky, vl))) := hbe.keeps hq (fun h => h.elim id id)
            clear hv hwr hbe hq
            go_wp2
            exact ⟨rfl, hK _ _ ⟨r, X, c, rfl, HW7.out, HE7.out⟩ (Reg.Wr.same _)⟩
        intro val u hR H hZ
        obtain ⟨wA, ⟨r, X, cX, hv8, hwr, hbe⟩, rA⟩ := H 19 (by decide)
        have hv8 : val 19 = .slice X (2 * k + 2) cX := hv8
        have hq : Mem.Keeps (fun y => False ∨ False) wA u := Reg.Wr.not1 rA (by decide +kernel)
        have HW7 := Lib.hid (hwr.later (hq.below (B := wA.heap.size) (fun k h => h.elim (fun h => h.elim) (fun h => h.elim)) (Nat.le_refl _)))
        have HE7 : Hid (Vec.EBx u gw (wrt k (ky, vl))) := hbe.keeps hq (fun h => h.elim id id)
        simp only [List.map_cons, List.map_nil, Reg.lay, Act.put, List.setIfInBounds_toArray, List.set_cons_succ, List.set_cons_zero, Nat.reduceAdd, hv8]
        clear hR H hZ hq rA hv8 hwr hbe HW6 HA6 HKY6 HE6 x06 hb6
        obtain ⟨w7, hw7⟩ : ∃ z, z = u := ⟨_, rfl⟩
        subst hw7
        have HE7' : Hid (∀ j u, (entCells (wrt k (ky, vl)))[j]? = some u → w7.cell? ⟨gw, 0 + j, none⟩ = some u) := fun j u hu => by rw [Nat.zero_add]; exact HE7.out.cell hu
        have hn63 : k + 1 ≤ maxLen := by unfold maxLen; omega
        have hn47 : (k + 1) * 176 ≤ 140737488355328 := by omega
        go_wp2_with (first
          | ((with_reducible refine Mem.load_agg _ _ entry_agg gw 0 (entCells (wrt k (ky, vl))) ?hx (entCells_length _) HE7'.out ?_); case hx => exact rfl)
          | ((with_reducible refine Mem.build1_agg _ _ 20 _ Try.underlying23 entry_zero (by decide) (by decide) (entCells (wrt k (ky, vl))) ?hra (entCells_length _) ?_); (case hra => exact rfl))
          | (at_builtin; refine Mem.wpList_app _ rfl (.tmp 101) (.tmp 103) _ rfl entries_elem X9 k c9 _ rfl (w7.heap.size + 1) (some ⟨w7.heap.size, 0, none⟩) 1 1 (entCells (wrt k (ky, vl))) rfl ?_ (HW7.out.W.alloc _) (Mem.Rd.alloc_new w7 _ _ _ rfl) rfl (ent_one _) hn63 hn47; intro X3 c3 w9 hown hg4 hat9; have HO9 := Lib.hid hown; have HG9 := Lib.hid hg4; have HAT9 := Lib.hid hat9; clear hown hg4 hat9))
        have HW9 : Hid (Wr w ps (k + 1) (k + 1) (k + 1) X cX X3 c3 gc (es ++ [eBe k s ky vl, eEn k s r ky vl]) w9) :=
          (HW7.out.later (Reg.below_new w7 _)).more9 HP.out ((Mem.Keeps.refl (fun q => Mem.blk X9 = some q) _).grown HG9.out (fun k hk _ => hk)) HO9.out (HAT9.out.elim .inl (fun h => .inr ⟨_, Nat.le_refl _, h⟩))
        have HSZ9 : Hid (∀ j p, j < k + 1 → ps[j]? = some p → p.2.size ≤ 32) := fun j p hj hp => by
          by_cases hjk : j < k
          · exact HSZ.out j p hjk hp
          · obtain rfl : j = k := by omega
            rw [HP.out] at hp
            cases hp
            exact HOK.out
        clear HW7 HE7 HE7' HO9 HG9 HAT9 hn63 hn47 HSZ HGX HGX9 HNS
        go_roundw
        case rel => exact ⟨⟨k + 1, X, cX, X3, c3, _, HLT.out, rfl, rfl, by go_num, HW9, HSZ9⟩⟩
        case measure => exact Au.meas_lt HLT.out
    · obtain rfl : k = ps.length := by omega
      have d0 : decide ((ps.length : Int) < (ps.length : Int)) = false := by simp
      have HH : Hid (es.map bare = (hist ps).map bare) := by
        have h1 := HW.out.b
        rw [List.take_length] at h1
        show _ = _
        rw [h1]
        exact (hist_bare ps).symm
      have HWS : Hid (wrts (ps.take ps.length) = wrts ps) := by show _ = _; rw [List.take_length]
      have HL : Hid (es.length = 2 * ps.length) := by
        have h1 := congrArg List.length HH.out
        rw [List.length_map, List.length_map, hist_len] at h1
        exact h1
      have HWL : Hid ((wrts ps).length = ps.length) := by show _ = _; unfold wrts; exact List.length_mapIdx
      have HIN : Hid (∀ e ∈ es, okI e.cl ∧ e.res.length ≤ 703687441776) := fun e he => by
        have h1 : bare e ∈ hist ps := by
          have h2 := HW.out.b
          rw [List.take_length] at h2
          rw [← h2]
          exact List.mem_map_of_mem he
        have h3 : (bare e).cl = 0 := hist_mem h1
        have h3 : e.cl = 0 := h3
        have h4 := (HW.out.e e he).rl
        have h5 := (HW.out.e e he).rn
        exact ⟨by rw [h3]; exact ok0, by omega⟩
      have HTK : Hid (∀ e ∈ es, EvOk wr wr.heap.size e ∧ e.keys.length ≤ 8796093022208 ∧ e.res.length ≤ 703687441776) := fun e he => by
        have h := HW.out.e e he
        have h1 := h.kl
        have h2 := h.kn
        have h3 := h.rl
        have h4 := h.rn
        exact ⟨⟨h.k, h.r, h.kl, h.rl, by omega, by omega⟩, by omega, by omega⟩
      have HTW : Hid (∀ u, Below wr.heap.size wr u → Calls Try.prog 11 #[.slice X8 (2 * ps.length) c8] u fun x w' => ∃ X c hs, x = .returned (.slice X (2 * ps.length) c) ∧ Tw u es es.length X c hs w') := fun u hu => by
        have h1 := twin_any X8 c8 es wr.heap.size wr u HW.out.H.rd HTK.out (by rw [HL.out]; omega) hu hu.size
        rw [HL.out] at h1
        refine h1.mono ?_
        rintro x w' ⟨X, c, hs, hx, ht⟩
        exact ⟨X, c, hs, by rw [HL.out] at hx; exact hx, ht⟩
      have HRW : Hid (Mem.Rd wr wr.heap.size X9 ((wrts ps).flatMap entCells)) := by
        have h1 := HW.out.W.rd
        rw [HWS.out] at h1
        exact h1
      have hol : ((wrts ps).flatMap entCells).length = ps.length * 20 := by rw [Vec.ents_len, HWL.out]
      have hoo := Vec.ents_one (wrts ps)
      have HF0 : Hid (findL es (wrts ps) = []) := (findL_congr HH.out (wrts ps)).trans (hist_finds ps)
      clear hk
      go_upto_region 19 with (first
        | (go_at_call 11; (refine (HTW.out wr (Below.refl _ _)).mono ?_); rintro x w3 ⟨X3, c3, hs3, rfl, ht3⟩; have HT3 := Lib.hid ht3; clear ht3)
        | (at_builtin; refine Mem.wpList_clone _ rfl (.tmp 107) (.tmp 108) _ rfl entries_elem _ rfl w3 w3.heap.size X9 ps.length c9 ((wrts ps).flatMap entCells) rfl ?_ rfl (Below.refl _ _) (Nat.le_refl _) ((HRW.out.below HT3.out.bl).more HT3.out.bl.size) hol hoo (by unfold maxLen; omega) (by omega); intro A4 c4 w4 hown hb4 hs4 hf4; have HO4 := Lib.hid hown; have HB4 := Lib.hid hb4; clear hown hb4 hs4 hf4)
        | (go_at_call 12; (have HCC := Lib.hid (twCheck_any HT3.out HB4.out HO4.out.rd (by rw [HWL.out]; exact HO4.out.le) HO4.out.cap (by rw [HL.out]; omega) HIN.out)); (rw [HF0.out, HL.out, HWL.out] at HCC); (refine HCC.out.mono ?_); rintro x w5 ⟨X5, c5, rfl, ho5, hf5, hb5⟩; have HB5 := Lib.hid (HT3.out.bl.trans ((HB4.out.trans (hb5.mono HB4.out.size)).mono HT3.out.bl.size)); clear ho5 hf5 hb5 HCC))
      clear HT3 HB4 HO4
      by_cases hn0 : ps.length = 0
      · have d1 : ((ps.length : Int) == 0) = true := by simpa using hn0
        go_wp2
        go_ret
        exact ⟨rfl, HW.out.bl.trans (HB5.out.mono HW.out.bl.size)⟩
      · have d1 : ((ps.length : Int) == 0) = false := by simpa using hn0
        have hLne : (ps.length : Int) ≠ 0 := by omega
        go_upto_region 22 with fail
        obtain ⟨im, hil, hie⟩ := at_nums (L := ps.length) (by omega) hn0 kk
        rw [hie]
        obtain ⟨⟨ky, vl⟩, hp⟩ : ∃ p, ps[im]? = some p := ⟨_, List.getElem?_eq_getElem hil⟩
        have HP := Lib.hid hp
        have HVS := Lib.hid (HSZ.out im _ hil hp)
        clear hie hp HSZ
        go_upto_region 23 with (first
          | (go_at_call 11; (refine (HTW.out w5 HB5.out).mono ?_); rintro x w6 ⟨X6, c6, hs6, rfl, ht6⟩; have HT6 := Lib.hid ht6; clear ht6))
        have HL6 : Hid (hs6.length = 2 * ps.length) := by show _ = _; rw [HT6.out.len, HL.out]
        have HB6b : Hid (hs6.map bare = hist ps) := by
          have h1 := HT6.out.b
          rw [List.take_length, HH.out, hist_bare] at h1
          exact h1
        have hi2 : 2 * im + 1 < hs6.length := by rw [HL6.out]; omega
        obtain ⟨b, o, e, rfl, hb, hej, hat⟩ := ev_elem HT6.out.o.rd hi2
        obtain ⟨e', hej', hbe⟩ := bare_get HB6b.out (hist_get ps HP.out).2
        obtain rfl : e = e' := by rw [hej] at hej'; exact Option.some.inj hej'
        obtain ⟨kA, kc, rA, rc, rfl⟩ := bare_end hbe
        have hte := HT6.out.e _ (List.mem_of_getElem? hej)
        have hro := hte.r
        have hro : Mem.Own w6 48 22 rA 1 rc (rsCells ⟨ky, true, wrt im (ky, vl)⟩) := by simpa [enF] using hro
        have hrr : ∃ g ro, rA = some ⟨g, ro, none⟩ ∧ w6.cell? ⟨g, ro + 2 + 7, none⟩ = some (.string vl) := by
          rcases hro.rd with h | ⟨g, ro, h, _, hc⟩
          · cases h
          · exact ⟨g, ro, h, hc 9 _ rfl⟩
        obtain ⟨rb, ro, rfl, y1⟩ := hrr
        have HRO := Lib.hid hro
        have xf : ∀ q, w6.frozen? ⟨rb, q, none⟩ = false := fun q => HRO.out.free q
        have HAT := Lib.hid hat
        have HEJ := Lib.hid hej
        have HTE := Lib.hid hte
        clear hte
        have hw1 : wrap64 (2 * (im : Int)) = ((2 * im : Nat) : Int) := by rw [IntWalk.wrap64_in _ (by omega)]; omega
        have hw2 : wrap64 (((2 * im : Nat) : Int) + 1) = ((2 * im + 1 : Nat) : Int) := by rw [IntWalk.wrap64_in _ (by omega)]; omega
        have hi3 : 2 * im + 1 < 2 * ps.length := by omega
        have y0 : w6.cell? ⟨b, o + (2 * im + 1) * 20 + 10, none⟩ = some (.slice (some ⟨rb, ro, none⟩) 1 rc) := hat.c 10 _ rfl
        clear hro hej hej' hbe hat hi2 hn0 hLne d0 d1
        have hvs : vl.size ≤ 32 := HVS.out
        go_upto_region 24 with fail
        have HK7 : Hid (Mem.Keeps (fun q => q = rb) w6 (w6.setCell ⟨rb, ro + 2 + 7, none⟩ (.string (vl ++ ByteArray.mk #[120])))) := by
          show Mem.Keeps (fun q => q = rb) _ _
          exact (Mem.Keeps.refl (fun q => q = rb) w6).setCell (p := ⟨rb, ro + 2 + 7, none⟩) (fun _ => rfl) _
        have HR7 : Hid (Mem.Own (w6.setCell ⟨rb, ro + 2 + 7, none⟩ (.string (vl ++ ByteArray.mk #[120]))) 48 22 (some ⟨rb, ro, none⟩) 1 rc (rsCells ⟨ky, true, wrtV im (ky, vl) (vl ++ ByteArray.mk #[120])⟩)) := HRO.out.set 9 _
        obtain ⟨w7, hw7⟩ : ∃ z, w6.setCell ⟨rb, ro + 2 + 7, none⟩ (.string (vl ++ ByteArray.mk #[120])) = z := ⟨_, rfl⟩
        rw [hw7] at HK7 HR7 ⊢
        have HTU := Lib.hid (HT6.out.turn HEJ.out (e7 := enF im (ky, vl) (wrtV im (ky, vl) (vl ++ ByteArray.mk #[120])) kA kc (some ⟨rb, ro, none⟩) rc) (rb := rb) rfl HK7.out
          ⟨(HTE.out.k.keeps HK7.out (fun q hq e => by subst e; exact HTE.out.kr q hq rfl)).rd, HR7.out.rd, HTE.out.k.le, HTE.out.r.le, HTE.out.k.cap, HTE.out.r.cap⟩ rfl ⟨ok0, by simp [enF]⟩ HIN.out)
        have HFD : Hid (findL (hs6.set (2 * im + 1) (enF im (ky, vl) (wrtV im (ky, vl) (vl ++ ByteArray.mk #[120])) kA kc (some ⟨rb, ro, none⟩) rc)) (wrts ps) ≠ []) := turn_finds HP.out (v := vl ++ ByteArray.mk #[120]) (by
          intro h1
          have h2 := congrArg ByteArray.size h1
          rw [ByteArray.size_append] at h2
          have h3 : (ByteArray.mk #[120]).size = 1 := rfl
          dsimp only at h2
          omega) (j := 2 * im + 1) (by rw [List.getElem?_set, if_pos rfl, if_pos (List.getElem?_eq_some_iff.1 HEJ.out).1])
        have HL7 : Hid ((hs6.set (2 * im + 1) (enF im (ky, vl) (wrtV im (ky, vl) (vl ++ ByteArray.mk #[120])) kA kc (some ⟨rb, ro, none⟩) rc)).length = 2 * ps.length) := by show _ = _; rw [List.length_set]; exact HL6.out
        obtain ⟨hs7, hh7⟩ : ∃ z, hs6.set (2 * im + 1) (enF im (ky, vl) (wrtV im (ky, vl) (vl ++ ByteArray.mk #[120])) kA kc (some ⟨rb, ro, none⟩) rc) = z := ⟨_, rfl⟩
        rw [hh7] at HTU HFD HL7
        have HB7 : Hid (Below wr.heap.size wr w7) := (HB5.out.trans (HT6.out.bl.mono HB5.out.size)).trans (HK7.out.below (B := wr.heap.size) (fun q e => by rw [e]; exact Nat.le_trans HB5.out.size (HTE.out.rf.blk _ rfl)) (HB5.out.trans (HT6.out.bl.mono HB5.out.size)).size)
        have HC6 : Hid (2 * ps.length ≤ c6 ∧ c6 ≤ 9223372036854775807) := by
          have h1 := HT6.out.o.le
          have h2 := HT6.out.o.cap
          rw [HL6.out] at h1
          exact ⟨h1, h2⟩
        clear hw7 hh7 HK7 HR7 HT6 HTE HRO xf y0 y1 HEJ HAT HL6 HB6b hb
        obtain ⟨fl, hfl⟩ : ∃ z, (findL hs7 (wrts ps)).length = z := ⟨_, rfl⟩
        have hf0 : fl ≠ 0 := fun h => HFD.out (List.eq_nil_of_length_eq_zero (hfl.trans h))
        have d2 : ((fl : Int) == 0) = false := by simpa using hf0
        have HFL := Lib.hid hfl
        clear hfl hf0
        go_upto_region 26 with (first
          | (at_builtin; refine Mem.wpList_clone _ rfl (.tmp 140) (.tmp 141) _ rfl entries_elem _ rfl w7 w7.heap.size X9 ps.length c9 ((wrts ps).flatMap entCells) rfl ?_ rfl (Below.refl _ _) (Nat.le_refl _) ((HRW.out.below HB7.out).more HB7.out.size) hol hoo (by unfold maxLen; omega) (by omega); intro A8 k8 w8 hown hb8 hs8 hf8; have HO8 := Lib.hid hown; have HB8 := Lib.hid hb8; clear hown hb8 hs8 hf8)
          | (go_at_call 12; (have HCC := Lib.hid (checkL_any (hc := c6) (wc := k8) ((HTU.out.1.below HB8.out).more HB8.out.size) HO8.out.rd (fun e he => ⟨(HTU.out.2 e he).1.below HB8.out HB8.out.size, (HTU.out.2 e he).2⟩) (by rw [HL7.out]; exact HC6.out.1) (by rw [HWL.out]; exact HO8.out.le) HC6.out.2 HO8.out.cap (by rw [HL7.out]; omega))); (rw [HFL.out, HL7.out, HWL.out] at HCC); (refine HCC.out.mono ?_); rintro x w9 ⟨X9', c9', rfl, ho9, hf9, hb9⟩; have HB9 := Lib.hid (HB7.out.trans ((HB8.out.trans (hb9.mono HB8.out.size)).mono HB7.out.size)); clear ho9 hf9 hb9 HCC))
        clear HTU HFD HL7 HB7 HC6 HO8 HB8 HFL d2 HF0
        have hx8 : ∃ b8 o8, X8 = some ⟨b8, o8, none⟩ := by
          have h1 := HW.out.H.rd
          rcases h1 with h | ⟨b8, o8, h, _⟩
          · exfalso
            have h2 := congrArg List.length h
            rw [evs_len, HL.out] at h2
            simp at h2
            omega
          · exact ⟨b8, o8, h⟩
        obtain ⟨b8, o8, rfl⟩ := hx8
        have hcap : 2 * ps.length ≤ c8 := HW.out.H.le
        have s5 := fun s => sliced_front (A := some ⟨b8, o8, none⟩) (c := c8) s (2 * im + 1)
        have hs6 : ∃ Y, sliced (some ⟨b8, o8, none⟩) (2 * im + 2) (2 * ps.length) c8 20 = .slice Y (2 * ps.length - (2 * im + 2)) (c8 - (2 * im + 2)) ∧ Mem.Rd wr wr.heap.size Y ((es.drop (2 * im + 2)).flatMap evCells) ∧ (c8 = 2 * im + 2 → Y = some ⟨b8, o8, none⟩) ∧ (c8 ≠ 2 * im + 2 → Y = some ⟨b8, o8 + (2 * im + 2) * 20, none⟩) := by
          have h1 := (HW.out.H.drop (k := 2 * im + 2) (by omega)).rd
          rw [flat_drop' evCells_length] at h1
          by_cases hc : c8 = 2 * im + 2
          · refine ⟨some ⟨b8, o8, none⟩, by unfold sliced; rw [if_pos hc], .inl ?_, fun _ => rfl, fun h => absurd hc h⟩
            rw [List.drop_eq_nil_of_le (by rw [HL.out]; omega)]
            rfl
          · exact ⟨some ⟨b8, o8 + (2 * im + 2) * 20, none⟩, by unfold sliced; rw [if_neg hc]; rfl, h1, fun h => absurd h hc, fun _ => rfl⟩
        obtain ⟨Y, s6, hry, hyc⟩ := hs6
        have HY := Lib.hid hyc
        clear hyc
        have HTF : Hid (∀ u, Below wr.heap.size wr u → Calls Try.prog 11 #[.slice (some ⟨b8, o8, none⟩) (2 * im + 1) c8] u fun x w' => ∃ X c hs, x = .returned (.slice X hs.length c) ∧ Tw u (es.take (2 * im + 1)) (es.take (2 * im + 1)).length X c hs w') := fun u hu => by
          have h0 : (es.take (2 * im + 1)).length = 2 * im + 1 := by rw [List.length_take, HL.out]; omega
          have h2 : Mem.Rd wr wr.heap.size (some ⟨b8, o8, none⟩) ((es.take (2 * im + 1)).flatMap evCells) := by
            have h3 := HW.out.H.rd.take ((2 * im + 1) * 20)
            rw [Mem.flat_take evCells_length] at h3
            exact h3
          have h1 := twin_any (some ⟨b8, o8, none⟩) c8 (es.take (2 * im + 1)) wr.heap.size wr u h2 (fun e he => HTK.out e (List.mem_of_mem_take he)) (by omega) hu hu.size
          rw [h0] at h1
          refine h1.mono ?_
          rintro x w' ⟨X, c, hs, hx, ht⟩
          exact ⟨X, c, hs, by rw [ht.len]; exact hx, ht⟩
        have HTB : Hid (∀ u, Below wr.heap.size wr u → Calls Try.prog 11 #[.slice Y (2 * ps.length - (2 * im + 2)) (c8 - (2 * im + 2))] u fun x w' => ∃ X c hs, x = .returned (.slice X hs.length c) ∧ Tw u (es.drop (2 * im + 2)) (es.drop (2 * im + 2)).length X c hs w') := fun u hu => by
          have h0 : (es.drop (2 * im + 2)).length = 2 * ps.length - (2 * im + 2) := by rw [List.length_drop, HL.out]
          have h1 := twin_any Y (c8 - (2 * im + 2)) (es.drop (2 * im + 2)) wr.heap.size wr u hry (fun e he => HTK.out e (List.mem_of_mem_drop he)) (by omega) hu hu.size
          rw [h0] at h1
          refine h1.mono ?_
          rintro x w' ⟨X, c, hs, hx, ht⟩
          exact ⟨X, c, hs, by rw [ht.len]; exact hx, ht⟩
        have HMS : Hid (im + 1 < ps.length → ∀ l : List Ev, l.map bare = (es.take (2 * im + 1) ++ es.drop (2 * im + 2)).map bare → findL l (wrts ps) ≠ []) := fun h l hl => miss_finds h (by
          have h1 : es.map bare = hist ps := by rw [HH.out, hist_bare]
          rw [hl, List.map_append, List.map_take, List.map_drop, h1])
        have HIN2 : Hid (∀ e ∈ es.take (2 * im + 1) ++ es.drop (2 * im + 2), okI e.cl ∧ e.res.length ≤ 703687441776) := fun e he => (List.mem_append.1 he).elim (fun h => HIN.out e (List.mem_of_mem_take h)) (fun h => HIN.out e (List.mem_of_mem_drop h))
        have HTL : Hid ((es.take (2 * im + 1) ++ es.drop (2 * im + 2)).length ≤ 40) := by
          show _ ≤ _
          rw [List.length_append, List.length_take, List.length_drop, HL.out]
          omega
        have hw3 : wrap64 (((2 * im : Nat) : Int) + 2) = ((2 * im + 2 : Nat) : Int) := by rw [IntWalk.wrap64_in _ (by omega)]; omega
        have hi4 : 2 * im + 2 ≤ 2 * ps.length := by omega
        have hi5 : 2 * im + 1 ≤ c8 := by omega
        have HWB := Lib.hid HW.out.bl
        clear HW hry HH HL HIN HTK HTW HWS HP HVS
        refine Reg.wp_region_z (by kernel_rfl) 172 14 rfl rfl (by kernel_rfl) 90 91 (by decide) (12) (fun y => w9.heap.size ≤ y) (0) (fun _ => False) (0) (fun _ => False)
          (fun i f v u => match i with
            | 0 => v = .slice (some ⟨b8, o8, none⟩) (2 * ps.length) c8
            | 1 => v = .int .i64 im
            | 2 => v = .int .i64 ((2 * im : Nat) : Int)
            | 3 => v = .int .i64 ((2 * im + 1 : Nat) : Int)
            | 4 => v = .slice (some ⟨b8, o8, none⟩) (2 * im + 1) c8
            | 5 => ∃ X c hs, v = .slice X hs.length c ∧ TwB w9.heap.size (es.take (2 * im + 1)) X c hs u
            | 6 => v = .slice (some ⟨b8, o8, none⟩) (2 * ps.length) c8
            | 7 => v = .int .i64 im
            | 8 => v = .int .i64 ((2 * im : Nat) : Int)
            | 9 => v = .int .i64 ((2 * im + 2 : Nat) : Int)
            | 10 => v = .slice Y (2 * ps.length - (2 * im + 2)) (c8 - (2 * im + 2))
            | 11 => ∃ X c hs, v = .slice X hs.length c ∧ TwB w9.heap.size (es.drop (2 * im + 2)) X c hs u
            | 12 => ∃ X c hs, v = .slice X hs.length c ∧ TwB w9.heap.size (es.take (2 * im + 1) ++ es.drop (2 * im + 2)) X c hs u
            | 13 => ∃ X c hs, v = .slice X hs.length c ∧ TwB w9.heap.size (es.take (2 * im + 1) ++ es.drop (2 * im + 2)) X c hs u
            | _ => True) ?_ ?_
        · refine Reg.StepsZ.cons ?_ (Reg.StepsZ.cons ?_ (Reg.StepsZ.cons ?_ (Reg.StepsZ.cons ?_ (Reg.StepsZ.cons ?_ (Reg.StepsZ.cons ?_ (Reg.StepsZ.cons ?_ (Reg.StepsZ.cons ?_ (Reg.StepsZ.cons ?_ (Reg.StepsZ.cons ?_ (Reg.StepsZ.cons ?_ (Reg.StepsZ.cons ?_ (Reg.StepsZ.cons ?_ (Reg.StepsZ.cons ?_ (Reg.StepsZ.nil _))))))))))))))
          · intro val ac u hR hp hpq ha K hK0
            have hK := fun v w' h1 h2 => hK0 v w' h1 h2 (fun j f v' h _ => by omega); have e8 : (ac.tmps[8]?).getD undef = .slice (some ⟨b8, o8, none⟩) (2 * ps.length) c8 := ha 8 (by decide); clear ha hp
            refine Reg.Op1.plain rfl ?_
            go_wp2
            exact ⟨rfl, hK _ _ rfl (Reg.Wr.same _)⟩
          · intro val ac u hR hp hpq ha K hK0
            have hK := fun v w' h1 h2 => hK0 v w' h1 h2 (fun j f v' h _ => by omega); have e14 : (ac.tmps[14]?).getD undef = .int .i64 im := ha 14 (by decide); clear ha hp
            refine Reg.Op1.plain rfl ?_
            go_wp2
            exact ⟨rfl, hK _ _ rfl (Reg.Wr.same _)⟩
          · intro val ac u hR hp hpq ha K hK0
            have hK := fun v w' h1 h2 => hK0 v w' h1 h2 (fun j f v' h _ => by omega); obtain ⟨w147, h147, r147⟩ := hp 1 (by decide); have e147 : (ac.tmps[147]?).getD undef = .int .i64 im := (ha 147 (by decide)).trans h147; clear h147 ha hp
            refine Reg.Op1.plain rfl ?_
            go_wp2
            exact ⟨rfl, hK _ _ rfl (Reg.Wr.same _)⟩
          · intro val ac u hR hp hpq ha K hK0
            have hK := fun v w' h1 h2 => hK0 v w' h1 h2 (fun j f v' h _ => by omega); obtain ⟨w148, h148, r148⟩ := hp 2 (by decide); have e148 : (ac.tmps[148]?).getD undef = .int .i64 ((2 * im : Nat) : Int) := (ha 148 (by decide)).trans h148; clear h148 ha hp
            refine Reg.Op1.plain rfl ?_
            go_wp2
            exact ⟨rfl, hK _ _ rfl (Reg.Wr.same _)⟩
          · intro val ac u hR hp hpq ha K hK0
            have hK := fun v w' h1 h2 => hK0 v w' h1 h2 (fun j f v' h _ => by omega); obtain ⟨w146, h146, r146⟩ := hp 0 (by decide); have e146 : (ac.tmps[146]?).getD undef = .slice (some ⟨b8, o8, none⟩) (2 * ps.length) c8 := (ha 146 (by decide)).trans h146; obtain ⟨w149, h149, r149⟩ := hp 3 (by decide); have e149 : (ac.tmps[149]?).getD undef = .int .i64 ((2 * im + 1 : Nat) : Int) := (ha 149 (by decide)).trans h149; clear h146 h149 ha hp
            refine Reg.Op1.plain rfl ?_
            go_wp2
            exact ⟨rfl, hK _ _ rfl (Reg.Wr.same _)⟩
          · intro val ac u hR hp hpq ha K hK0
            have hK := fun v w' h1 h2 => hK0 v w' h1 h2 (fun j f v' h _ => by omega); obtain ⟨w150, h150, r150⟩ := hp 4 (by decide); have e150 : (ac.tmps[150]?).getD undef = .slice (some ⟨b8, o8, none⟩) (2 * im + 1) c8 := (ha 150 (by decide)).trans h150; clear h150 ha hp
            refine Reg.Op1.plain rfl ?_
            have hk0 := (Mem.Keeps.refl (fun _ => False ∨ False) w9).drew.trans (Reg.Wr.not1 hR (by decide +kernel)) (fun _ h _ => h)
            have hbu := HB9.out.trans (hk0.below (B := wr.heap.size) (fun k h => h.elim (fun h => h.elim) (fun h => h.elim)) HB9.out.size)
            have hsz := Lib.hid hk0.size
            go_wp2_with fail
            refine (HTF.out u hbu).mono ?_
            rintro x w' ⟨X, c, hs, rfl, ht⟩
            have HT := Lib.hid ht
            clear ht
            go_wp2_with fail
            exact ⟨rfl, hK _ _ ⟨X, c, hs, rfl, TwB.of HT.out hsz.out⟩ (Reg.Wr.below HT.out.bl)⟩
          · intro val ac u hR hp hpq ha K hK0
            have hK := fun v w' h1 h2 => hK0 v w' h1 h2 (fun j f v' h _ => by omega); have e8 : (ac.tmps[8]?).getD undef = .slice (some ⟨b8, o8, none⟩) (2 * ps.length) c8 := ha 8 (by decide); clear ha hp
            refine Reg.Op1.plain rfl ?_
            go_wp2
            exact ⟨rfl, hK _ _ rfl (Reg.Wr.same _)⟩
          · intro val ac u hR hp hpq ha K hK0
            have hK := fun v w' h1 h2 => hK0 v w' h1 h2 (fun j f v' h _ => by omega); have e14 : (ac.tmps[14]?).getD undef = .int .i64 im := ha 14 (by decide); clear ha hp
            refine Reg.Op1.plain rfl ?_
            go_wp2
            exact ⟨rfl, hK _ _ rfl (Reg.Wr.same _)⟩
          · intro val ac u hR hp hpq ha K hK0
            have hK := fun v w' h1 h2 => hK0 v w' h1 h2 (fun j f v' h _ => by omega); obtain ⟨w153, h153, r153⟩ := hp 7 (by decide); have e153 : (ac.tmps[153]?).getD undef = .int .i64 im := (ha 153 (by decide)).trans h153; clear h153 ha hp
            refine Reg.Op1.plain rfl ?_
            go_wp2
            exact ⟨rfl, hK _ _ rfl (Reg.Wr.same _)⟩
          · intro val ac u hR hp hpq ha K hK0
            have hK := fun v w' h1 h2 => hK0 v w' h1 h2 (fun j f v' h _ => by omega); obtain ⟨w154, h154, r154⟩ := hp 8 (by decide); have e154 : (ac.tmps[154]?).getD undef = .int .i64 ((2 * im : Nat) : Int) := (ha 154 (by decide)).trans h154; clear h154 ha hp
            refine Reg.Op1.plain rfl ?_
            go_wp2
            exact ⟨rfl, hK _ _ rfl (Reg.Wr.same _)⟩
          · intro val ac u hR hp hpq ha K hK0
            have hK := fun v w' h1 h2 => hK0 v w' h1 h2 (fun j f v' h _ => by omega); obtain ⟨w152, h152, r152⟩ := hp 6 (by decide); have e152 : (ac.tmps[152]?).getD undef = .slice (some ⟨b8, o8, none⟩) (2 * ps.length) c8 := (ha 152 (by decide)).trans h152; obtain ⟨w155, h155, r155⟩ := hp 9 (by decide); have e155 : (ac.tmps[155]?).getD undef = .int .i64 ((2 * im + 2 : Nat) : Int) := (ha 155 (by decide)).trans h155; clear h152 h155 ha hp
            refine Reg.Op1.plain rfl ?_
            go_wp2
            all_goals exact ⟨rfl, hK _ _ (by first | rfl | (rw [HY.out.1 (by omega), show c8 - (2 * im + 2) = 0 by omega]) | (rw [HY.out.2 (by omega)])) (Reg.Wr.same _)⟩
          · intro val ac u hR hp hpq ha K hK0
            have hK := fun v w' h1 h2 => hK0 v w' h1 h2 (fun j f v' h _ => by omega); obtain ⟨w156, h156, r156⟩ := hp 10 (by decide); have e156 : (ac.tmps[156]?).getD undef = .slice Y (2 * ps.length - (2 * im + 2)) (c8 - (2 * im + 2)) := (ha 156 (by decide)).trans h156; clear h156 ha hp
            refine Reg.Op1.plain rfl ?_
            have hk0 := (Mem.Keeps.refl (fun _ => False ∨ False) w9).drew.trans (Reg.Wr.not1 hR (by decide +kernel)) (fun _ h _ => h)
            have hbu := HB9.out.trans (hk0.below (B := wr.heap.size) (fun k h => h.elim (fun h => h.elim) (fun h => h.elim)) HB9.out.size)
            have hsz := Lib.hid hk0.size
            go_wp2_with fail
            refine (HTB.out u hbu).mono ?_
            rintro x w' ⟨X, c, hs, rfl, ht⟩
            have HT := Lib.hid ht
            clear ht
            go_wp2_with fail
            exact ⟨rfl, hK _ _ ⟨X, c, hs, rfl, TwB.of HT.out hsz.out⟩ (Reg.Wr.below HT.out.bl)⟩
          · intro val ac u hR hp hpq ha K hK0
            have hK := fun v w' h1 h2 => hK0 v w' h1 h2 (fun j f v' h _ => by omega); obtain ⟨w151, h151, r151⟩ := hp 5 (by decide); have e151 : (ac.tmps[151]?).getD undef = val 5 := ha 151 (by decide); obtain ⟨w157, h157, r157⟩ := hp 11 (by decide); have e157 : (ac.tmps[157]?).getD undef = val 11 := ha 157 (by decide); clear ha hp
            refine Reg.Op1.plain rfl ?_
            obtain ⟨X1, k1, hs1, hv1, ht1⟩ := h151
            obtain ⟨X2, k2, hs2, hv2, ht2⟩ := h157
            rw [hv1] at e151
            rw [hv2] at e157
            have t1 := ht1.keeps (Reg.Wr.not1 r151 (by decide +kernel)) (fun _ h => h.elim id id)
            have t2 := ht2.keeps (Reg.Wr.not1 r157 (by decide +kernel)) (fun _ h => h.elim id id)
            have hsz : w9.heap.size ≤ u.heap.size := (Reg.Wr.all hR).size
            have hll : hs1.length + hs2.length ≤ 40 := by
              have h1 := HTL.out
              rw [List.length_append] at h1
              rw [t1.len, t2.len]
              exact h1
            refine Mem.wpList_app u rfl (.tmp 151) (.tmp 157) _ rfl events_elem X1 hs1.length k1 _ (Reg.eval_of e151) u.heap.size X2 hs2.length k2 (hs2.flatMap evCells) (Reg.eval_of e157) ?_ t1.o t2.o.rd (evs_len hs2) (fun y hy => by
              obtain ⟨e, _, he⟩ := List.mem_flatMap.1 hy
              exact ev_one e y he) (by unfold maxLen; omega) (by omega)
            intro X' k' u' hown hg hat
            have hkk : Mem.Keeps (fun q => Mem.blk X1 = some q) u u' := (Mem.Keeps.refl _ u).grown hg (fun k hk _ => hk)
            have hf : Mem.From w9.heap.size X' := by
              rcases hat with rfl | rfl
              · exact t1.f
              · exact Mem.From.some_ hsz
            exact ⟨rfl, hK _ _ ⟨X', k', hs1 ++ hs2, by rw [List.length_append], t1.app t2 hkk hown hf⟩ (Reg.Wr.does1 (hkk.mono (fun q h _ => t1.f.blk q h)))⟩
          · intro val ac u hR hp hpq ha K hK0
            have hK := fun v w' h1 h2 => hK0 v w' h1 h2 (fun j f v' h _ => by omega); obtain ⟨w158, h158, r158⟩ := hp 12 (by decide); have e158 : (ac.tmps[158]?).getD undef = val 12 := ha 158 (by decide); clear ha hp
            refine Reg.Op1.plain rfl ?_
            obtain ⟨X, c, hs, hv, ht⟩ := h158
            rw [hv] at e158
            have HT := Lib.hid (ht.keeps (Reg.Wr.not1 r158 (by decide +kernel)) (fun _ h => h.elim id id))
            clear hv ht
            go_wp2
            exact ⟨rfl, hK _ _ ⟨X, c, hs, rfl, HT.out⟩ (Reg.Wr.same _)⟩
        intro val u hR H hZ
        obtain ⟨wA, ⟨X16, k16, hs16, hv16, ht⟩, rA⟩ := H 13 (by decide)
        have hv16 : val 13 = .slice X16 hs16.length k16 := hv16
        have HT := Lib.hid (ht.keeps (Reg.Wr.not1 rA (by decide +kernel)) (fun _ h => h.elim id id))
        have hq : Mem.Keeps (fun y => w9.heap.size ≤ y ∨ False ∨ False) w9 u := (Mem.Keeps.refl (fun y => w9.heap.size ≤ y ∨ False ∨ False) w9).drew.trans (Reg.Wr.all hR) (fun _ h _ => h)
        have HBA : Hid (Below wr.heap.size wr u) := HB9.out.trans (hq.below (fun y h => by rcases h with h | h | h <;> first | exact Nat.le_trans HB9.out.size h | exact h.elim) HB9.out.size)
        simp only [List.map_cons, List.map_nil, Reg.lay, Act.put, List.setIfInBounds_toArray, List.set_cons_succ, List.set_cons_zero, Nat.reduceAdd, hv16]
        clear hR H hZ hq rA hv16 ht HTF HTB s5 s6 HB9
        obtain ⟨w10, hw10⟩ : ∃ z, z = u := ⟨_, rfl⟩
        subst hw10
        clear HY hi3 hi4 hi5 hw1 hw2 hw3 hcap
        by_cases hla : im + 1 = ps.length
        · have d3 : ((im : Int) + 1 == (ps.length : Int)) = true := by simp; omega
          go_wp2
          go_ret
          exact ⟨rfl, HWB.out.trans (HBA.out.mono HWB.out.size)⟩
        · have d3 : ((im : Int) + 1 == (ps.length : Int)) = false := by simp; omega
          have hfn := HMS.out (by omega) hs16 HT.out.b
          obtain ⟨fl2, hfl2⟩ : ∃ z, (findL hs16 (wrts ps)).length = z := ⟨_, rfl⟩
          have hf0 : 0 < fl2 := Nat.pos_of_ne_zero fun h => hfn (List.eq_nil_of_length_eq_zero (hfl2.trans h))
          have HFL := Lib.hid hfl2
          have d4 : decide ((0 : Int) < (fl2 : Int)) = true := by simp; omega
          have d5 : decide (0 < fl2) = true := decide_eq_true hf0
          have HOK := Lib.hid (HT.out.ok HIN2.out)
          have HN16 : Hid (hs16.length ≤ 40) := by show _ ≤ _; rw [HT.out.len]; exact HTL.out
          clear hfn hfl2 hla HMS HIN2 HTL
          go_wp2_with (first
            | (at_builtin; refine Mem.wpList_clone _ ?hwq (.tmp 165) (.tmp 166) _ rfl entries_elem _ ?hsq w10 w10.heap.size X9 ps.length c9 ((wrts ps).flatMap entCells) ?hxq ?_ rfl (Below.refl _ _) (Nat.le_refl _) ((HRW.out.below HBA.out).more HBA.out.size) hol hoo (by unfold maxLen; omega) (by omega); (case hwq => rfl); (case hsq => exact rfl); (case hxq => exact rfl); intro A8 k8 w11 hown hb8 hs8 hf8; have HO8 := Lib.hid hown; have HB8 := Lib.hid hb8; clear hown hb8 hs8 hf8)
            | (go_at_call 12; (have HCC := Lib.hid (checkL_any (hc := k16) (wc := k8) ((HT.out.o.rd.below HB8.out).more HB8.out.size) HO8.out.rd (fun e he => ⟨(HOK.out e he).1.below HB8.out HB8.out.size, (HOK.out e he).2⟩) HT.out.o.le (by rw [HWL.out]; exact HO8.out.le) HT.out.o.cap HO8.out.cap (by have := HN16.out; omega))); (rw [HFL.out, HWL.out] at HCC); (refine HCC.out.mono ?_); rintro x w12 ⟨X12, c12, rfl, ho9, hf9, hb9⟩; have HB12 := Lib.hid (HBA.out.trans ((HB8.out.trans (hb9.mono HB8.out.size)).mono HBA.out.size)); clear ho9 hf9 hb9 HCC))
          go_ret
          exact ⟨rfl, HWB.out.trans (HB12.out.mono HWB.out.size)⟩
set_option maxRecDepth 20000 in
theorem open_strs {H : Type} {enc : TypeId × Value → H} {W : World} {base : Nat} {v : Value} {d : DataW H} {p : List MemPlace} (o : Value.okWide Try.prog W .any base 40 v) (k : DataW.Trod enc Try.prog W 0 (fun _ => true) true 40 v d p) (hz : (d.weights Try.prog 40).all (· ≤ reachBytes) = true) :
    ∃ A c, ∃ l : List ByteArray, v = .slice A l.length c ∧ l.length ≤ 8796093022208 ∧ Mem.Rd W W.heap.size A (l.map sv) ∧ ∀ s ∈ l, s.size ≤ 140737488351232 := by
  obtain ⟨a0, len0, cap0, rfl⟩ := okWide_slice Try.underlying40 o
  obtain ⟨fuel, hk⟩ := k
  obtain ⟨A, c, l, h1, h2, h3, h4, h5, _⟩ := Mem.trod_strings_sz Try.underlying40 Try.underlying9 (by kernel_rfl) hk hz
  have kb : Try.prog.bytesOf 9 = 16 := by kernel_rfl
  rw [kb] at h3
  unfold reachBytes at h3 h5
  exact ⟨A, c, l, by simpa [Value.cells] using h1, by omega, h4, fun s hs => by have := h5 s hs; omega⟩
set_option maxRecDepth 20000 in
theorem opened {H : Type} (enc : TypeId × Value → H) (W : World) (base : Nat) (v0 v1 v2 : Value) {d0 d1 d2 : DataW H} {p0 p1 p2 : List MemPlace}
    (o0 : Value.okWide Try.prog W .any base 40 v0) (o1 : Value.okWide Try.prog W .any base 40 v1) (o2 : Value.okWide Try.prog W .any base 3 v2)
    (k0 : DataW.Trod enc Try.prog W 0 (fun _ => true) true 40 v0 d0 p0) (k1 : DataW.Trod enc Try.prog W 0 (fun _ => true) true 40 v1 d1 p1) (k2 : DataW.Trod enc Try.prog W 0 (fun _ => true) true 3 v2 d2 p2)
    (z0 : (d0.weights Try.prog 40).all (· ≤ reachBytes) = true) (z1 : (d1.weights Try.prog 40).all (· ≤ reachBytes) = true) (z2 : (d2.weights Try.prog 3).all (· ≤ reachBytes) = true) :
    Calls Try.prog 7 #[v0, v1, v2] W fun e w' => e = .returned (.bool true) ∧ Below W.heap.size W w' := by
  obtain ⟨A, c, ks, rfl, h1, h2, h3⟩ := open_strs o0 k0 z0
  obtain ⟨A2, c2, vs, rfl, g1, g2, g3⟩ := open_strs o1 k1 z1
  obtain ⟨n, rfl⟩ := okWide_int Try.underlying3 o2
  exact walk A c ks A2 c2 vs n W h2 g2 h1 g1 h3 g3
end auditWritesOpen
end Go.Proofs.Ytelephoalpphkaa
end
section
/- 'causewaylaw24.AuditWrites' returns true for every input and leaves what it was handed as it was: the given statement, by the walk of the text that is imported. No conditions. -/
namespace Go.Proofs.Ytelephoalpphkaa.auditWrites
open Go.ChangeShapes Go.WideShapes Go.ChangeAt Go.RowKit
set_option linter.unusedVariables false
set_option linter.unusedSimpArgs false
theorem own : ownKnob Try.prog.godebug = none := by kernel_rfl
theorem laidOut : laidOutB Try.prog = true := by kernel_rfl
set_option maxRecDepth 100000 in
theorem lifted (os : Os) (started : os.Started) (H : Type) (enc : TypeId × Value → H) :
    ReturnsInHanded {} Try.checked os 7 .any (Rows.auditWritesSpec.pre6 enc Try.prog Try.f7 Rows.auditWritesRow.domain false) (Rows.auditWritesSpec.post enc Try.prog Try.f7 false true false false) := by
  refine returnsInHanded_of_change_sized (C := Try.checked) own started (by kernel_rfl) Try.func7
    (ChangeSpec.witness6 (enc := enc) (C := Try.checked) false ⟨#[], #[.slice none 0 0, .slice none 0 0, .int .i64 0], []⟩ 8 (by kernel_rfl) (by kernel_rfl) (by kernel_rfl) (by kernel_rfl)) ?_
  intro W base args ds gs before hval0 hW hcnd hsz _
  have hval : ∀ (j : Nat) t v, Try.f7.params[j]? = some t → args[j]? = some v → Value.okWide Try.prog W .any base t v := hval0
  have hW' := hW
  obtain ⟨p, q, hA0, hV, rfl, hfz, hnd⟩ := hW
  have hA : DataW.TrodAll enc Try.prog W 0 (fun _ => true) true Try.f7.params.toList args.toList ds p := hA0
  rw [Try.params7] at hA hval
  obtain ⟨v0, vs0, d0, ds0, p0, q0, hargs, rfl, rfl, h0, r0⟩ := trodAll_cons hA
  obtain ⟨v1, vs1, d1, ds1, p1, q1, rfl, rfl, rfl, h1, r1⟩ := trodAll_cons r0
  obtain ⟨v2, vs2, d2, ds2, p2, q2, rfl, rfl, rfl, h2, r2⟩ := trodAll_cons r1
  obtain ⟨rfl, rfl, rfl⟩ := trodAll_nil r2
  obtain rfl : args = #[v0, v1, v2] := by cases args; simp_all
  obtain ⟨rfl, rfl⟩ := trodVars_none hV
  have lt0 : ∀ x ∈ p0, x.block < W.heap.size := by obtain ⟨m, hm⟩ := h0; exact DataW.trod_lt m _ _ _ hm
  have lt1 : ∀ x ∈ p1, x.block < W.heap.size := by obtain ⟨m, hm⟩ := h1; exact DataW.trod_lt m _ _ _ hm
  have lt2 : ∀ x ∈ p2, x.block < W.heap.size := by obtain ⟨m, hm⟩ := h2; exact DataW.trod_lt m _ _ _ hm
  have z0 : (d0.weights Try.prog 40).all (· ≤ reachBytes) = true := by rw [List.all_eq_true]; intro n hn; exact List.all_eq_true.1 hsz n (DataW.weights_mem_each (j := 0) (by kernel_rfl) rfl n hn)
  have z1 : (d1.weights Try.prog 40).all (· ≤ reachBytes) = true := by rw [List.all_eq_true]; intro n hn; exact List.all_eq_true.1 hsz n (DataW.weights_mem_each (j := 1) (by kernel_rfl) rfl n hn)
  have z2 : (d2.weights Try.prog 3).all (· ≤ reachBytes) = true := by rw [List.all_eq_true]; intro n hn; exact List.all_eq_true.1 hsz n (DataW.weights_mem_each (j := 2) (by kernel_rfl) rfl n hn)
  clear hA0
  refine (auditWritesOpen.opened enc W base v0 v1 v2 (hval 0 40 v0 rfl rfl) (hval 1 40 v1 rfl rfl) (hval 2 3 v2 rfl rfl) h0 h1 h2 z0 z1 z2).mono fun e W' ⟨he, bel⟩ => ?_
  subst he
  exact ⟨_, rfl, _, _, _, [], _, [], hW', trodAll_mk1 (shut_bool Try.underlying4 _), (trodAll_cons_mk (Below.trod laidOut (by kernel_rfl) (of_decide_eq_true (by kernel_rfl)) h0 bel lt0) (trodAll_cons_mk (Below.trod laidOut (by kernel_rfl) (of_decide_eq_true (by kernel_rfl)) h1 bel lt1) (trodAll_cons_mk (Below.trod laidOut (by kernel_rfl) (of_decide_eq_true (by kernel_rfl)) h2 bel lt2) trodAll_mk0))), rfl, bel.frame _, fun h => by cases h⟩
theorem over : Rows.auditWritesRow.holds Try.pinned (OpenSpec.ofChange Rows.auditWritesSpec) :=
  OpenClaim.holds_of_wide 7 Try.f7 rfl rfl rfl rfl rfl rfl rfl ⟨rfl, rfl, rfl, rfl, rfl⟩ rfl rfl rfl rfl rfl (by kernel_rfl) Try.func7 (by kernel_rfl)
    (of_decide_eq_true (by kernel_rfl)) (by unfold Func.isWrapper; first | (rw [if_pos (by decide +kernel)]; kernel_rfl) | (rw [if_neg (by decide +kernel)]; exact ⟨rfl, rfl⟩))
    (fun os started H enc _ => lifted os started H enc)
/-- THE STATEMENT -/
theorem proved : Rows.AuditWritesSaid := over
#print axioms proved
end Go.Proofs.Ytelephoalpphkaa.auditWrites
end
