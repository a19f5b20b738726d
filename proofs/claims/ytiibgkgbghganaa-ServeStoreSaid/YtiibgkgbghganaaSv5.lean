/- Is it much; the greatest write, in plain lists; the walk of ServeGreatest. No conditions. -/
import Derived.Test.YtiibgkgbghganaaSv4
namespace Go.Proofs.Ytiibgkgbghganaa
open Go.ChangeShapes Go.WideShapes Go.ChangeAt Go.RowKit
set_option linter.unusedVariables false
set_option linter.unusedSimpArgs false

namespace Vec
structure MuchRel (w : World) (es : List Ent) (vn vi : Value) (wr : World) : Prop where
  out : ∃ k N : Nat, k ≤ es.length ∧ es.length ≤ N ∧ N ≤ 20000000000000 ∧ vn = .int .i64 (N : Int) ∧ vi = .int .i64 k ∧ Hid (Below w.heap.size w wr)
def MuchEnd (w : World) (es : List Ent) (x : Ending) (w' : World) : Prop := ∃ b, x = .returned (.bool b) ∧ (b = false → es.length ≤ 300) ∧ Below w.heap.size w w'
end Vec
open Vec in
set_option maxHeartbeats 4000000 in
theorem much_any (A : Option Addr) (c : Nat) (es : List Vec.Ent) (w0 w : World) (hr : Mem.Rd w0 w0.heap.size A (es.flatMap Vec.entCells)) (hn : es.length ≤ 8796093022208) (hd : ∀ e ∈ es, Vec.EntIn e) (hb : Below w0.heap.size w0 w) :
    Calls Try.prog 9 #[.slice A es.length c] w (Vec.MuchEnd w es) := by
  have HR := Lib.hid hr
  have HD := Lib.hid hd
  have HB0 := Lib.hid hb
  clear hr hd hb
  go_enter Try.func9, Try.ntmps9
  go_wp2
  go_loopw [3, 4] (MuchRel w es) (fun _ t _ => es.length - (intOf t).toNat)
  case atStart => exact ⟨⟨0, es.length, by omega, by omega, by omega, rfl, rfl, Below.refl _ _⟩⟩
  case round =>
    obtain ⟨k, N, hk, hlN, hN, rfl, rfl, HB⟩ := hrel.out
    have HBW := Lib.hid (HB0.out.trans (HB.out.mono HB0.out.size))
    by_cases hlt : k < es.length
    · by_cases hm : N ≤ 300
      · obtain ⟨b, o, e, rfl, hb, he, hat⟩ := ent_elem HR.out hlt
        have hei := HD.out e (List.mem_of_getElem? he)
        have q6 := (hat.below HBW.out hb).c 6 _ rfl
        have q7 := (hat.below HBW.out hb).c 7 _ rfl
        have hks := hei.ks
        have hvs := hei.vs
        have hmd : decide ((N : Int) ≤ 300) = true := by simp; omega
        obtain ⟨m, hm2⟩ : ∃ m, (e.key.size + e.val.size) / 60 = m := ⟨_, rfl⟩
        have hmb : m ≤ 5000000000000 := by omega
        have HM2 := Lib.hid hm2
        clear hat he hei hm2
        go_wp2
        go_quiet (fail)
        go_wp2
        go_roundw
        case rel => exact ⟨⟨k + 1, N + m, by omega, by omega, by omega, by have := HM2.out; congr 1; omega, by go_num, Mem.below_drewN HB.out _⟩⟩
        case measure => simp [intOf]; omega
      · have hmd : decide ((N : Int) ≤ 300) = false := by simp; omega
        have hmg : decide ((300 : Int) < (N : Int)) = true := by simp; omega
        go_wp2
        go_ret
        exact ⟨true, rfl, (fun h => by cases h), HB.out⟩
    · obtain rfl : k = es.length := by omega
      by_cases hm : N ≤ 300
      · have hmg : decide ((300 : Int) < (N : Int)) = false := by simp; omega
        go_wp2
        go_ret
        exact ⟨false, rfl, fun _ => by omega, HB.out⟩
      · have hmg : decide ((300 : Int) < (N : Int)) = true := by simp; omega
        go_wp2
        go_ret
        exact ⟨true, rfl, (fun h => by cases h), HB.out⟩
namespace Vec
theorem gtE_le {e m : Ent} (h : ¬ 0 < gtE e m) : e.st.c ≤ m.st.c := by
  rcases Int.lt_or_le m.st.c e.st.c with h1 | h1
  · exfalso; apply h
    have h2 : Stamp.cmpI e.st.c m.st.c = 1 := by unfold Stamp.cmpI; rw [if_neg (by omega), if_pos h1]
    simp [gtE, Stamp.cmpS, Stamp.firstNZ, h2]
  · exact h1
theorem gtE_ge {e m : Ent} (h : 0 < gtE e m) : m.st.c ≤ e.st.c := by
  rcases Int.lt_or_le e.st.c m.st.c with h1 | h1
  · exfalso
    have h2 : Stamp.cmpI e.st.c m.st.c = -1 := by unfold Stamp.cmpI; rw [if_pos h1]
    simp [gtE, Stamp.cmpS, Stamp.firstNZ, h2] at h
  · exact h1
structure GInv (key : ByteArray) (seen : List Ent) (p : Ent × Bool) : Prop where
  yes : p.2 = true → p.1 ∈ seen ∧ p.1.key = key ∧ ∀ e ∈ seen, e.key = key → e.st.c ≤ p.1.st.c
  no : p.2 = false → p.1 = ent0 ∧ ∀ e ∈ seen, e.key ≠ key
theorem GInv.step {key : ByteArray} {seen : List Ent} {p : Ent × Bool} (h : GInv key seen p) (e : Ent) : GInv key (seen ++ [e]) (gStep key p e) := by
  have mem : ∀ {x : Ent}, x ∈ seen ++ [e] → x ∈ seen ∨ x = e := fun hx => (List.mem_append.1 hx).elim .inl (fun h => .inr (List.mem_singleton.1 h))
  unfold gStep
  by_cases hk : e.key = key
  · rw [if_pos hk]
    by_cases hc : p.2 = false ∨ 0 < gtE e p.1
    · rw [if_pos hc]
      refine ⟨fun _ => ⟨by simp, hk, fun x hx hxk => ?_⟩, fun h => by cases h⟩
      rcases mem hx with hx | rfl
      · rcases hc with hc | hc
        · exact absurd hxk ((h.no hc).2 x hx)
        · cases hp : p.2
          · exact absurd hxk ((h.no hp).2 x hx)
          · exact Int.le_trans ((h.yes hp).2.2 x hx hxk) (gtE_ge hc)
      · exact Int.le_refl _
    · rw [if_neg hc]
      have hp : p.2 = true := by cases hp : p.2; exact absurd (.inl hp) hc; rfl
      refine ⟨fun _ => ⟨List.mem_append_left _ (h.yes hp).1, (h.yes hp).2.1, fun x hx hxk => ?_⟩, fun h => by rw [hp] at h; cases h⟩
      rcases mem hx with hx | rfl
      · exact (h.yes hp).2.2 x hx hxk
      · exact gtE_le (fun hg => hc (.inr hg))
  · rw [if_neg hk]
    refine ⟨fun hp => ⟨List.mem_append_left _ (h.yes hp).1, (h.yes hp).2.1, fun x hx hxk => ?_⟩, fun hp => ⟨(h.no hp).1, fun x hx => ?_⟩⟩
    · rcases mem hx with hx | rfl
      · exact (h.yes hp).2.2 x hx hxk
      · exact absurd hxk hk
    · rcases mem hx with hx | rfl
      · exact (h.no hp).2 x hx
      · exact hk
theorem ginv_fold (key : ByteArray) : ∀ (l seen : List Ent) (p : Ent × Bool), GInv key seen p → GInv key (seen ++ l) (l.foldl (gStep key) p)
  | [], seen, p, h => by rw [List.append_nil]; exact h
  | e :: l, seen, p, h => by
    have := ginv_fold key l (seen ++ [e]) _ (h.step e)
    rw [List.append_assoc] at this
    exact this
theorem ginv (key : ByteArray) (es : List Ent) : GInv key es (greatest key es) := ginv_fold key es [] (ent0, false) ⟨fun h => (by cases h), fun _ => ⟨rfl, fun x hx => (by cases hx)⟩⟩
def anyKey (key : ByteArray) (es : List Ent) : Bool := es.any fun e => e.key.toList == key.toList
def anyEnt (m : Ent) (es : List Ent) : Bool := es.any fun e => eqEnt e m
theorem anyKey_snoc (key : ByteArray) (es : List Ent) (e : Ent) : anyKey key (es ++ [e]) = (anyKey key es || e.key.toList == key.toList) := by unfold anyKey; rw [List.any_append]; simp
theorem anyEnt_snoc (m : Ent) (es : List Ent) (e : Ent) : anyEnt m (es ++ [e]) = (anyEnt m es || eqEnt e m) := by unfold anyEnt; rw [List.any_append]; simp
theorem anyKey_no {key : ByteArray} {es : List Ent} (h : anyKey key es = false) : ∀ e ∈ es, e.key ≠ key := fun e he hk => by
  unfold anyKey at h
  rw [List.any_eq_false] at h
  exact h e he (str_eq hk)
theorem anyKey_yes {key : ByteArray} {es : List Ent} (h : anyKey key es = true) : ∃ e ∈ es, e.key = key := by
  unfold anyKey at h
  rw [List.any_eq_true] at h
  obtain ⟨e, he, hk⟩ := h
  exact ⟨e, he, toList_inj (by simpa using hk)⟩
theorem anyEnt_mem {m : Ent} {es : List Ent} (h : m ∈ es) : anyEnt m es = true := by
  unfold anyEnt
  rw [List.any_eq_true]
  exact ⟨m, h, eqEnt_iff.2 rfl⟩
structure FRel (w w5 : World) (key : ByteArray) (es : List Ent) (m : Ent) (g : Nat) (vf vi : Value) (wr : World) : Prop where
  out : ∃ k : Nat, k ≤ es.length ∧ vf = .bool (anyKey key (es.take k)) ∧ vi = .int .i64 k ∧ Hid (EBx wr g m) ∧ Hid (Below w.heap.size w wr)
structure TRel (w w5 : World) (es : List Ent) (m : Ent) (g : Nat) (vf vi : Value) (wr : World) : Prop where
  out : ∃ k : Nat, k ≤ es.length ∧ vf = .bool (anyEnt m (es.take k)) ∧ vi = .int .i64 k ∧ Hid (EBx wr g m) ∧ Hid (Below w.heap.size w wr)
end Vec
namespace serveGreatestOpen
open Vec
set_option maxRecDepth 20000 in
set_option maxHeartbeats 8000000 in
theorem walk (A : Option Addr) (c : Nat) (es : List Ent) (key : ByteArray) (w : World) (hr : Mem.Rd w w.heap.size A (es.flatMap entCells)) (hn : es.length ≤ 8796093022208) (hd : ∀ e ∈ es, EntIn e) (hks : key.size ≤ 140737488351232) :
    Calls Try.prog 3 #[.slice A es.length c, .string key] w fun e w' => e = .returned (.bool true) ∧ Below w.heap.size w w' := by
  have HR := Lib.hid hr
  have HD := Lib.hid hd
  clear hr hd
  go_enter Try.func3, Try.ntmps3
  go_wp2_with fail
  refine (serveAble_any w).mono ?_
  rintro x w1 ⟨rfl, hb1⟩
  have HB1 := Lib.hid hb1
  clear hb1
  go_wp2_with fail
  refine (much_any A c es w w1 HR.out (by omega) HD.out HB1.out).mono ?_
  rintro x w2 ⟨b, rfl, hbn, hb2⟩
  have HB2 := Lib.hid (HB1.out.trans (hb2.mono HB1.out.size))
  clear hb2
  by_cases hyes : b = true ∨ 1000 < key.size
  · have hok : Hid (Below w.heap.size w w2) := HB2
    rcases hyes with rfl | hk1
    · go_wp2
      go_ret
      exact ⟨rfl, HB2.out⟩
    · have hkd : decide ((1000 : Int) < (key.size : Int)) = true := by simp; omega
      cases b
      · go_wp2
        go_ret
        exact ⟨rfl, HB2.out⟩
      · go_wp2
        go_ret
        exact ⟨rfl, HB2.out⟩
  · obtain rfl : b = false := by cases b; rfl; exact absurd (.inl rfl) hyes
    have hkd : decide ((1000 : Int) < (key.size : Int)) = false := by simp; omega
    have hn3 : es.length ≤ 300 := hbn rfl
    have HK2 : Hid (key.size ≤ 1000) := by show _ ≤ _; omega
    clear hyes hbn hn hks
    obtain ⟨⟨m, f⟩, hmf⟩ : ∃ mf, greatest key es = mf := ⟨_, rfl⟩
    have HG := Lib.hid (hmf ▸ ginv key es : GInv key es (m, f))
    have HMF := Lib.hid hmf
    have hol := ents_len es
    have hoo := ents_one es
    clear hmf
    go_upto_region 6 with (first | (at_builtin; refine Mem.wpList_clone _ rfl (.tmp 22) (.tmp 23) _ rfl entries_elem _ rfl w w.heap.size A es.length c (es.flatMap entCells) rfl ?_ rfl HB2.out HB2.out.size HR.out hol hoo (by unfold maxLen; omega) (by omega); intro A1 c1 w3 hown hb3 hs3 hf3; have HO3 := Lib.hid hown; have HB3 := Lib.hid hb3; clear hown hb3 hs3 hf3) | (go_at_call 10; refine (greatest_any key A1 c1 es w3.heap.size w3 HO3.out.rd (Nat.le_refl _) (by unfold maxLen; omega)).mono ?_; rintro x w4 ⟨rfl, hb4⟩; rw [HMF.out]; have HB4 := Lib.hid (HB3.out.trans (hb4.mono HB3.out.size)); clear hb4) | ((with_reducible refine Mem.store_agg _ _ entry_agg w4.heap.size (entCells ent0) (entCells m) ?hxa ?hya ?hba (entCells_length _) (ent_one m) ?_); ((case hxa => exact rfl); (case hya => exact rfl); (case hba => exact Mem.Bx.new w4 _ (entCells ent0).toArray rfl rfl); intro w5 hb2 hk2 hs2)))
    have HE5 : Hid (EBx w5 w4.heap.size m) := hb2
    have HB5 : Hid (Below w.heap.size w w5) := HB4.out.trans ((hk2.newBox rfl).belowAll.mono HB4.out.size)
    obtain ⟨g, hg⟩ : ∃ g, w4.heap.size = g := ⟨_, rfl⟩
    rw [hg] at HE5 ⊢
    clear hb2 hk2 hs2 hg HO3 HB4 HB3 HB2 HB1 hol hoo
    go_wp2
    go_loopw [7, 8] (FRel w w5 key es m g) (fun _ t _ => es.length - (intOf t).toNat)
    case atStart => exact ⟨⟨0, by omega, rfl, rfl, HE5, HB5⟩⟩
    case round =>
      obtain ⟨k, hk, rfl, rfl, HE, HB⟩ := hrel.out
      by_cases hlt : k < es.length
      · obtain ⟨b, o, e, rfl, hb, he, hat⟩ := ent_elem HR.out hlt
        have HTK := Lib.hid (show anyKey key (es.take (k + 1)) = (anyKey key (es.take k) || e.key.toList == key.toList) by rw [Mem.take_snoc he, anyKey_snoc])
        have hme := List.mem_of_getElem? he
        have q6 := (hat.below HB.out hb).c 6 _ rfl
        have q3 := (hat.below HB.out hb).c 3 _ rfl
        have x3 := HE.out.cell (j := 3) rfl
        clear hat he
        by_cases hkey : e.key = key
        · have hkd := str_eq hkey
          have hf : f = true := by
            cases f
            · exact absurd hkey ((HG.out.no rfl).2 e hme)
            · rfl
          have hcnt := (HG.out.yes hf).2.2 e hme hkey
          have hcd : decide (m.st.c < e.st.c) = false := by simp; omega
          have HAK : Hid (anyKey key (es.take (k + 1)) = true) := by show _ = _; rw [HTK.out, hkd, Bool.or_true]
          subst hf
          clear hkey hme hcnt HTK
          go_wp2
          go_quiet (fail)
          go_wp2
          go_roundw
          case rel => exact ⟨⟨k + 1, by omega, by rw [HAK.out], by go_num, HE.out.keeps ((Mem.Keeps.refl (fun _ => False) _).drewN _) id, Mem.below_drewN HB.out _⟩⟩
          case measure => simp [intOf]; omega
        · have hkd := str_ne hkey
          have HAK : Hid (anyKey key (es.take (k + 1)) = anyKey key (es.take k)) := by show _ = _; rw [HTK.out, hkd, Bool.or_false]
          clear hkey hme HTK
          go_wp2
          go_roundw
          case rel => exact ⟨⟨k + 1, by omega, by rw [HAK.out], by go_num, HE, HB⟩⟩
          case measure => simp [intOf]; omega
      · obtain rfl : k = es.length := by omega
        rw [List.take_length]
        cases hak : anyKey key es
        case false =>
          have hf : f = false := by
            cases f
            · rfl
            · exact absurd ((HG.out.yes rfl).2.1) (anyKey_no hak m (HG.out.yes rfl).1)
          subst hf
          obtain rfl : m = ent0 := (HG.out.no rfl).1
          have e1 : ∀ W, (binOp .eql 33 (.agg (entCells ent0).toArray) (.agg #[.int .i64 0, .int .i64 0, .int .i64 0, .int .i64 0, .int .i64 0, .int .i64 0, .string ⟨#[]⟩, .string ⟨#[]⟩, .bool false, .int .i64 0, .int .i64 0, .int .i64 0, .int .i64 0, .int .i64 0, .int .i64 0, .int .i64 0, .int .i64 0, .int .i64 0, .int .i64 0, .int .i64 0])).run Try.prog W = .ok (.bool true) W := fun W => (eql_ent ent0 ent0 W).trans (by rw [eqEnt_iff.2 rfl])
          go_wp2_with ((with_reducible refine Mem.load_aggG _ _ entry_agg g 0 (entCells ent0) ?hwa ?hxb (entCells_length _) (fun j u hu => by rw [Nat.zero_add]; exact HE.out.cell hu) ?_); ((case hwa => rfl); (case hxb => exact rfl)))
          go_ret
          exact ⟨rfl, HB.out⟩
        case true =>
          obtain ⟨e0, he0, hk0⟩ := anyKey_yes hak
          have hf : f = true := by
            cases f
            · exact absurd hk0 ((HG.out.no rfl).2 e0 he0)
            · rfl
          subst hf
          have HMM := Lib.hid (HG.out.yes rfl)
          clear he0 hk0 e0
          go_wp2
          rename World => w6
          go_loopw [9, 10] (TRel w w5 es m g) (fun _ t _ => es.length - (intOf t).toNat)
          case atStart => exact ⟨⟨0, by omega, rfl, rfl, HE, HB⟩⟩
          case round =>
            clear HE HB
            obtain ⟨k, hk, rfl, rfl, HE, HB⟩ := hrel.out
            by_cases hlt : k < es.length
            · obtain ⟨b, o, e, rfl, hb, he, hat⟩ := ent_elem HR.out hlt
              have HTK := Lib.hid (show anyEnt m (es.take (k + 1)) = (anyEnt m (es.take k) || eqEnt e m) by rw [Mem.take_snoc he, anyEnt_snoc])
              have HAT := Lib.hid (hat.below HB.out hb)
              clear hat he
              cases han : anyEnt m (es.take k)
              case true =>
                have HAK : Hid (anyEnt m (es.take (k + 1)) = true) := by show _ = _; rw [HTK.out, han, Bool.true_or]
                go_wp2
                go_quiet (fail)
                go_wp2
                go_roundw
                case rel => exact ⟨⟨k + 1, by omega, by rw [HAK.out], by go_num, HE.out.keeps ((Mem.Keeps.refl (fun _ => False) _).drewN _) id, Mem.below_drewN HB.out _⟩⟩
                case measure => simp [intOf]; omega
              case false =>
                have HAK : Hid (anyEnt m (es.take (k + 1)) = eqEnt e m) := by show _ = _; rw [HTK.out, han, Bool.false_or]
                obtain ⟨q, hq⟩ : ∃ q, eqEnt e m = q := ⟨_, rfl⟩
                rw [hq] at HAK
                have HQ : Hid (∀ W, (binOp .eql 33 (.agg (entCells e).toArray) (.agg (entCells m).toArray)).run Try.prog W = .ok (.bool q) W) := fun W => by rw [eql_ent, hq]
                have hbw := Nat.lt_of_lt_of_le hb HB.out.size
                clear hq HTK
                go_upto_region 20 with fail
                refine Reg.wp_region_rel (by kernel_rfl) 86 10 rfl rfl (by kernel_rfl) (Reg.Adds) (Reg.Adds.refl) (Reg.Adds.trans)
                  (fun i v u => match i with
                    | 0 => v = .bool false
                    | 1 => v = .bool false
                    | 2 => v = .slice (some ⟨b, o, none⟩) es.length c
                    | 3 => v = .int .i64 k
                    | 4 => v = .pointer (some ⟨b, o + k * 20, none⟩)
                    | 5 => v = .agg (entCells e).toArray
                    | 6 => v = .agg (entCells m).toArray
                    | 7 => v = .bool q
                    | 8 => v = .bool q
                    | 9 => v = .bool q
                    | _ => True) ?_ ?_
                · refine Reg.Steps.cons ?_ (Reg.Steps.cons ?_ (Reg.Steps.cons ?_ (Reg.Steps.cons ?_ (Reg.Steps.cons ?_ (Reg.Steps.cons ?_ (Reg.Steps.cons ?_ (Reg.Steps.cons ?_ (Reg.Steps.cons ?_ (Reg.Steps.cons ?_ (Reg.Steps.nil _))))))))))
                  · intro val ac u hR hp ha K hK      -- 0: t70 := Op.move t9
                    have e9 : (ac.tmps[9]?).getD undef = .bool false := ha 9 (by decide)
                    clear ha hp
                    refine Reg.Op1.plain rfl ?_
                    go_wp2
                    exact ⟨rfl, hK _ _ rfl (fun j k _ _ => Reg.Adds.refl _ _ _)⟩
                  · intro val ac u hR hp ha K hK      -- 1: t71 := Op.move t70
                    obtain ⟨w70, h70, r70⟩ := hp 0 (by decide)
                    have e70 : (ac.tmps[70]?).getD undef = .bool false := (ha 70 (by decide)).trans h70
                    clear h70
                    clear ha hp
                    refine Reg.Op1.plain rfl ?_
                    go_wp2
                    exact ⟨rfl, hK _ _ rfl (fun j k _ _ => Reg.Adds.refl _ _ _)⟩
                  · intro val ac u hR hp ha K hK      -- 2: t72 := Op.move t0
                    have e0 : (ac.tmps[0]?).getD undef = .slice (some ⟨b, o, none⟩) es.length c := ha 0 (by decide)
                    obtain ⟨w71, h71, r71⟩ := hp 1 (by decide)
                    have e71 : (ac.tmps[71]?).getD undef = .bool false := (ha 71 (by decide)).trans h71
                    clear h71
                    clear ha hp
                    refine Reg.Op1.guarded rfl rfl e71 (fun _ => Reg.Op1.plain rfl ?_) (fun h => absurd rfl h)
                    go_wp2
                    exact ⟨rfl, hK _ _ rfl (fun j k _ _ => Reg.Adds.refl _ _ _)⟩
                  · intro val ac u hR hp ha K hK      -- 3: t73 := Op.move t10
                    have e10 : (ac.tmps[10]?).getD undef = .int .i64 k := ha 10 (by decide)
                    obtain ⟨w71, h71, r71⟩ := hp 1 (by decide)
                    have e71 : (ac.tmps[71]?).getD undef = .bool false := (ha 71 (by decide)).trans h71
                    clear h71
                    clear ha hp
                    refine Reg.Op1.guarded rfl rfl e71 (fun _ => Reg.Op1.plain rfl ?_) (fun h => absurd rfl h)
                    go_wp2
                    exact ⟨rfl, hK _ _ rfl (fun j k _ _ => Reg.Adds.refl _ _ _)⟩
                  · intro val ac u hR hp ha K hK      -- 4: t74 := Op.indexAddr 22 t72 t73
                    obtain ⟨w72, h72, r72⟩ := hp 2 (by decide)
                    have e72 : (ac.tmps[72]?).getD undef = .slice (some ⟨b, o, none⟩) es.length c := (ha 72 (by decide)).trans h72
                    clear h72
                    obtain ⟨w73, h73, r73⟩ := hp 3 (by decide)
                    have e73 : (ac.tmps[73]?).getD undef = .int .i64 k := (ha 73 (by decide)).trans h73
                    clear h73
                    obtain ⟨w71, h71, r71⟩ := hp 1 (by decide)
                    have e71 : (ac.tmps[71]?).getD undef = .bool false := (ha 71 (by decide)).trans h71
                    clear h71
                    clear ha hp
                    refine Reg.Op1.guarded rfl rfl e71 (fun _ => Reg.Op1.plain rfl ?_) (fun h => absurd rfl h)
                    go_wp2
                    exact ⟨rfl, hK _ _ rfl (fun j k _ _ => Reg.Adds.refl _ _ _)⟩
                  · intro val ac u hR hp ha K hK      -- 5: t75 := Op.load 33 t74
                    obtain ⟨w74, h74, r74⟩ := hp 4 (by decide)
                    have e74 : (ac.tmps[74]?).getD undef = .pointer (some ⟨b, o + k * 20, none⟩) := (ha 74 (by decide)).trans h74
                    clear h74
                    obtain ⟨w71, h71, r71⟩ := hp 1 (by decide)
                    have e71 : (ac.tmps[71]?).getD undef = .bool false := (ha 71 (by decide)).trans h71
                    clear h71
                    clear ha hp
                    refine Reg.Op1.guarded rfl rfl e71 (fun _ => Reg.Op1.plain rfl ?_) (fun h => absurd rfl h)
                    refine Mem.load_agg _ _ entry_agg b (o + k * 20) (entCells e) (Reg.eval_of e74) (entCells_length _) (fun j u' hu => (hR.cell (p := ⟨b, o + k * 20 + j, none⟩) hbw).trans (HAT.out.c j u' hu)) ?_
                    exact ⟨rfl, hK _ _ rfl (fun j k _ _ => Reg.Adds.refl _ _ _)⟩
                  · intro val ac u hR hp ha K hK      -- 6: t76 := Op.load 33 t5
                    have e5 : (ac.tmps[5]?).getD undef = .pointer (some ⟨g, 0, none⟩) := ha 5 (by decide)
                    obtain ⟨w71, h71, r71⟩ := hp 1 (by decide)
                    have e71 : (ac.tmps[71]?).getD undef = .bool false := (ha 71 (by decide)).trans h71
                    clear h71
                    clear ha hp
                    refine Reg.Op1.guarded rfl rfl e71 (fun _ => Reg.Op1.plain rfl ?_) (fun h => absurd rfl h)
                    refine Mem.load_agg _ _ entry_agg g 0 (entCells m) (Reg.eval_of e5) (entCells_length _) (fun j u' hu => by rw [Nat.zero_add]; exact (hR.cell (p := ⟨g, j, none⟩) HE.out.lt).trans (HE.out.cell hu)) ?_
                    exact ⟨rfl, hK _ _ rfl (fun j k _ _ => Reg.Adds.refl _ _ _)⟩
                  · intro val ac u hR hp ha K hK      -- 7: t77 := Op.binOp BinOp.eql 33 t75 t76 33
                    obtain ⟨w75, h75, r75⟩ := hp 5 (by decide)
                    have e75 : (ac.tmps[75]?).getD undef = .agg (entCells e).toArray := (ha 75 (by decide)).trans h75
                    clear h75
                    obtain ⟨w76, h76, r76⟩ := hp 6 (by decide)
                    have e76 : (ac.tmps[76]?).getD undef = .agg (entCells m).toArray := (ha 76 (by decide)).trans h76
                    clear h76
                    obtain ⟨w71, h71, r71⟩ := hp 1 (by decide)
                    have e71 : (ac.tmps[71]?).getD undef = .bool false := (ha 71 (by decide)).trans h71
                    clear h71
                    clear ha hp
                    refine Reg.Op1.guarded rfl rfl e71 (fun _ => Reg.Op1.plain rfl ?_) (fun h => absurd rfl h)
                    have hqq := HQ.out
                    go_wp2
                    exact ⟨rfl, hK _ _ rfl (fun j k _ _ => Reg.Adds.refl _ _ _)⟩
                  · intro val ac u hR hp ha K hK      -- 8: t78 := Op.pick t71 (const (Value.bool true)) t77
                    obtain ⟨w71, h71, r71⟩ := hp 1 (by decide)
                    have e71 : (ac.tmps[71]?).getD undef = .bool false := (ha 71 (by decide)).trans h71
                    clear h71
                    obtain ⟨w77, h77, r77⟩ := hp 7 (by decide)
                    have e77 : (ac.tmps[77]?).getD undef = .bool q := (ha 77 (by decide)).trans h77
                    clear h77
                    clear ha hp
                    refine Reg.Op1.plain rfl ?_
                    go_wp2
                    exact ⟨rfl, hK _ _ rfl (fun j k _ _ => Reg.Adds.refl _ _ _)⟩
                  · intro val ac u hR hp ha K hK      -- 9: t9 := Op.assign t78
                    obtain ⟨w78, h78, r78⟩ := hp 8 (by decide)
                    have e78 : (ac.tmps[78]?).getD undef = .bool q := (ha 78 (by decide)).trans h78
                    clear h78
                    clear ha hp
                    refine Reg.Op1.plain rfl ?_
                    go_wp2
                    exact ⟨rfl, hK _ _ rfl (fun j k _ _ => Reg.Adds.refl _ _ _)⟩
                · intro val u hR H
                  obtain ⟨_, hv, _⟩ := H 9 (by decide)
                  have hv : val 9 = .bool q := hv
                  have HR2 : Hid (Below wr.heap.size wr u) := (Below.refl _ wr).drew.trans hR
                  simp only [List.map_cons, List.map_nil, Reg.lay, Act.put, List.setIfInBounds_toArray, List.set_cons_succ, List.set_cons_zero, Nat.reduceAdd, hv]
                  clear hR H hv
                  go_wp2
                  go_roundw
                  case rel => exact ⟨⟨k + 1, by omega, by rw [HAK.out], by go_num, HE.out.below HR2.out HE.out.lt, HB.out.trans (HR2.out.mono HB.out.size)⟩⟩
                  case measure => simp [intOf]; omega
            · obtain rfl : k = es.length := by omega
              rw [List.take_length]
              have hth : anyEnt m es = true := anyEnt_mem HMM.out.1
              have hkd := str_eq HMM.out.2.1
              have x6 := HE.out.cell (j := 6) rfl
              go_wp2
              go_ret
              exact ⟨rfl, HB.out⟩
set_option maxRecDepth 20000 in
theorem opened {H : Type} (enc : TypeId × Value → H) (W : World) (base : Nat) (v0 v1 : Value) {d0 d1 : DataW H} {p0 p1 : List MemPlace}
    (o0 : Value.okWide Try.prog W .any base 22 v0) (o1 : Value.okWide Try.prog W .any base 9 v1) (k0 : DataW.Trod enc Try.prog W 0 (fun _ => true) true 22 v0 d0 p0) (k1 : DataW.Trod enc Try.prog W 0 (fun _ => true) true 9 v1 d1 p1)
    (z0 : (d0.weights Try.prog 22).all (· ≤ reachBytes) = true) (z1 : (d1.weights Try.prog 9).all (· ≤ reachBytes) = true) :
    Calls Try.prog 3 #[v0, v1] W fun e w' => e = .returned (.bool true) ∧ Below W.heap.size W w' := by
  obtain ⟨A, c, es, rfl, h1, h2, h3, h4⟩ := open_ents o0 k0 z0
  obtain ⟨s, rfl, hs⟩ := open_text o1 k1 z1
  exact walk A c es s W h3 (by omega) h4 hs
end serveGreatestOpen
end Go.Proofs.Ytiibgkgbghganaa
