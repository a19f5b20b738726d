/- What is held, in plain lists; the walk of HoldPurges. No conditions. -/
import Derived.Test.YtgdcfdjfoeoknaaHold5
namespace Go.Proofs.Ytgdcfdjfoeoknaa
open Go.ChangeShapes Go.WideShapes Go.ChangeAt Go.RowKit
set_option linter.unusedVariables false
set_option linter.unusedSimpArgs false

namespace Vec
theorem putStep_count (rng : Int) (p : List Ent × Nat) (e : Ent) (b : Nat) (h : p.1.length = b + p.2) : (putStep rng p e).1.length = b + (putStep rng p e).2 := by
  unfold putStep; split
  · simp; omega
  · exact h
theorem putL_count (rng : Int) (es news : List Ent) : (putL rng es news).1.length = es.length + (putL rng es news).2 := by
  unfold putL
  have : ∀ (l : List Ent) (p : List Ent × Nat), p.1.length = es.length + p.2 → (l.foldl (putStep rng) p).1.length = es.length + (l.foldl (putStep rng) p).2 := by
    intro l
    induction l with
    | nil => intro p h; exact h
    | cons a l ih => intro p h; exact ih _ (putStep_count rng p a _ h)
  exact this news (es, 0) rfl
theorem putL_max (rng : Int) (es news : List Ent) (h : es.length ≤ 16) : (putL rng es news).1.length ≤ 16 := by
  unfold putL
  have : ∀ (l : List Ent) (p : List Ent × Nat), p.1.length ≤ 16 → (l.foldl (putStep rng) p).1.length ≤ 16 := by
    intro l
    induction l with
    | nil => intro p h; exact h
    | cons a l ih =>
      intro p h
      refine ih _ ?_
      unfold putStep; split
      · rename_i hk
        unfold okPut at hk
        simp at hk
        simp; omega
      · exact h
  exact this news (es, 0) h
theorem putL_right (rng : Int) (es news : List Ent) (h : ∀ e ∈ es, rightE e = true ∧ e.rng = rng) : ∀ e ∈ (putL rng es news).1, rightE e = true ∧ e.rng = rng := by
  unfold putL
  have : ∀ (l : List Ent) (p : List Ent × Nat), (∀ e ∈ p.1, rightE e = true ∧ e.rng = rng) → ∀ e ∈ (l.foldl (putStep rng) p).1, rightE e = true ∧ e.rng = rng := by
    intro l
    induction l with
    | nil => intro p h; exact h
    | cons a l ih =>
      intro p h
      refine ih _ ?_
      unfold putStep; split
      · rename_i hk
        unfold okPut at hk
        simp at hk
        intro e he
        rcases List.mem_append.1 he with he | he
        · exact h e he
        · rw [List.mem_singleton] at he; subst he; exact ⟨hk.1, hk.2.1⟩
      · exact h
  exact this news (es, 0) h
/-- the statement's hold, its vector, what came in -/
structure HSt (w : World) (gh : Nat) (A : Option Addr) (c : Nat) (rng : Int) (hs : List Ent) (vv : Vc) (wx : World) : Prop where
  H : HAt 61 wx gh A c rng hs
  V : VBx wx w.heap.size vv
  b : Below w.heap.size w wx
  G : ∀ k, HB gh A k → w.heap.size < k
theorem HSt.below {w : World} {gh : Nat} {A : Option Addr} {c : Nat} {rng : Int} {hs : List Ent} {vv : Vc} {w1 w2 : World} (h : HSt w gh A c rng hs vv w1) (hb : Below w1.heap.size w1 w2) : HSt w gh A c rng hs vv w2 :=
  ⟨h.H.below hb, h.V.below hb h.V.lt, h.b.trans (hb.mono h.b.size), h.G⟩
theorem HSt.step {w : World} {gh : Nat} {A A' : Option Addr} {c c' : Nat} {rng : Int} {hs hs' : List Ent} {vv : Vc} {w1 w2 : World} (h : HSt w gh A c rng hs vv w1) (hA : HAt 61 w2 gh A' c' rng hs') (hk : Mem.Keeps (HB gh A) w1 w2) (hq : ∀ q, Mem.blk A' = some q → Mem.blk A = some q ∨ w1.heap.size ≤ q) : HSt w gh A' c' rng hs' vv w2 :=
  ⟨hA, h.V.keeps hk (fun h9 => Nat.lt_irrefl _ (h.G _ h9)), h.b.trans (hk.below (fun k h9 => Nat.le_of_lt (h.G k h9)) h.b.size), fun k h9 => by
    rcases h9 with rfl | h9
    · exact h.G _ (.inl rfl)
    · rcases hq k h9 with h8 | h8
      · exact h.G k (.inr h8)
      · have := h.V.lt; omega⟩
theorem EOwn.apart {A : Option Addr} {c : Nat} {es : List Ent} {w1 w2 : World} {S : Nat → Prop} (h : EOwn w1 A c es) (hk : Mem.Keeps S w1 w2) (B : Nat) (hF : Mem.From B A) (hS : ∀ k, S k → k < B) : EOwn w2 A c es :=
  Mem.Own.keeps h hk (fun k hb hs => by have := hF.blk k hb; have := hS k hs; omega)
theorem purged_twice (v : Vc) (es : List Ent) : purged v (purged v es) = purged v es := by
  unfold purged keptL
  rw [List.filter_filter]
  congr 1
  funext e
  simp
theorem purged_snoc {vv : Vc} {hs : List Ent} {i : Nat} {e : Ent} (he : hs[i]? = some e) : purged vv (hs.take (i + 1)) = purged vv (hs.take i) ++ (if hasE vv e = true then [] else [e]) := by
  rw [Mem.take_snoc he]
  exact keptL_snoc _ _ _
theorem purged_at {vv : Vc} {hs : List Ent} {i : Nat} {e : Ent} (he : hs[i]? = some e) (hh : hasE vv e = false) : (purged vv hs)[(purged vv (hs.take i)).length]? = some e := by
  obtain ⟨hi, rfl⟩ := List.getElem?_eq_some_iff.1 he
  have h1 : purged vv hs = purged vv (hs.take i) ++ purged vv (hs.drop i) := by
    conv => lhs; rw [← List.take_append_drop i hs]
    exact List.filter_append _ _
  rw [h1, List.getElem?_append_right (Nat.le_refl _), Nat.sub_self, List.drop_eq_getElem_cons hi]
  unfold purged keptL
  rw [List.filter_cons, if_pos (by simp [hh])]
  rfl
structure PgRel (w8 : World) (hs : List Ent) (vv : Vc) (v12 v13 : Value) (wr : World) : Prop where
  out : ∃ i j : Nat, i ≤ hs.length ∧ j = (purged vv (hs.take i)).length ∧ v12 = .int .i64 j ∧ v13 = .int .i64 i ∧ Hid (Below w8.heap.size w8 wr)
end Vec
namespace holdPurgesOpen
open Vec
set_option maxRecDepth 20000 in
set_option maxHeartbeats 8000000 in
theorem walk (rng : Int) (A : Option Addr) (c : Nat) (es : List Ent) (vv : Vc) (w : World) (hr : Mem.Rd w w.heap.size A (es.flatMap entCells)) (hec : es.length ≤ c) (hcc : c ≤ 8796093022208) (hd : ∀ e ∈ es, EntIn e) :
    Calls Try.prog 6 #[.int .i64 rng, .slice A es.length c, .agg (vcCells vv).toArray] w fun e w' => e = .returned (.bool true) ∧ Below w.heap.size w w' := by
  have HR := Lib.hid hr
  have HD := Lib.hid hd
  clear hr hd
  go_enter Try.func6, Try.ntmps6
  go_upto_region 1 with fail
  obtain ⟨w0, hw0⟩ : ∃ w0, w.alloc (.cells (vcCells vv).toArray 27) = w0 := ⟨_, rfl⟩
  have HV0 : Hid (VBx w0 w.heap.size vv) := by show VBx _ _ _; rw [← hw0]; exact Mem.Bx.new w 27 (vcCells vv).toArray rfl rfl
  have HB0 : Hid (Below w.heap.size w w0) := by show Below _ _ _; rw [← hw0]; exact Reg.below_new _ _
  change Code.wp _ _ _ _ (w.alloc (.cells (vcCells vv).toArray 27))
  rw [hw0]
  clear hw0
  go_wp2_with fail
  refine (holdAble_any w0).mono ?_
  rintro x w1 ⟨rfl, hb1⟩
  have HV1 : Hid (VBx w1 w.heap.size vv) := HV0.out.below hb1 HV0.out.lt
  have HB1 : Hid (Below w.heap.size w w1) := HB0.out.trans (hb1.mono HB0.out.size)
  clear hb1 HV0 HB0
  go_wp2_with fail
  have hrd : Mem.Rd (w1.alloc (.cells (acCells ⟨0, A, c, es, vc0⟩).toArray 44)) (w1.alloc (.cells (acCells ⟨0, A, c, es, vc0⟩).toArray 44)).heap.size (some ⟨w1.heap.size, 0, none⟩) ([(⟨0, A, c, es, vc0⟩ : Ac)].flatMap acCells) := by
    have h9 := Mem.Rd.alloc_new w1 (acCells ⟨0, A, c, es, vc0⟩).toArray 44 (0, 0) rfl
    simpa using h9
  refine (much_any (some ⟨w1.heap.size, 0, none⟩) 1 [⟨0, A, c, es, vc0⟩] (w1.alloc (.cells (acCells ⟨0, A, c, es, vc0⟩).toArray 44)) _ hrd (by simp) (fun a ha => ?_) (Below.refl _ _)).mono ?_
  · rw [List.mem_singleton] at ha
    subst ha
    exact ⟨((HR.out.below HB1.out).more HB1.out.size).alloc (Nat.le_refl _) _ |>.more (by simp), hec, hcc, HD.out⟩
  rintro x w2 ⟨bq, rfl, hbn, hb2⟩
  have hb2' : Below w1.heap.size w1 w2 := (Reg.below_new _ _).trans (hb2.mono (by simp))
  have HV2 : Hid (VBx w2 w.heap.size vv) := HV1.out.below hb2' HV1.out.lt
  have HB2 : Hid (Below w.heap.size w w2) := HB1.out.trans (hb2'.mono HB1.out.size)
  clear hb2 hb2' HV1 HB1 hrd
  cases bq
  case true =>
    go_wp2
    go_ret
    exact ⟨rfl, HB2.out⟩
  have hn3 : es.length ≤ 199 := by have := hbn rfl; simp [lenA] at this; omega
  clear hbn
  have hol := ents_len es
  have hoo := ents_one es
  go_upto_region 7 with (first | (go_at_call 9; refine (holdNew_any rng w2).mono ?_; rintro x w3 ⟨rfl, hA3, hb3⟩; have HA3 := Lib.hid hA3; have HB3 := Lib.hid hb3; have hrd3 := ((HR.out.below (HB2.out.trans (hb3.mono HB2.out.size))).more (Nat.le_trans HB2.out.size hb3.size)).alloc (Nat.le_refl _) (.cells #[] 33); clear hA3 hb3) | (at_builtin; refine Mem.wpList_app0 _ rfl (.tmp 23) (.tmp 24) _ rfl entries_elem (some ⟨w3.heap.size, 0, none⟩) rfl w3.heap.size A es.length c (es.flatMap entCells) rfl ?_ (Mem.Own.lit w3 _ 20 #[] 0 rfl rfl (by simp [maxLen])) hrd3 hol hoo (by unfold maxLen; omega) (by omega); intro A1 c1 w4 hown hb4 hat4; have HO4 := Lib.hid hown; have HB4 : Hid (Below w3.heap.size w3 w4) := (Reg.below_new _ _).trans (hb4.mono (by simp)); have HF4 : Hid (Mem.From w3.heap.size A1) := hat4.elim (fun h => by rw [h]; exact Mem.From.some_ (Nat.le_refl _)) (fun h => by rw [h]; exact Mem.From.some_ (by simp)); clear hown hb4 hat4 hrd3) | (go_at_call 10; refine (put_any rng w2.heap.size none 0 [] A1 c1 es w4 (HA3.out.below HB4.out) HO4.out (fun q hq h => by have h1 := HF4.out.blk q hq; have h2 := HA3.out.B.lt; rcases h with h | h; omega; cases h)).mono ?_; rintro x w5 ⟨A5, c5, rfl, hA5, hk5, hq5⟩; have HP5 := Lib.hid hA5; have HK5 := Lib.hid hk5; have HQ5 := Lib.hid hq5; clear hA5 hk5 hq5))
  have HS3 : Hid (HSt w w2.heap.size none 0 rng [] vv w3) := ⟨HA3.out, HV2.out.below HB3.out HV2.out.lt, HB2.out.trans (HB3.out.mono HB2.out.size), fun k h => by rcases h with rfl | h; exact HV2.out.lt; cases h⟩
  have HS5 := Lib.hid ((HS3.out.below HB4.out).step HP5.out HK5.out HQ5.out)
  obtain ⟨gh, hgh⟩ : ∃ gh, w2.heap.size = gh := ⟨_, rfl⟩
  obtain ⟨hs, hhs1⟩ : ∃ hs, (putL rng [] es).1 = hs := ⟨_, rfl⟩
  obtain ⟨nh, hhs2⟩ : ∃ nh, (putL rng [] es).2 = nh := ⟨_, rfl⟩
  have hcnt := putL_count rng [] es
  have hmax := putL_max rng [] es (by simp)
  have hrt := Lib.hid (putL_right rng [] es (fun e he => by cases he))
  rw [hhs1, hhs2] at hcnt
  rw [hhs1] at hmax hrt HS5
  rw[hhs2]
  rw [hgh] at HS5 ⊢
  clear hol hoo HS3 HP5 HK5 HQ5 HA3 HB3 HO4 HB4 HF4 HV2 HB2 hgh hhs1 hhs2
  obtain rfl : nh = hs.length := by simp at hcnt; omega
  clear hcnt
  go_upto_region 8 with (go_at_call 17; refine (holdEntries_any HS5.out.H (by omega)).mono ?_; rintro x w6 ⟨Aw, cw, rfl, hO6, hF6, hb6⟩)
  have HS6 := Lib.hid (HS5.out.below hb6)
  have HO6 := Lib.hid hO6
  have HF6 := Lib.hid (hF6 : Mem.From w5.heap.size Aw)
  have HG6 : Hid (∀ k, HB gh A5 k → k < w5.heap.size) := HS5.out.H.lt
  clear hO6 hF6 hb6 HS5
  go_upto_region 9 with (first | ((with_reducible refine Mem.load_agg _ _ vec_agg w.heap.size 0 (vcCells vv) ?hxa (vcCells_length vv) (fun j u hu => by rw [Nat.zero_add]; exact HS6.out.V.cell hu) ?_); case hxa => exact rfl) | (go_at_call 21; refine (purge_any vv rng gh A5 c5 hs w6 HS6.out.H (by omega)).mono ?_; rintro x w7 ⟨rfl, hA7, hk7⟩))
  have HS7 := Lib.hid (HS6.out.step hA7 hk7 (fun q h => .inl h))
  have HO7 : Hid (EOwn w7 Aw cw hs) := HO6.out.apart hk7 w5.heap.size HF6.out HG6.out
  obtain ⟨ps, hps⟩ : ∃ ps, purged vv hs = ps := ⟨_, rfl⟩
  have hpl : ps.length ≤ hs.length := by rw [← hps]; exact keptL_le _ _
  have HPS := Lib.hid hps
  rw [hps] at HS7 ⊢
  clear hA7 hk7 hps HS6 HO6 HF6 HG6
  go_upto_region 10 with (go_at_call 17; refine (holdEntries_any HS7.out.H (by omega)).mono ?_; rintro x w8 ⟨Al, cl, rfl, hO8, hF8, hb8⟩)
  have HS8 := Lib.hid (HS7.out.below hb8)
  have HL8 := Lib.hid hO8
  have HW8 : Hid (EOwn w8 Aw cw hs) := HO7.out.keeps (Mem.Keeps.of_below hb8) (fun _ _ h => h)
  clear hO8 hF8 hb8 HS7 HO7
  have d1 : ((hs.length : Int) != (hs.length : Int)) = false := by simp
  have hw : IntKind.i64.wrap ((hs.length : Int) - ((hs.length - ps.length : Nat) : Int)) = (ps.length : Int) := by rw [IntWalk.i64_in _ (by omega)]; omega
  have hw2 : wrap64 ((hs.length : Int) - ((hs.length - ps.length : Nat) : Int)) = (ps.length : Int) := by rw [IntWalk.wrap64_in _ (by omega)]; omega
  have d2 : ((ps.length : Int) != (ps.length : Int)) = false := by simp
  have d3 : decide ((16 : Int) < (hs.length : Int)) = false := by simp; omega
  go_wp2
  go_loopw [12, 13] (PgRel w8 hs vv) (fun _ t _ => hs.length - (intOf t).toNat)
  case atStart => exact ⟨⟨0, 0, by omega, rfl, rfl, rfl, Below.refl _ _⟩⟩
  case round =>
    obtain ⟨ix, j, hi, hj, rfl, rfl, HBr⟩ := hrel.out
    have HSr := Lib.hid (HS8.out.below HBr.out)
    by_cases hlt : ix < hs.length
    · obtain ⟨b, o, e, rfl, hbl, he, hat⟩ := ent_elem (HW8.out.keeps (Mem.Keeps.of_below HBr.out) (fun _ _ h => h)).rd hlt
      have HAT := Lib.hid hat
      have HE := Lib.hid he
      clear hat he
      have HJ := Lib.hid hj
      clear hj
      cases hhe : hasD vv ⟨e.dc, e.rng, e.seq⟩
      · have HT : Hid ((purged vv (hs.take (ix + 1))).length = j + 1) := by show _ = _; rw [purged_snoc HE.out, if_neg (by unfold hasE; simp [hhe]), HJ.out]; simp
        have hpe : ps[j]? = some e := by rw [← HPS.out, HJ.out]; exact purged_at HE.out hhe
        have hjl : j < ps.length := (List.getElem?_eq_some_iff.1 hpe).1
        go_upto_region 16 with fail
        refine Reg.wp_region_rel (by kernel_rfl) 90 7 rfl rfl (by kernel_rfl) (Reg.Adds) (Reg.Adds.refl) (Reg.Adds.trans)
          (fun i v u => match i with
            | 0 => v = .agg (vcCells vv).toArray
            | 1 => v = .slice (some ⟨b, o, none⟩) hs.length cw
            | 2 => v = .int .i64 ix
            | 3 => v = .pointer (some ⟨b, o + ix * 20, none⟩)
            | 4 => v = .pointer (some ⟨b, o + ix * 20, none⟩)
            | 5 => v = .agg (dtCells ⟨e.dc, e.rng, e.seq⟩).toArray
            | 6 => v = .bool false
            | _ => True) ?_ ?_
        · refine Reg.Steps.cons ?_ (Reg.Steps.cons ?_ (Reg.Steps.cons ?_ (Reg.Steps.cons ?_ (Reg.Steps.cons ?_ (Reg.Steps.cons ?_ (Reg.Steps.cons ?_ (Reg.Steps.nil _)))))))
          · intro val ac u hR hp ha K hK      -- 0: t56 := Op.load 27 t5
            have e5 : (ac.tmps[5]?).getD undef = .pointer (some ⟨w.heap.size, 0, none⟩) := ha 5 (by decide)
            clear ha hp
            refine Reg.Op1.plain rfl ?_
            have hVu : VBx u w.heap.size vv := Mem.Bx.below (w := wr.drew) HSr.out.V hR HSr.out.V.lt
            refine Mem.load_agg _ _ vec_agg w.heap.size 0 (vcCells vv) (Reg.eval_of e5) (vcCells_length _) (fun j u' hu => by rw [Nat.zero_add]; exact hVu.cell hu) ?_
            exact ⟨rfl, hK _ _ rfl (fun j k _ _ => Reg.Adds.refl _ _ _)⟩
          · intro val ac u hR hp ha K hK      -- 1: t57 := Op.move t9
            have e9 : (ac.tmps[9]?).getD undef = .slice (some ⟨b, o, none⟩) hs.length cw := ha 9 (by decide)
            clear ha hp
            refine Reg.Op1.plain rfl ?_
            go_wp2
            exact ⟨rfl, hK _ _ rfl (fun j k _ _ => Reg.Adds.refl _ _ _)⟩
          · intro val ac u hR hp ha K hK      -- 2: t58 := Op.move t13
            have e13 : (ac.tmps[13]?).getD undef = .int .i64 ix := ha 13 (by decide)
            clear ha hp
            refine Reg.Op1.plain rfl ?_
            go_wp2
            exact ⟨rfl, hK _ _ rfl (fun j k _ _ => Reg.Adds.refl _ _ _)⟩
          · intro val ac u hR hp ha K hK      -- 3: t59 := Op.indexAddr 24 t57 t58
            obtain ⟨w57, h57, r57⟩ := hp 1 (by decide)
            have e57 : (ac.tmps[57]?).getD undef = .slice (some ⟨b, o, none⟩) hs.length cw := (ha 57 (by decide)).trans h57
            clear h57
            obtain ⟨w58, h58, r58⟩ := hp 2 (by decide)
            have e58 : (ac.tmps[58]?).getD undef = .int .i64 ix := (ha 58 (by decide)).trans h58
            clear h58
            clear ha hp
            refine Reg.Op1.plain rfl ?_
            go_wp2
            exact ⟨rfl, hK _ _ rfl (fun j k _ _ => Reg.Adds.refl _ _ _)⟩
          · intro val ac u hR hp ha K hK      -- 4: t60 := Op.fieldAddr 33 t59 0
            obtain ⟨w59, h59, r59⟩ := hp 3 (by decide)
            have e59 : (ac.tmps[59]?).getD undef = .pointer (some ⟨b, o + ix * 20, none⟩) := (ha 59 (by decide)).trans h59
            clear h59
            clear ha hp
            refine Reg.Op1.plain rfl ?_
            go_wp2
            exact ⟨rfl, hK _ _ rfl (fun j k _ _ => Reg.Adds.refl _ _ _)⟩
          · intro val ac u hR hp ha K hK      -- 5: t61 := Op.load 29 t60
            obtain ⟨w60, h60, r60⟩ := hp 4 (by decide)
            have e60 : (ac.tmps[60]?).getD undef = .pointer (some ⟨b, o + ix * 20, none⟩) := (ha 60 (by decide)).trans h60
            clear h60
            clear ha hp
            refine Reg.Op1.plain rfl ?_
            have z0 := (hR.cell (p := ⟨b, o + ix * 20, none⟩) hbl).trans (HAT.out.c 0 _ rfl)
            have z1 := (hR.cell (p := ⟨b, o + ix * 20 + 1, none⟩) hbl).trans (HAT.out.c 1 _ rfl)
            have z2 := (hR.cell (p := ⟨b, o + ix * 20 + 2, none⟩) hbl).trans (HAT.out.c 2 _ rfl)
            go_wp2
            exact ⟨rfl, hK _ _ rfl (fun j k _ _ => Reg.Adds.refl _ _ _)⟩
          · intro val ac u hR hp ha K hK      -- 6: t62 := Op.call { value (Operand.func 15), args := #[t56, t61], argTypes := #[27, 29] }
            obtain ⟨w56, h56, r56⟩ := hp 0 (by decide)
            have e56 : (ac.tmps[56]?).getD undef = .agg (vcCells vv).toArray := (ha 56 (by decide)).trans h56
            clear h56
            obtain ⟨w61, h61, r61⟩ := hp 5 (by decide)
            have e61 : (ac.tmps[61]?).getD undef = .agg (dtCells ⟨e.dc, e.rng, e.seq⟩).toArray := (ha 61 (by decide)).trans h61
            clear h61
            clear ha hp
            refine Reg.Op1.plain rfl ?_
            go_wp2_with fail
            refine (hasD_any vv ⟨e.dc, e.rng, e.seq⟩ u).mono ?_
            rintro x w' ⟨rfl, hbw⟩
            rw [hhe]
            go_wp2_with fail
            exact ⟨rfl, hK _ _ rfl (fun j k _ _ => hbw)⟩
        · intro val u hR H
          obtain ⟨_, hv, _⟩ := H 6 (by decide)
          have hv : val 6 = .bool false := hv
          have HBu : Hid (Below wr.heap.size wr u) := (Below.refl _ wr).drew.trans hR
          have HSu := Lib.hid (HSr.out.below HBu.out)
          have HBu8 : Hid (Below w8.heap.size w8 u) := HBr.out.trans (HBu.out.mono HBr.out.size)
          simp only [List.map_cons, List.map_nil, Reg.lay, Act.put, List.setIfInBounds_toArray, List.set_cons_succ, List.set_cons_zero, Nat.reduceAdd, hv]
          clear hR H hv
          obtain ⟨bl, ol, e2, rfl, hbll, he2, hat2⟩ := ent_elem (HL8.out.keeps (Mem.Keeps.of_below HBu8.out) (fun _ _ h => h)).rd hjl
          rw [hpe] at he2
          obtain rfl : e = e2 := Option.some.inj he2
          have HAT2 := Lib.hid hat2
          have HATu := Lib.hid (HAT.out.below HBu.out hbl)
          have hblu : b < u.heap.size := Nat.lt_of_lt_of_le hbl HBu.out.size
          have dj : decide ((ps.length : Int) ≤ (j : Int)) = false := by simp; omega
          have dj2 : decide (ps.length ≤ j) = false := by simp; omega
          have e1 : ∀ W, (binOp .neq 33 (.agg (entCells e).toArray) (.agg (entCells e).toArray)).run Try.prog W = .ok (.bool false) W := fun W => by rw [neq_ent, eqEnt_iff.2 rfl]; rfl
          have E1 := Lib.hid e1
          clear e1 hat2 he2
          obtain ⟨wu, hwu⟩ : ∃ wu, wu = u := ⟨_, rfl⟩
          subst hwu
          go_upto_region 17 with fail
          refine Reg.wp_region_rel (by kernel_rfl) 90 15 rfl rfl (by kernel_rfl) (Reg.Adds) (Reg.Adds.refl) (Reg.Adds.trans)
            (fun i v u => match i with
              | 0 => v = .int .i64 j
              | 1 => v = .slice (some ⟨bl, ol, none⟩) ps.length cl
              | 2 => v = .int .i64 ((ps.length : Nat) : Int)
              | 3 => v = .bool false
              | 4 => v = .bool false
              | 5 => v = .slice (some ⟨bl, ol, none⟩) ps.length cl
              | 6 => v = .int .i64 j
              | 7 => v = .pointer (some ⟨bl, ol + j * 20, none⟩)
              | 8 => v = .agg (entCells e).toArray
              | 9 => v = .slice (some ⟨b, o, none⟩) hs.length cw
              | 10 => v = .int .i64 ix
              | 11 => v = .pointer (some ⟨b, o + ix * 20, none⟩)
              | 12 => v = .agg (entCells e).toArray
              | 13 => v = .bool false
              | 14 => v = .bool false
              | _ => True) ?_ ?_
          · refine Reg.Steps.cons ?_ (Reg.Steps.cons ?_ (Reg.Steps.cons ?_ (Reg.Steps.cons ?_ (Reg.Steps.cons ?_ (Reg.Steps.cons ?_ (Reg.Steps.cons ?_ (Reg.Steps.cons ?_ (Reg.Steps.cons ?_ (Reg.Steps.cons ?_ (Reg.Steps.cons ?_ (Reg.Steps.cons ?_ (Reg.Steps.cons ?_ (Reg.Steps.cons ?_ (Reg.Steps.cons ?_ (Reg.Steps.nil _)))))))))))))))
            · intro val ac u hR hp ha K hK      -- 0: t63 := Op.move t12
              have e12 : (ac.tmps[12]?).getD undef = .int .i64 j := ha 12 (by decide)
              clear ha hp
              refine Reg.Op1.plain rfl ?_
              go_wp2
              exact ⟨rfl, hK _ _ rfl (fun j k _ _ => Reg.Adds.refl _ _ _)⟩
            · intro val ac u hR hp ha K hK      -- 1: t64 := Op.move t11
              have e11 : (ac.tmps[11]?).getD undef = .slice (some ⟨bl, ol, none⟩) ps.length cl := ha 11 (by decide)
              clear ha hp
              refine Reg.Op1.plain rfl ?_
              go_wp2
              exact ⟨rfl, hK _ _ rfl (fun j k _ _ => Reg.Adds.refl _ _ _)⟩
            · intro val ac u hR hp ha K hK      -- 2: t65 := Op.call { builtin len, args := #[t64], argTypes := #[24] }
              obtain ⟨w64, h64, r64⟩ := hp 1 (by decide)
              have e64 : (ac.tmps[64]?).getD undef = .slice (some ⟨bl, ol, none⟩) ps.length cl := (ha 64 (by decide)).trans h64
              clear h64
              clear ha hp
              refine Reg.Op1.plain rfl ?_
              go_wp2
              exact ⟨rfl, hK _ _ rfl (fun j k _ _ => Reg.Adds.refl _ _ _)⟩
            · intro val ac u hR hp ha K hK      -- 3: t66 := Op.binOp BinOp.geq 3 t63 t65 3
              obtain ⟨w63, h63, r63⟩ := hp 0 (by decide)
              have e63 : (ac.tmps[63]?).getD undef = .int .i64 j := (ha 63 (by decide)).trans h63
              clear h63
              obtain ⟨w65, h65, r65⟩ := hp 2 (by decide)
              have e65 : (ac.tmps[65]?).getD undef = .int .i64 ((ps.length : Nat) : Int) := (ha 65 (by decide)).trans h65
              clear h65
              clear ha hp
              refine Reg.Op1.plain rfl ?_
              go_wp2
              exact ⟨rfl, hK _ _ rfl (fun j k _ _ => Reg.Adds.refl _ _ _)⟩
            · intro val ac u hR hp ha K hK      -- 4: t67 := Op.move t66
              obtain ⟨w66, h66, r66⟩ := hp 3 (by decide)
              have e66 : (ac.tmps[66]?).getD undef = .bool false := (ha 66 (by decide)).trans h66
              clear h66
              clear ha hp
              refine Reg.Op1.plain rfl ?_
              go_wp2
              exact ⟨rfl, hK _ _ rfl (fun j k _ _ => Reg.Adds.refl _ _ _)⟩
            · intro val ac u hR hp ha K hK      -- 5: t68 := Op.move t11
              have e11 : (ac.tmps[11]?).getD undef = .slice (some ⟨bl, ol, none⟩) ps.length cl := ha 11 (by decide)
              obtain ⟨w67, h67, r67⟩ := hp 4 (by decide)
              have e67 : (ac.tmps[67]?).getD undef = .bool false := (ha 67 (by decide)).trans h67
              clear h67
              clear ha hp
              refine Reg.Op1.guarded rfl rfl e67 (fun _ => Reg.Op1.plain rfl ?_) (fun h => absurd rfl h)
              go_wp2
              exact ⟨rfl, hK _ _ rfl (fun j k _ _ => Reg.Adds.refl _ _ _)⟩
            · intro val ac u hR hp ha K hK      -- 6: t69 := Op.move t12
              have e12 : (ac.tmps[12]?).getD undef = .int .i64 j := ha 12 (by decide)
              obtain ⟨w67, h67, r67⟩ := hp 4 (by decide)
              have e67 : (ac.tmps[67]?).getD undef = .bool false := (ha 67 (by decide)).trans h67
              clear h67
              clear ha hp
              refine Reg.Op1.guarded rfl rfl e67 (fun _ => Reg.Op1.plain rfl ?_) (fun h => absurd rfl h)
              go_wp2
              exact ⟨rfl, hK _ _ rfl (fun j k _ _ => Reg.Adds.refl _ _ _)⟩
            · intro val ac u hR hp ha K hK      -- 7: t70 := Op.indexAddr 24 t68 t69
              obtain ⟨w68, h68, r68⟩ := hp 5 (by decide)
              have e68 : (ac.tmps[68]?).getD undef = .slice (some ⟨bl, ol, none⟩) ps.length cl := (ha 68 (by decide)).trans h68
              clear h68
              obtain ⟨w69, h69, r69⟩ := hp 6 (by decide)
              have e69 : (ac.tmps[69]?).getD undef = .int .i64 j := (ha 69 (by decide)).trans h69
              clear h69
              obtain ⟨w67, h67, r67⟩ := hp 4 (by decide)
              have e67 : (ac.tmps[67]?).getD undef = .bool false := (ha 67 (by decide)).trans h67
              clear h67
              clear ha hp
              refine Reg.Op1.guarded rfl rfl e67 (fun _ => Reg.Op1.plain rfl ?_) (fun h => absurd rfl h)
              go_wp2
              exact ⟨rfl, hK _ _ rfl (fun j k _ _ => Reg.Adds.refl _ _ _)⟩
            · intro val ac u hR hp ha K hK      -- 8: t71 := Op.load 33 t70
              obtain ⟨w70, h70, r70⟩ := hp 7 (by decide)
              have e70 : (ac.tmps[70]?).getD undef = .pointer (some ⟨bl, ol + j * 20, none⟩) := (ha 70 (by decide)).trans h70
              clear h70
              obtain ⟨w67, h67, r67⟩ := hp 4 (by decide)
              have e67 : (ac.tmps[67]?).getD undef = .bool false := (ha 67 (by decide)).trans h67
              clear h67
              clear ha hp
              refine Reg.Op1.guarded rfl rfl e67 (fun _ => Reg.Op1.plain rfl ?_) (fun h => absurd rfl h)
              refine Mem.load_agg _ _ entry_agg bl (ol + j * 20) (entCells e) (Reg.eval_of e70) (entCells_length _) (fun q u' hu => (hR.cell (p := ⟨bl, ol + j * 20 + q, none⟩) hbll).trans (HAT2.out.c q u' hu)) ?_
              exact ⟨rfl, hK _ _ rfl (fun j k _ _ => Reg.Adds.refl _ _ _)⟩
            · intro val ac u hR hp ha K hK      -- 9: t72 := Op.move t9
              have e9 : (ac.tmps[9]?).getD undef = .slice (some ⟨b, o, none⟩) hs.length cw := ha 9 (by decide)
              obtain ⟨w67, h67, r67⟩ := hp 4 (by decide)
              have e67 : (ac.tmps[67]?).getD undef = .bool false := (ha 67 (by decide)).trans h67
              clear h67
              clear ha hp
              refine Reg.Op1.guarded rfl rfl e67 (fun _ => Reg.Op1.plain rfl ?_) (fun h => absurd rfl h)
              go_wp2
              exact ⟨rfl, hK _ _ rfl (fun j k _ _ => Reg.Adds.refl _ _ _)⟩
            · intro val ac u hR hp ha K hK      -- 10: t73 := Op.move t13
              have e13 : (ac.tmps[13]?).getD undef = .int .i64 ix := ha 13 (by decide)
              obtain ⟨w67, h67, r67⟩ := hp 4 (by decide)
              have e67 : (ac.tmps[67]?).getD undef = .bool false := (ha 67 (by decide)).trans h67
              clear h67
              clear ha hp
              refine Reg.Op1.guarded rfl rfl e67 (fun _ => Reg.Op1.plain rfl ?_) (fun h => absurd rfl h)
              go_wp2
              exact ⟨rfl, hK _ _ rfl (fun j k _ _ => Reg.Adds.refl _ _ _)⟩
            · intro val ac u hR hp ha K hK      -- 11: t74 := Op.indexAddr 24 t72 t73
              obtain ⟨w72, h72, r72⟩ := hp 9 (by decide)
              have e72 : (ac.tmps[72]?).getD undef = .slice (some ⟨b, o, none⟩) hs.length cw := (ha 72 (by decide)).trans h72
              clear h72
              obtain ⟨w73, h73, r73⟩ := hp 10 (by decide)
              have e73 : (ac.tmps[73]?).getD undef = .int .i64 ix := (ha 73 (by decide)).trans h73
              clear h73
              obtain ⟨w67, h67, r67⟩ := hp 4 (by decide)
              have e67 : (ac.tmps[67]?).getD undef = .bool false := (ha 67 (by decide)).trans h67
              clear h67
              clear ha hp
              refine Reg.Op1.guarded rfl rfl e67 (fun _ => Reg.Op1.plain rfl ?_) (fun h => absurd rfl h)
              go_wp2
              exact ⟨rfl, hK _ _ rfl (fun j k _ _ => Reg.Adds.refl _ _ _)⟩
            · intro val ac u hR hp ha K hK      -- 12: t75 := Op.load 33 t74
              obtain ⟨w74, h74, r74⟩ := hp 11 (by decide)
              have e74 : (ac.tmps[74]?).getD undef = .pointer (some ⟨b, o + ix * 20, none⟩) := (ha 74 (by decide)).trans h74
              clear h74
              obtain ⟨w67, h67, r67⟩ := hp 4 (by decide)
              have e67 : (ac.tmps[67]?).getD undef = .bool false := (ha 67 (by decide)).trans h67
              clear h67
              clear ha hp
              refine Reg.Op1.guarded rfl rfl e67 (fun _ => Reg.Op1.plain rfl ?_) (fun h => absurd rfl h)
              refine Mem.load_agg _ _ entry_agg b (o + ix * 20) (entCells e) (Reg.eval_of e74) (entCells_length _) (fun q u' hu => (hR.cell (p := ⟨b, o + ix * 20 + q, none⟩) hblu).trans (HATu.out.c q u' hu)) ?_
              exact ⟨rfl, hK _ _ rfl (fun j k _ _ => Reg.Adds.refl _ _ _)⟩
            · intro val ac u hR hp ha K hK      -- 13: t76 := Op.binOp BinOp.neq 33 t71 t75 33
              obtain ⟨w71, h71, r71⟩ := hp 8 (by decide)
              have e71 : (ac.tmps[71]?).getD undef = .agg (entCells e).toArray := (ha 71 (by decide)).trans h71
              clear h71
              obtain ⟨w75, h75, r75⟩ := hp 12 (by decide)
              have e75 : (ac.tmps[75]?).getD undef = .agg (entCells e).toArray := (ha 75 (by decide)).trans h75
              clear h75
              obtain ⟨w67, h67, r67⟩ := hp 4 (by decide)
              have e67 : (ac.tmps[67]?).getD undef = .bool false := (ha 67 (by decide)).trans h67
              clear h67
              clear ha hp
              refine Reg.Op1.guarded rfl rfl e67 (fun _ => Reg.Op1.plain rfl ?_) (fun h => absurd rfl h)
              have e1 := E1.out
              go_wp2
              exact ⟨rfl, hK _ _ rfl (fun j k _ _ => Reg.Adds.refl _ _ _)⟩
            · intro val ac u hR hp ha K hK      -- 14: t77 := Op.pick t67 (const (Value.bool true)) t76
              obtain ⟨w67, h67, r67⟩ := hp 4 (by decide)
              have e67 : (ac.tmps[67]?).getD undef = .bool false := (ha 67 (by decide)).trans h67
              clear h67
              obtain ⟨w76, h76, r76⟩ := hp 13 (by decide)
              have e76 : (ac.tmps[76]?).getD undef = .bool false := (ha 76 (by decide)).trans h76
              clear h76
              clear ha hp
              refine Reg.Op1.plain rfl ?_
              go_wp2
              exact ⟨rfl, hK _ _ rfl (fun j k _ _ => Reg.Adds.refl _ _ _)⟩
          · intro val u hR H
            obtain ⟨_, hv, _⟩ := H 14 (by decide)
            have hv : val 14 = .bool false := hv
            have HB9 : Hid (Below w8.heap.size w8 u) := HBu8.out.trans (((Below.refl _ wu).drew.trans hR).mono HBu8.out.size)
            simp only [List.map_cons, List.map_nil, Reg.lay, Act.put, List.setIfInBounds_toArray, List.set_cons_succ, List.set_cons_zero, Nat.reduceAdd, hv]
            clear hR H hv
            go_wp2
            go_roundw
            case rel => exact ⟨⟨ix + 1, j + 1, by omega, HT.out.symm, by go_num, by go_num, HB9⟩⟩
            case measure => simp [intOf]; omega
      · have HT : Hid ((purged vv (hs.take (ix + 1))).length = j) := by show _ = _; rw [purged_snoc HE.out, if_pos (by unfold hasE; exact hhe), HJ.out]; simp
        go_upto_region 16 with fail
        refine Reg.wp_region_rel (by kernel_rfl) 90 7 rfl rfl (by kernel_rfl) (Reg.Adds) (Reg.Adds.refl) (Reg.Adds.trans)
          (fun i v u => match i with
            | 0 => v = .agg (vcCells vv).toArray
            | 1 => v = .slice (some ⟨b, o, none⟩) hs.length cw
            | 2 => v = .int .i64 ix
            | 3 => v = .pointer (some ⟨b, o + ix * 20, none⟩)
            | 4 => v = .pointer (some ⟨b, o + ix * 20, none⟩)
            | 5 => v = .agg (dtCells ⟨e.dc, e.rng, e.seq⟩).toArray
            | 6 => v = .bool true
            | _ => True) ?_ ?_
        · refine Reg.Steps.cons ?_ (Reg.Steps.cons ?_ (Reg.Steps.cons ?_ (Reg.Steps.cons ?_ (Reg.Steps.cons ?_ (Reg.Steps.cons ?_ (Reg.Steps.cons ?_ (Reg.Steps.nil _)))))))
          · intro val ac u hR hp ha K hK      -- 0: t56 := Op.load 27 t5
            have e5 : (ac.tmps[5]?).getD undef = .pointer (some ⟨w.heap.size, 0, none⟩) := ha 5 (by decide)
            clear ha hp
            refine Reg.Op1.plain rfl ?_
            have hVu : VBx u w.heap.size vv := Mem.Bx.below (w := wr.drew) HSr.out.V hR HSr.out.V.lt
            refine Mem.load_agg _ _ vec_agg w.heap.size 0 (vcCells vv) (Reg.eval_of e5) (vcCells_length _) (fun j u' hu => by rw [Nat.zero_add]; exact hVu.cell hu) ?_
            exact ⟨rfl, hK _ _ rfl (fun j k _ _ => Reg.Adds.refl _ _ _)⟩
          · intro val ac u hR hp ha K hK      -- 1: t57 := Op.move t9
            have e9 : (ac.tmps[9]?).getD undef = .slice (some ⟨b, o, none⟩) hs.length cw := ha 9 (by decide)
            clear ha hp
            refine Reg.Op1.plain rfl ?_
            go_wp2
            exact ⟨rfl, hK _ _ rfl (fun j k _ _ => Reg.Adds.refl _ _ _)⟩
          · intro val ac u hR hp ha K hK      -- 2: t58 := Op.move t13
            have e13 : (ac.tmps[13]?).getD undef = .int .i64 ix := ha 13 (by decide)
            clear ha hp
            refine Reg.Op1.plain rfl ?_
            go_wp2
            exact ⟨rfl, hK _ _ rfl (fun j k _ _ => Reg.Adds.refl _ _ _)⟩
          · intro val ac u hR hp ha K hK      -- 3: t59 := Op.indexAddr 24 t57 t58
            obtain ⟨w57, h57, r57⟩ := hp 1 (by decide)
            have e57 : (ac.tmps[57]?).getD undef = .slice (some ⟨b, o, none⟩) hs.length cw := (ha 57 (by decide)).trans h57
            clear h57
            obtain ⟨w58, h58, r58⟩ := hp 2 (by decide)
            have e58 : (ac.tmps[58]?).getD undef = .int .i64 ix := (ha 58 (by decide)).trans h58
            clear h58
            clear ha hp
            refine Reg.Op1.plain rfl ?_
            go_wp2
            exact ⟨rfl, hK _ _ rfl (fun j k _ _ => Reg.Adds.refl _ _ _)⟩
          · intro val ac u hR hp ha K hK      -- 4: t60 := Op.fieldAddr 33 t59 0
            obtain ⟨w59, h59, r59⟩ := hp 3 (by decide)
            have e59 : (ac.tmps[59]?).getD undef = .pointer (some ⟨b, o + ix * 20, none⟩) := (ha 59 (by decide)).trans h59
            clear h59
            clear ha hp
            refine Reg.Op1.plain rfl ?_
            go_wp2
            exact ⟨rfl, hK _ _ rfl (fun j k _ _ => Reg.Adds.refl _ _ _)⟩
          · intro val ac u hR hp ha K hK      -- 5: t61 := Op.load 29 t60
            obtain ⟨w60, h60, r60⟩ := hp 4 (by decide)
            have e60 : (ac.tmps[60]?).getD undef = .pointer (some ⟨b, o + ix * 20, none⟩) := (ha 60 (by decide)).trans h60
            clear h60
            clear ha hp
            refine Reg.Op1.plain rfl ?_
            have z0 := (hR.cell (p := ⟨b, o + ix * 20, none⟩) hbl).trans (HAT.out.c 0 _ rfl)
            have z1 := (hR.cell (p := ⟨b, o + ix * 20 + 1, none⟩) hbl).trans (HAT.out.c 1 _ rfl)
            have z2 := (hR.cell (p := ⟨b, o + ix * 20 + 2, none⟩) hbl).trans (HAT.out.c 2 _ rfl)
            go_wp2
            exact ⟨rfl, hK _ _ rfl (fun j k _ _ => Reg.Adds.refl _ _ _)⟩
          · intro val ac u hR hp ha K hK      -- 6: t62 := Op.call { value (Operand.func 15), args := #[t56, t61], argTypes := #[27, 29] }
            obtain ⟨w56, h56, r56⟩ := hp 0 (by decide)
            have e56 : (ac.tmps[56]?).getD undef = .agg (vcCells vv).toArray := (ha 56 (by decide)).trans h56
            clear h56
            obtain ⟨w61, h61, r61⟩ := hp 5 (by decide)
            have e61 : (ac.tmps[61]?).getD undef = .agg (dtCells ⟨e.dc, e.rng, e.seq⟩).toArray := (ha 61 (by decide)).trans h61
            clear h61
            clear ha hp
            refine Reg.Op1.plain rfl ?_
            go_wp2_with fail
            refine (hasD_any vv ⟨e.dc, e.rng, e.seq⟩ u).mono ?_
            rintro x w' ⟨rfl, hbw⟩
            rw [hhe]
            go_wp2_with fail
            exact ⟨rfl, hK _ _ rfl (fun j k _ _ => hbw)⟩
        · intro val u hR H
          obtain ⟨_, hv, _⟩ := H 6 (by decide)
          have hv : val 6 = .bool true := hv
          have HBu : Hid (Below wr.heap.size wr u) := (Below.refl _ wr).drew.trans hR
          have HSu := Lib.hid (HSr.out.below HBu.out)
          have HBu8 : Hid (Below w8.heap.size w8 u) := HBr.out.trans (HBu.out.mono HBr.out.size)
          simp only [List.map_cons, List.map_nil, Reg.lay, Act.put, List.setIfInBounds_toArray, List.set_cons_succ, List.set_cons_zero, Nat.reduceAdd, hv]
          clear hR H hv
          go_wp2
          go_roundw
          case rel => exact ⟨⟨ix + 1, j, by omega, HT.out.symm, rfl, by go_num, HBu8⟩⟩
          case measure => simp [intOf]; omega
    · obtain rfl : ix = hs.length := by omega
      rw [List.take_length, HPS.out] at hj
      subst hj
      have hpp : purged vv ps = ps := by rw [← HPS.out]; exact purged_twice vv hs
      have dq : ((ps.length : Int) == (ps.length : Int)) = true := by simp
      have h0 : ps.length - ps.length = 0 := by omega
      have HP := Lib.hid (purge_any vv rng gh A5 c5 ps wr HSr.out.H (by omega))
      go_wp2_with (first | ((with_reducible refine Mem.load_aggG _ _ vec_agg w.heap.size 0 (vcCells vv) ?hwv ?hxv (vcCells_length vv) (fun j u hu => by rw [Nat.zero_add]; exact HSr.out.V.cell hu) ?_); ((case hwv => rfl); (case hxv => exact rfl))) | (go_at_call 21; refine HP.out.mono ?_; rintro x w9 ⟨rfl, hA9, hk9⟩; rw [hpp, h0]))
      go_ret
      exact ⟨rfl, (HSr.out.step hA9 hk9 (fun q h => .inl h)).b⟩
set_option maxRecDepth 20000 in
theorem opened {H : Type} (enc : TypeId × Value → H) (W : World) (base : Nat) (v0 v1 v2 : Value) {d0 d1 d2 : DataW H} {p0 p1 p2 : List MemPlace}
    (o0 : Value.okWide Try.prog W .any base 3 v0) (o1 : Value.okWide Try.prog W .any base 24 v1) (o2 : Value.okWide Try.prog W .any base 27 v2)
    (k0 : DataW.Trod enc Try.prog W 0 (fun _ => true) true 3 v0 d0 p0) (k1 : DataW.Trod enc Try.prog W 0 (fun _ => true) true 24 v1 d1 p1) (k2 : DataW.Trod enc Try.prog W 0 (fun _ => true) true 27 v2 d2 p2)
    (z0 : (d0.weights Try.prog 3).all (· ≤ reachBytes) = true) (z1 : (d1.weights Try.prog 24).all (· ≤ reachBytes) = true) (z2 : (d2.weights Try.prog 27).all (· ≤ reachBytes) = true) :
    Calls Try.prog 6 #[v0, v1, v2] W fun e w' => e = .returned (.bool true) ∧ Below W.heap.size W w' := by
  obtain ⟨n, rfl, _⟩ := open_num o0 k0
  obtain ⟨A, c, es, rfl, h1, h2, h3, h4⟩ := open_ents o1 k1 z1
  obtain ⟨v, rfl⟩ := open_vec o2 k2
  exact walk n A c es v W h3 h1 h2 h4
end holdPurgesOpen
end Go.Proofs.Ytgdcfdjfoeoknaa
