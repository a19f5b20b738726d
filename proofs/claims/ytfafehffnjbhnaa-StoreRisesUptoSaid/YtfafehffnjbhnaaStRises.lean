/- The walk of StoreRises. Nothing is asked but what the row's form asks of its arguments. -/
import Derived.Test.YtfafehffnjbhnaaStColl
import Derived.Test.YtfafehffnjbhnaaRefK
set_option maxRecDepth 8000
namespace Go.Proofs.Ytfafehffnjbhnaa
open Go.ChangeShapes Go.WideShapes Go.ChangeAt Go.RowKit
set_option linter.unusedVariables false
set_option linter.unusedSimpArgs false
namespace Sto
open Vec
def cntK (st : List Ls) (ks : List ByteArray) (j : Nat) : Nat := ((ks.take j).map fun q => (vers st q).length).sum
theorem cntK_step {st : List Ls} {ks : List ByteArray} {j : Nat} {q : ByteArray} (h : ks[j]? = some q) : cntK st ks (j + 1) = cntK st ks j + (vers st q).length := by
  unfold cntK
  rw [Mem.take_snoc h, List.map_append, List.sum_append]
  simp
theorem cntK_all {rng : Int} {rs : List LR} (hG : Good rng (states rs)) {ks : List ByteArray} (hk : sortK (rs.map (·.l.k)) = ks) : cntK (states rs) ks ks.length = lenS (states rs) := by
  unfold cntK
  rw [List.take_length, ← hk]
  have h1 : ((sortK (rs.map (·.l.k))).map fun q => (vers (states rs) q).length).Perm ((rs.map (·.l.k)).map fun q => (vers (states rs) q).length) := (sortK_self _).map _
  rw [h1.sum_nat, List.map_map]
  unfold lenS states
  rw [List.map_map]
  congr 1
  refine List.map_congr_left fun r hr => ?_
  have h2 := vers_mem (List.mem_map.2 ⟨r, hr, rfl⟩ : r.l ∈ states rs) hG.kd
  show (vers (List.map (·.l) rs) r.l.k).length = r.l.es.length
  rw [show vers (List.map (·.l) rs) r.l.k = r.l.es from h2]
theorem cntK_le (st : List Ls) (ks : List ByteArray) (j : Nat) : cntK st ks j ≤ cntK st ks ks.length := by
  unfold cntK
  rw [List.take_length]
  conv => rhs; rw [← List.take_append_drop j ks, List.map_append, List.sum_append]
  exact Nat.le_add_right _ _
theorem vers_so {rng : Int} {st : List Ls} (h : Good rng st) (q : ByteArray) : (vers st q).Pairwise fun x y => gtE x y < 0 := by
  rcases vers_cases st q with ⟨l, h1, _, h3⟩ | ⟨h1, _⟩
  · rw [h3]; exact h.so l h1
  · rw [h1]; exact List.Pairwise.nil
theorem vers_up {rng : Int} {st : List Ls} (h : Good rng st) {q : ByteArray} {k : Nat} {x y : Ent} (hx : (vers st q)[k]? = some x) (hy : (vers st q)[k + 1]? = some y) : 0 < gtE y x := by
  rw [gtE_gt]
  obtain ⟨h1, rfl⟩ := List.getElem?_eq_some_iff.1 hx
  obtain ⟨h2, rfl⟩ := List.getElem?_eq_some_iff.1 hy
  exact List.pairwise_iff_getElem.1 (vers_so h q) k (k + 1) h1 h2 (by omega)
theorem asOfL_err (c : Col) (l : List Ent) : (asOfL c l).err = 0 := by
  unfold asOfL
  split <;> rfl
theorem asOfL_step (c : Col) {l : List Ent} {k : Nat} {x : Ent} (h : l[k]? = some x) : asOfL c (l.take (k + 1)).reverse = if under c x = true then ⟨x, true, 0⟩ else asOfL c (l.take k).reverse := by
  rw [Mem.take_snoc h, List.reverse_append]
  show asOfL c (x :: (l.take k).reverse) = _
  unfold asOfL
  rw [List.find?_cons]
  cases under c x <;> rfl
theorem keys_ne {rng : Int} {rs : List LR} (h : Good rng (states rs)) {ks : List ByteArray} (hk : sortK (rs.map (·.l.k)) = ks) : ∀ q ∈ ks, vers (states rs) q ≠ [] := fun q hq => by
  obtain ⟨r, hr, rfl⟩ := List.mem_map.1 ((sortK_self _).subset (hk ▸ hq))
  have h2 := vers_mem (List.mem_map.2 ⟨r, hr, rfl⟩ : r.l ∈ states rs) h.kd
  rw [show vers (states rs) r.l.k = r.l.es from h2]
  exact h.hne r hr
theorem latest_last {st : List Ls} {q : ByteArray} {x : Ent} (h : (vers st q)[(vers st q).length - 1]? = some x) : latest st q = (x, true) := by
  unfold latest last
  rw [List.getLast?_eq_getElem?, h]
structure RiRel (w8 : World) (st : List Ls) (ks : List ByteArray) (v9 v10 : Value) (wr : World) : Prop where
  out : ∃ j n : Nat, j ≤ ks.length ∧ v9 = .int .i64 n ∧ v10 = .int .i64 j ∧ cntK st ks j = n ∧ Hid (Below w8.heap.size w8 wr)
structure WaRel (w14 : World) (gw : Nat) (c : Col) (l : List Ent) (v15 v16 : Value) (wr : World) : Prop where
  out : ∃ k : Nat, k ≤ l.length ∧ v15 = .bool (asOfL c (l.take k).reverse).is ∧ v16 = .int .i64 k ∧ Hid (EBx wr gw (asOfL c (l.take k).reverse).e) ∧ Hid (Mem.Keeps (fun q => q = gw) w14 wr)
end Sto
namespace storeRisesOpen
open Vec Sto
set_option maxRecDepth 20000 in
set_option maxHeartbeats 8000000 in
theorem walk (rng : Int) (A : Option Addr) (c : Nat) (acs : List Ac) (col : Col) (w : World) (hr : Mem.Rd w w.heap.size A (acs.flatMap acCells)) (hd : ∀ a ∈ acs, AcOk w w.heap.size a) (hn : acs.length ≤ 8796093022208) :
    Calls Try.prog 6 #[.int .i64 rng, .slice A acs.length c, Vec.C col] w fun e w' => e = .returned (.bool true) ∧ Below w.heap.size w w' := by
  have HR := Lib.hid hr
  have HD := Lib.hid hd
  clear hr hd
  go_enter Try.func6, Try.ntmps6
  go_upto_region 1 with fail
  refine Reg.wp_gen (fun w0 => CBx w0 w.heap.size col ∧ Below w.heap.size w w0) ⟨?_, ?_⟩ ?_
  · exact Mem.Bx.new w 26 (colCells col).toArray rfl rfl
  · exact Reg.below_new _ _
  rintro w0 ⟨hC0, hb0⟩
  have HC0 := Lib.hid hC0
  have HB0 := Lib.hid hb0
  obtain ⟨gc, hgc⟩ : ∃ gc, w.heap.size = gc := ⟨_, rfl⟩
  rw [hgc] at HC0 ⊢
  clear hC0 hb0
  go_wp2_with fail
  refine (storeAble_any w0).mono ?_
  rintro x w1 ⟨rfl, hb1⟩
  have HB1 : Hid (Below w.heap.size w w1) := HB0.out.trans (hb1.mono HB0.out.size)
  have HC1 : Hid (CBx w1 gc col) := HC0.out.below hb1 HC0.out.lt
  clear hb1 HB0 HC0
  have HMU := Lib.hid (much_any A c acs w1 w1 ((HR.out.below HB1.out).more HB1.out.size) hn (fun a ha => ⟨((HD.out a ha).rd.below HB1.out).more HB1.out.size, (HD.out a ha).len, (HD.out a ha).cap, (HD.out a ha).ein⟩) (Below.refl _ _))
  go_wp2_with fail
  refine HMU.out.mono ?_
  clear HMU
  rintro x w2 ⟨bq, rfl, hbn, hb2⟩
  have HB2 : Hid (Below w.heap.size w w2) := HB1.out.trans (hb2.mono HB1.out.size)
  have HC2 : Hid (CBx w2 gc col) := HC1.out.below hb2 HC1.out.lt
  clear hb2 HB1 HC1
  cases bq
  case true =>
    go_wp2
    go_ret
    exact ⟨rfl, HB2.out⟩
  have hn3 : lenA acs + acs.length ≤ 300 := hbn rfl
  clear hbn
  have HMA := Lib.hid (made_any rng A c acs w2 ((HR.out.below HB2.out).more HB2.out.size) (fun a ha => ⟨((HD.out a ha).rd.below HB2.out).more HB2.out.size, (HD.out a ha).len, (HD.out a ha).cap, (HD.out a ha).ein⟩) hn3)
  go_upto_region 6 with (go_at_call 19; refine HMA.out.mono ?_; clear HMA; rintro x w4 ⟨g, b, mk, rs, rfl, hpa, hlb, hMa, hb4⟩)
  have HM4 := Lib.hid hMa
  have HB4 := Lib.hid hb4
  have hrl : rs.length ≤ 300 := Nat.le_trans (rs_le HM4.out.G.hne) hlb
  have HHB : Hid (lenS (states rs) ≤ 4611686018427387903) := Nat.le_trans hlb (by omega)
  obtain ⟨ks, hks⟩ : ∃ ks, sortK (rs.map (·.l.k)) = ks := ⟨_, rfl⟩
  have hkl : ks.length = rs.length := by rw [← hks, keys_length]
  have HOK := Lib.hid (okS_vers HM4.out.G hks)
  have HNE := Lib.hid (keys_ne HM4.out.G hks)
  have HCN := Lib.hid (cntK_all HM4.out.G hks)
  have HKY := Lib.hid (storeKeys_any HM4.out.S (by omega))
  rw [hks, ← hkl] at HKY
  have hkl3 : ks.length ≤ 300 := by omega
  have HLE : Hid (∀ j, cntK (states rs) ks j ≤ 300) := fun j => Nat.le_trans (cntK_le _ _ _) (by rw [HCN.out]; exact hlb)
  have HES : Hid (∀ r ∈ rs, r.l.es.length ≤ 300) := fun r hr => by have := ls_le hr; omega
  have HVL : Hid (∀ q, (vers (states rs) q).length ≤ 300) := fun q => Nat.le_trans (vers_len _ _) hlb
  have HLB := Lib.hid hlb
  clear hpa hMa hb4 hks hkl hrl hlb
  go_upto_region 7 with (go_at_call 16; refine HKY.out.mono ?_; clear HKY; rintro x w8 ⟨Ak, ck, rfl, hO8, hF8, hb8⟩)
  have HM8 := Lib.hid (HM4.out.below hb8)
  have HB8 : Hid (Below w2.heap.size w2 w8) := HB4.out.trans (hb8.mono HB4.out.size)
  have HK8 := Lib.hid hO8
  have HC8 : Hid (CBx w8 gc col) := HC2.out.below HB8.out HC2.out.lt
  clear hO8 hF8 hb8 HM4 HB4 HC2
  go_wp2
  go_loopw [9, 10] (RiRel w8 (states rs) ks) (fun _ t _ => ks.length - (intOf t).toNat)
  case atStart => exact ⟨⟨0, 0, by omega, rfl, rfl, rfl, Below.refl _ _⟩⟩
  case round =>
    obtain ⟨j, nn, hj, rfl, rfl, hnn, HBr⟩ := hrel.out
    clear hrel
    have hnl : nn ≤ 300 := by rw [← hnn]; exact HLE.out j
    by_cases hlj : j < ks.length
    · obtain ⟨wa, hwa⟩ : ∃ z, z = wr := ⟨_, rfl⟩
      subst hwa
      have HMr := Lib.hid (HM8.out.below HBr.out)
      have HKr : Hid (Mem.Own wa 9 1 Ak ks.length ck (ks.map Value.string)) := HK8.out.below HBr.out (fun k hk => HK8.out.lt hk)
      have HCr : Hid (CBx wa gc col) := HC8.out.below HBr.out HC8.out.lt
      obtain ⟨bk, ok, hAk⟩ := HKr.out.form (by omega)
      subst hAk
      obtain ⟨q, hq⟩ : ∃ q, ks[j]? = some q := ⟨_, List.getElem?_eq_getElem hlj⟩
      have x1 : wa.cell? ⟨bk, ok + j, none⟩ = some (.string q) := HKr.out.cell (j := j) (u := .string q) (by rw [List.getElem?_map, hq]; rfl)
      have hbk : bk < wa.heap.size := HKr.out.lt rfl
      have HFPA : Hid (∀ k, fpS g b rs k → k < wa.heap.size) := fun k hk => HMr.out.S.lt hk
      have HQK := Lib.hid (HOK.out q (List.mem_of_getElem? hq))
      have hne := HNE.out q (List.mem_of_getElem? hq)
      have hcs := cntK_step (st := states rs) hq
      have HVE := Lib.hid (storeVersions_any HMr.out.S HQK.out HES.out)
      obtain ⟨l, hl⟩ : ∃ l, vers (states rs) q = l := ⟨_, rfl⟩
      have hll : l.length ≤ 300 := by rw [← hl]; exact HVL.out q
      rw [hl] at HVE hne hcs
      rw [hnn] at hcs
      have HCS := Lib.hid hcs
      have hlp : 0 < l.length := List.length_pos_iff.2 hne
      obtain ⟨lm, hlm⟩ : ∃ lm, l.length - 1 = lm := ⟨_, rfl⟩
      have hlml : lm < l.length := by omega
      obtain ⟨xl, hxl⟩ : ∃ xl, l[lm]? = some xl := ⟨_, List.getElem?_eq_getElem hlml⟩
      have HLT : Hid (latest (states rs) q = (xl, true)) := latest_last (by rw [hl, hlm]; exact hxl)
      have HXL := Lib.hid hxl
      have hwl : IntKind.i64.wrap ((l.length : Int) - 1) = (lm : Int) := by rw [IntWalk.i64_in _ (by omega)]; omega
      have HWL := Lib.hid hwl
      have HOKX : Hid (∀ x ∈ l, rightE x = true ∧ x.rng = rng ∧ x.key = q) := fun x hx => HMr.out.G.vers_ok (hl ▸ hx)
      have HUP : Hid (∀ k x y, l[k]? = some x → l[k + 1]? = some y → 0 < gtE y x) := fun k x y h1 h2 => vers_up HMr.out.G (by rw [hl]; exact h1) (by rw [hl]; exact h2)
      have HVQ := Lib.hid hl
      have hn2 : nn + l.length ≤ 300 := by rw [← hcs]; exact HLE.out (j + 1)
      clear hq hl hcs hxl hwl hlm hnn hne
      go_upto_region 13 with (go_at_call 15; refine HVE.out.mono ?_; clear HVE; rintro x9 w9 ⟨Al, cl, rfl, hO9, hF9, hb9⟩)
      obtain ⟨b2, o2, hAl⟩ := hO9.form hlp
      subst hAl
      have hF2 : wa.heap.size ≤ b2 := hF9.blk b2 rfl
      have HM9 := Lib.hid (HMr.out.below hb9)
      have HO9 := Lib.hid hO9
      have HBw9 := Lib.hid hb9
      have x2 : w9.cell? ⟨bk, ok + j, none⟩ = some (.string q) := (hb9.cell (p := ⟨bk, ok + j, none⟩) hbk).trans x1
      clear hO9 hF9 hb9 x1 HMr HKr
      have HWA := Lib.hid (storeLatest_any HM9.out.S HQK.out HM9.out.G.hne)
      rw [HLT.out] at HWA
      dsimp only at HWA
      go_upto_region 14 with (first | (go_at_call 21; refine HWA.out.mono ?_; rintro x wx ⟨rfl, hbx⟩) | ((with_reducible refine Mem.store_agg _ _ entry_agg wx.heap.size (entCells ent0) (entCells xl) ?hx14 ?hy14 ?hb14 (entCells_length _) (ent_one xl) ?_); ((case hx14 => exact rfl); (case hy14 => exact rfl); (case hb14 => exact Mem.Bx.new wx _ (entCells ent0).toArray rfl rfl); intro wb hbn hkn hsn)))
      have hbz : Below wx.heap.size wx wb := (hkn.newBox rfl).belowAll
      have HBwb : Hid (Below w9.heap.size w9 wb) := hbx.trans (hbz.mono hbx.size)
      have HEwb : Hid (EBx wb wx.heap.size xl) := hbn
      obtain ⟨ge, hge⟩ : ∃ ge, wx.heap.size = ge := ⟨_, rfl⟩
      rw [hge] at HEwb ⊢
      have hgwb : w9.heap.size ≤ ge := by rw [← hge]; exact hbx.size
      clear hbn hkn hsn hbz hbx hge HWA
      have HOB : Hid (EOwn wb (some ⟨b2, o2, none⟩) cl l) := HO9.out.below HBwb.out (fun k hk => HO9.out.lt hk)
      have x3 : wb.cell? ⟨bk, ok + j, none⟩ = some (.string q) := (HBwb.out.cell (p := ⟨bk, ok + j, none⟩) (Nat.lt_of_lt_of_le hbk HBw9.out.size)).trans x2
      have HMB := Lib.hid (HM9.out.below HBwb.out)
      have HBB : Hid (Below wa.heap.size wa wb) := HBw9.out.trans (HBwb.out.mono HBw9.out.size)
      have X3 := Lib.hid x3
      have hb2b : b2 < wb.heap.size := HOB.out.lt rfl
      have HATL : Hid (EntAt wb b2 (o2 + lm * 20) xl) := by
        obtain ⟨b9, o9, e9, h1, h2, h3, h4⟩ := ent_elem HOB.out.rd (k := lm) hlml
        cases h1
        rw [HXL.out] at h3
        cases h3
        exact h4
      have hl0 : ((l.length : Int) == 0) = false := by rw [beq_eq_false_iff_ne]; omega
      have HL0 := Lib.hid hl0
      clear x2 x3 HO9 HM9 HBw9 hl0 HLT
      refine Reg.wp_region_rel (by kernel_rfl) 183 17 rfl rfl (by kernel_rfl) (Reg.Adds) (Reg.Adds.refl) (Reg.Adds.trans)
        (fun i v u => match i with
          | 0 => v = .slice (some ⟨b2, o2, none⟩) l.length cl
          | 1 => v = .int .i64 ((l.length : Nat) : Int)
          | 2 => v = .bool false
          | 3 => v = .bool false
          | 4 => v = .bool true
          | 5 => v = .bool false
          | 6 => v = .bool false
          | 7 => v = .bool false
          | 8 => v = .agg (entCells xl).toArray
          | 9 => v = .slice (some ⟨b2, o2, none⟩) l.length cl
          | 10 => v = .slice (some ⟨b2, o2, none⟩) l.length cl
          | 11 => v = .int .i64 ((l.length : Nat) : Int)
          | 12 => v = .int .i64 (lm : Nat)
          | 13 => v = .pointer (some ⟨b2, o2 + lm * 20, none⟩)
          | 14 => v = .agg (entCells xl).toArray
          | 15 => v = .bool false
          | 16 => v = .bool false
          | _ => True) ?_ ?_
      · refine Reg.Steps.cons ?_ (Reg.Steps.cons ?_ (Reg.Steps.cons ?_ (Reg.Steps.cons ?_ (Reg.Steps.cons ?_ (Reg.Steps.cons ?_ (Reg.Steps.cons ?_ (Reg.Steps.cons ?_ (Reg.Steps.cons ?_ (Reg.Steps.cons ?_ (Reg.Steps.cons ?_ (Reg.Steps.cons ?_ (Reg.Steps.cons ?_ (Reg.Steps.cons ?_ (Reg.Steps.cons ?_ (Reg.Steps.cons ?_ (Reg.Steps.cons ?_ (Reg.Steps.nil _)))))))))))))))))
        · intro val ac u hR hp ha K hK      -- 0: t55 := Op.move t11
          have e11 : (ac.tmps[11]?).getD undef = .slice (some ⟨b2, o2, none⟩) l.length cl := ha 11 (by decide)
          clear ha hp
          refine Reg.Op1.plain rfl ?_
          go_wp2
          exact ⟨rfl, hK _ _ rfl (fun j k _ _ => Reg.Adds.refl _ _ _)⟩
        · intro val ac u hR hp ha K hK      -- 1: t56 := Op.call { builtin len, args := #[t55], argTypes := #[22] }
          obtain ⟨w55, h55, r55⟩ := hp 0 (by decide)
          have e55 : (ac.tmps[55]?).getD undef = .slice (some ⟨b2, o2, none⟩) l.length cl := (ha 55 (by decide)).trans h55
          clear h55
          clear ha hp
          refine Reg.Op1.plain rfl ?_
          go_wp2
          exact ⟨rfl, hK _ _ rfl (fun j k _ _ => Reg.Adds.refl _ _ _)⟩
        · intro val ac u hR hp ha K hK      -- 2: t57 := Op.binOp BinOp.eql 3 t56 (const (0:i64)) 3
          obtain ⟨w56, h56, r56⟩ := hp 1 (by decide)
          have e56 : (ac.tmps[56]?).getD undef = .int .i64 ((l.length : Nat) : Int) := (ha 56 (by decide)).trans h56
          clear h56
          clear ha hp
          have hl0 := HL0.out
          refine Reg.Op1.plain rfl ?_
          go_wp2
          exact ⟨rfl, hK _ _ rfl (fun j k _ _ => Reg.Adds.refl _ _ _)⟩
        · intro val ac u hR hp ha K hK      -- 3: t58 := Op.move t57
          obtain ⟨w57, h57, r57⟩ := hp 2 (by decide)
          have e57 : (ac.tmps[57]?).getD undef = .bool false := (ha 57 (by decide)).trans h57
          clear h57
          clear ha hp
          refine Reg.Op1.plain rfl ?_
          go_wp2
          exact ⟨rfl, hK _ _ rfl (fun j k _ _ => Reg.Adds.refl _ _ _)⟩
        · intro val ac u hR hp ha K hK      -- 4: t59 := Op.move t13
          have e13 : (ac.tmps[13]?).getD undef = .bool true := ha 13 (by decide)
          obtain ⟨w58, h58, r58⟩ := hp 3 (by decide)
          have e58 : (ac.tmps[58]?).getD undef = .bool false := (ha 58 (by decide)).trans h58
          clear h58
          clear ha hp
          refine Reg.Op1.guarded rfl rfl e58 (fun _ => Reg.Op1.plain rfl ?_) (fun h => absurd rfl h)
          go_wp2
          exact ⟨rfl, hK _ _ rfl (fun j k _ _ => Reg.Adds.refl _ _ _)⟩
        · intro val ac u hR hp ha K hK      -- 5: t60 := Op.unOp UnOp.not 4 t59
          obtain ⟨w59, h59, r59⟩ := hp 4 (by decide)
          have e59 : (ac.tmps[59]?).getD undef = .bool true := (ha 59 (by decide)).trans h59
          clear h59
          obtain ⟨w58, h58, r58⟩ := hp 3 (by decide)
          have e58 : (ac.tmps[58]?).getD undef = .bool false := (ha 58 (by decide)).trans h58
          clear h58
          clear ha hp
          refine Reg.Op1.guarded rfl rfl e58 (fun _ => Reg.Op1.plain rfl ?_) (fun h => absurd rfl h)
          go_wp2
          exact ⟨rfl, hK _ _ rfl (fun j k _ _ => Reg.Adds.refl _ _ _)⟩
        · intro val ac u hR hp ha K hK      -- 6: t61 := Op.pick t58 (const (Value.bool true)) t60
          obtain ⟨w58, h58, r58⟩ := hp 3 (by decide)
          have e58 : (ac.tmps[58]?).getD undef = .bool false := (ha 58 (by decide)).trans h58
          clear h58
          obtain ⟨w60, h60, r60⟩ := hp 5 (by decide)
          have e60 : (ac.tmps[60]?).getD undef = .bool false := (ha 60 (by decide)).trans h60
          clear h60
          clear ha hp
          refine Reg.Op1.plain rfl ?_
          go_wp2
          exact ⟨rfl, hK _ _ rfl (fun j k _ _ => Reg.Adds.refl _ _ _)⟩
        · intro val ac u hR hp ha K hK      -- 7: t62 := Op.move t61
          obtain ⟨w61, h61, r61⟩ := hp 6 (by decide)
          have e61 : (ac.tmps[61]?).getD undef = .bool false := (ha 61 (by decide)).trans h61
          clear h61
          clear ha hp
          refine Reg.Op1.plain rfl ?_
          go_wp2
          exact ⟨rfl, hK _ _ rfl (fun j k _ _ => Reg.Adds.refl _ _ _)⟩
        · intro val ac u hR hp ha K hK      -- 8: t63 := Op.load 40 t12
          have e12 : (ac.tmps[12]?).getD undef = .pointer (some ⟨ge, 0, none⟩) := ha 12 (by decide)
          obtain ⟨w62, h62, r62⟩ := hp 7 (by decide)
          have e62 : (ac.tmps[62]?).getD undef = .bool false := (ha 62 (by decide)).trans h62
          clear h62
          clear ha hp
          refine Reg.Op1.guarded rfl rfl e62 (fun _ => Reg.Op1.plain rfl ?_) (fun h => absurd rfl h)
          have hEu : EBx u ge xl := Mem.Bx.below (w := wb.drew) HEwb.out hR HEwb.out.lt
          refine Mem.load_aggG _ _ entry_agg ge 0 (entCells xl) (by simp [Region.wanted]) (Reg.eval_of e12) (entCells_length _) (fun j u' hu => by rw [Nat.zero_add]; exact hEu.cell hu) ?_
          exact ⟨rfl, hK _ _ rfl (fun j k _ _ => Reg.Adds.refl _ _ _)⟩
        · intro val ac u hR hp ha K hK      -- 9: t64 := Op.move t11
          have e11 : (ac.tmps[11]?).getD undef = .slice (some ⟨b2, o2, none⟩) l.length cl := ha 11 (by decide)
          obtain ⟨w62, h62, r62⟩ := hp 7 (by decide)
          have e62 : (ac.tmps[62]?).getD undef = .bool false := (ha 62 (by decide)).trans h62
          clear h62
          clear ha hp
          refine Reg.Op1.guarded rfl rfl e62 (fun _ => Reg.Op1.plain rfl ?_) (fun h => absurd rfl h)
          go_wp2
          exact ⟨rfl, hK _ _ rfl (fun j k _ _ => Reg.Adds.refl _ _ _)⟩
        · intro val ac u hR hp ha K hK      -- 10: t65 := Op.move t11
          have e11 : (ac.tmps[11]?).getD undef = .slice (some ⟨b2, o2, none⟩) l.length cl := ha 11 (by decide)
          obtain ⟨w62, h62, r62⟩ := hp 7 (by decide)
          have e62 : (ac.tmps[62]?).getD undef = .bool false := (ha 62 (by decide)).trans h62
          clear h62
          clear ha hp
          refine Reg.Op1.guarded rfl rfl e62 (fun _ => Reg.Op1.plain rfl ?_) (fun h => absurd rfl h)
          go_wp2
          exact ⟨rfl, hK _ _ rfl (fun j k _ _ => Reg.Adds.refl _ _ _)⟩
        · intro val ac u hR hp ha K hK      -- 11: t66 := Op.call { builtin len, args := #[t65], argTypes := #[22] }
          obtain ⟨w65, h65, r65⟩ := hp 10 (by decide)
          have e65 : (ac.tmps[65]?).getD undef = .slice (some ⟨b2, o2, none⟩) l.length cl := (ha 65 (by decide)).trans h65
          clear h65
          obtain ⟨w62, h62, r62⟩ := hp 7 (by decide)
          have e62 : (ac.tmps[62]?).getD undef = .bool false := (ha 62 (by decide)).trans h62
          clear h62
          clear ha hp
          refine Reg.Op1.guarded rfl rfl e62 (fun _ => Reg.Op1.plain rfl ?_) (fun h => absurd rfl h)
          go_wp2
          exact ⟨rfl, hK _ _ rfl (fun j k _ _ => Reg.Adds.refl _ _ _)⟩
        · intro val ac u hR hp ha K hK      -- 12: t67 := Op.binOp BinOp.sub 3 t66 (const (1:i64)) 3
          obtain ⟨w66, h66, r66⟩ := hp 11 (by decide)
          have e66 : (ac.tmps[66]?).getD undef = .int .i64 ((l.length : Nat) : Int) := (ha 66 (by decide)).trans h66
          clear h66
          obtain ⟨w62, h62, r62⟩ := hp 7 (by decide)
          have e62 : (ac.tmps[62]?).getD undef = .bool false := (ha 62 (by decide)).trans h62
          clear h62
          clear ha hp
          have hwl := HWL.out
          refine Reg.Op1.guarded rfl rfl e62 (fun _ => Reg.Op1.plain rfl ?_) (fun h => absurd rfl h)
          go_wp2
          exact ⟨rfl, hK _ _ rfl (fun j k _ _ => Reg.Adds.refl _ _ _)⟩
        · intro val ac u hR hp ha K hK      -- 13: t68 := Op.indexAddr 22 t64 t67
          obtain ⟨w64, h64, r64⟩ := hp 9 (by decide)
          have e64 : (ac.tmps[64]?).getD undef = .slice (some ⟨b2, o2, none⟩) l.length cl := (ha 64 (by decide)).trans h64
          clear h64
          obtain ⟨w67, h67, r67⟩ := hp 12 (by decide)
          have e67 : (ac.tmps[67]?).getD undef = .int .i64 (lm : Nat) := (ha 67 (by decide)).trans h67
          clear h67
          obtain ⟨w62, h62, r62⟩ := hp 7 (by decide)
          have e62 : (ac.tmps[62]?).getD undef = .bool false := (ha 62 (by decide)).trans h62
          clear h62
          clear ha hp
          refine Reg.Op1.guarded rfl rfl e62 (fun _ => Reg.Op1.plain rfl ?_) (fun h => absurd rfl h)
          go_wp2
          exact ⟨rfl, hK _ _ rfl (fun j k _ _ => Reg.Adds.refl _ _ _)⟩
        · intro val ac u hR hp ha K hK      -- 14: t69 := Op.load 40 t68
          obtain ⟨w68, h68, r68⟩ := hp 13 (by decide)
          have e68 : (ac.tmps[68]?).getD undef = .pointer (some ⟨b2, o2 + lm * 20, none⟩) := (ha 68 (by decide)).trans h68
          clear h68
          obtain ⟨w62, h62, r62⟩ := hp 7 (by decide)
          have e62 : (ac.tmps[62]?).getD undef = .bool false := (ha 62 (by decide)).trans h62
          clear h62
          clear ha hp
          refine Reg.Op1.guarded rfl rfl e62 (fun _ => Reg.Op1.plain rfl ?_) (fun h => absurd rfl h)
          refine Mem.load_aggG _ _ entry_agg b2 (o2 + lm * 20) (entCells xl) (by simp [Region.wanted]) (Reg.eval_of e68) (entCells_length _) (fun q u' hu => (hR.cell (p := ⟨b2, o2 + lm * 20 + q, none⟩) hb2b).trans (HATL.out.c q u' hu)) ?_
          exact ⟨rfl, hK _ _ rfl (fun j k _ _ => Reg.Adds.refl _ _ _)⟩
        · intro val ac u hR hp ha K hK      -- 15: t70 := Op.binOp BinOp.neq 40 t63 t69 40
          obtain ⟨w63, h63, r63⟩ := hp 8 (by decide)
          have e63 : (ac.tmps[63]?).getD undef = .agg (entCells xl).toArray := (ha 63 (by decide)).trans h63
          clear h63
          obtain ⟨w69, h69, r69⟩ := hp 14 (by decide)
          have e69 : (ac.tmps[69]?).getD undef = .agg (entCells xl).toArray := (ha 69 (by decide)).trans h69
          clear h69
          obtain ⟨w62, h62, r62⟩ := hp 7 (by decide)
          have e62 : (ac.tmps[62]?).getD undef = .bool false := (ha 62 (by decide)).trans h62
          clear h62
          clear ha hp
          have e1 : ∀ W, (binOp .neq 40 (.agg (entCells xl).toArray) (.agg (entCells xl).toArray)).run Try.prog W = .ok (.bool false) W := fun W => by rw [neq_ent, eqEnt_iff.2 rfl]; rfl
          refine Reg.Op1.guarded rfl rfl e62 (fun _ => Reg.Op1.plain rfl ?_) (fun h => absurd rfl h)
          go_wp2
          exact ⟨rfl, hK _ _ rfl (fun j k _ _ => Reg.Adds.refl _ _ _)⟩
        · intro val ac u hR hp ha K hK      -- 16: t71 := Op.pick t62 (const (Value.bool true)) t70
          obtain ⟨w62, h62, r62⟩ := hp 7 (by decide)
          have e62 : (ac.tmps[62]?).getD undef = .bool false := (ha 62 (by decide)).trans h62
          clear h62
          obtain ⟨w70, h70, r70⟩ := hp 15 (by decide)
          have e70 : (ac.tmps[70]?).getD undef = .bool false := (ha 70 (by decide)).trans h70
          clear h70
          clear ha hp
          refine Reg.Op1.plain rfl ?_
          go_wp2
          exact ⟨rfl, hK _ _ rfl (fun j k _ _ => Reg.Adds.refl _ _ _)⟩
      intro val u hR H
      obtain ⟨_, hv, _⟩ := H 16 (by decide)
      have hv : val 16 = .bool false := hv
      have HBc : Hid (Below wb.heap.size wb u) := (Below.refl _ wb).drew.trans hR
      simp only [List.map_cons, List.map_nil, Reg.lay, Act.put, List.setIfInBounds_toArray, List.set_cons_succ, List.set_cons_zero, Nat.reduceAdd, hv]
      clear hR H hv
      obtain ⟨wc, hwc⟩ : ∃ z, z = u := ⟨_, rfl⟩
      subst hwc
      clear HATL HEwb HWL HL0 HXL
      go_upto_region 17 with ((with_reducible refine Mem.store_agg _ _ entry_agg wc.heap.size (entCells ent0) (entCells ent0) ?hxw ?hyw ?hbw (entCells_length _) (ent_one ent0) ?_); ((case hxw => exact rfl); (case hyw => exact rfl); (case hbw => exact Mem.Bx.new wc _ (entCells ent0).toArray rfl rfl); intro w14 hbn hkn hsn))
      have hbz : Below wc.heap.size wc w14 := (hkn.newBox rfl).belowAll
      have HW14 : Hid (EBx w14 wc.heap.size ent0) := hbn
      obtain ⟨gw, hgw⟩ : ∃ gw, wc.heap.size = gw := ⟨_, rfl⟩
      rw [hgw] at HW14 ⊢
      have HBD : Hid (Below wb.heap.size wb w14) := HBc.out.trans (hbz.mono HBc.out.size)
      have hbg : wb.heap.size ≤ gw := by rw [← hgw]; exact HBc.out.size
      have HO14 : Hid (EOwn w14 (some ⟨b2, o2, none⟩) cl l) := HOB.out.below HBD.out (fun k hk => HOB.out.lt hk)
      have HM14 := Lib.hid (HMB.out.below HBD.out)
      have HB14 : Hid (Below wa.heap.size wa w14) := HBB.out.trans (HBD.out.mono HBB.out.size)
      have HC14 : Hid (CBx w14 gc col) := HCr.out.below HB14.out HCr.out.lt
      have X14 : Hid (w14.cell? ⟨bk, ok + j, none⟩ = some (.string q)) := (HBD.out.cell (p := ⟨bk, ok + j, none⟩) (Nat.lt_of_lt_of_le hbk HBB.out.size)).trans X3.out
      have hbk14 : bk < w14.heap.size := Nat.lt_of_lt_of_le hbk HB14.out.size
      have hagw : wa.heap.size ≤ gw := Nat.le_trans HBB.out.size hbg
      have hgcw : gc < wa.heap.size := HCr.out.lt
      have hbne : ¬ b2 = gw := by omega
      have hfg : ∀ k, fpS g b rs k → ¬ k = gw := fun k hk h => by have := HMB.out.S.lt hk; omega
      have HFG := Lib.hid hfg
      clear hbn hkn hsn hbz hgw HBc HOB HMB HBB HBD HCr X3 hfg HBwb hgwb
      go_wp2
      go_loopw [15, 16] (WaRel w14 gw col l) (fun _ t _ => l.length - (intOf t).toNat)
      case atStart => exact ⟨⟨0, by omega, rfl, rfl, HW14, Mem.Keeps.refl _ _⟩⟩
      case round =>
        obtain ⟨k, hk, rfl, rfl, HWm, HKW⟩ := hrel.out
        clear hrel HW14
        by_cases hlk : k < l.length
        · have HOr : Hid (EOwn wr (some ⟨b2, o2, none⟩) cl l) := HO14.out.keeps HKW.out (fun k hk h => by cases hk; exact hbne h)
          obtain ⟨x, hx, HATX, hb2r⟩ : ∃ x, l[k]? = some x ∧ Hid (EntAt wr b2 (o2 + k * 20) x) ∧ b2 < wr.heap.size := by
            obtain ⟨b9, o9, e9, h1, h2, h3, h4⟩ := ent_elem HOr.out.rd hlk
            cases h1
            exact ⟨e9, h3, h4, h2⟩
          have hst := asOfL_step col hx
          obtain ⟨ao, hao⟩ : ∃ ao, asOfL col (l.take k).reverse = ao := ⟨_, rfl⟩
          rw [hao] at hst HWm ⊢
          have HST := Lib.hid hst
          obtain ⟨m, hm⟩ : ∃ m, ao.e = m := ⟨_, rfl⟩
          obtain ⟨hxr, hxn, hxk⟩ := HOKX.out x (List.mem_of_getElem? hx)
          have HXR := Lib.hid hxn
          have HKD : Hid ((x.key.toList == q.toList) = true) := str_eq hxk
          have hdd : x.dc = 0 ∨ x.dc = 1 ∨ x.dc = 2 := by
            unfold rightE Vec.g1 chain at hxr
            simp only [Bool.and_eq_true, decide_eq_true_eq] at hxr
            omega
          have HCr : Hid (CBx wr gc col) := HC14.out.keeps HKW.out (by omega)
          have XKR : Hid (wr.cell? ⟨bk, ok + j, none⟩ = some (.string q)) := (HKW.out.cell (p := ⟨bk, ok + j, none⟩) hbk14 (by show ¬ bk = gw; omega)).trans X14.out
          have hbkr : bk < wr.heap.size := Nat.lt_of_lt_of_le hbk14 HKW.out.size
          have hmq := hm
          rw [hm] at HWm
          clear hst hao hxr hxn hxk hm
          have HMQ := Lib.hid hmq
          clear hmq
          go_upto_region 20 with fail
          by_cases hk0 : k = 0
          · have HYP : Hid True := trivial
            have hdk : decide (0 < k) = false := decide_eq_false (by omega)
            clear hk0
            refine Reg.wp_region_rel (by kernel_rfl) 183 37 rfl rfl (by kernel_rfl) (Reg.Adds) (Reg.Adds.refl) (Reg.Adds.trans)
              (fun i v u => match i with
                | 0 => v = .slice (some ⟨b2, o2, none⟩) l.length cl
                | 1 => v = .int .i64 k
                | 2 => v = .pointer (some ⟨b2, o2 + k * 20, none⟩)
                | 3 => v = .pointer (some ⟨b2, o2 + k * 20 + 6, none⟩)
                | 4 => v = .string x.key
                | 5 => v = .slice (some ⟨bk, ok, none⟩) ks.length ck
                | 6 => v = .int .i64 j
                | 7 => v = .pointer (some ⟨bk, ok + j, none⟩)
                | 8 => v = .string q
                | 9 => v = .bool false
                | 10 => v = .bool false
                | 11 => v = .slice (some ⟨b2, o2, none⟩) l.length cl
                | 12 => v = .int .i64 k
                | 13 => v = .pointer (some ⟨b2, o2 + k * 20, none⟩)
                | 14 => v = .pointer (some ⟨b2, o2 + k * 20, none⟩)
                | 15 => v = .pointer (some ⟨b2, o2 + k * 20 + 1, none⟩)
                | 16 => v = .int .i64 rng
                | 17 => v = .int .i64 rng
                | 18 => v = .bool false
                | 19 => v = .bool false
                | 20 => v = .bool false
                | 21 => v = .int .i64 k
                | 22 => v = .bool false
                | 23 => v = .bool false
                | 24 => v = undef
                | 25 => v = undef
                | 26 => v = undef
                | 27 => v = undef
                | 28 => v = undef
                | 29 => v = undef
                | 30 => v = undef
                | 31 => v = undef
                | 32 => v = undef
                | 33 => v = undef
                | 34 => v = undef
                | 35 => v = .bool false
                | 36 => v = .bool false
                | _ => True) ?_ ?_
            · refine Reg.Steps.cons ?_ (Reg.Steps.cons ?_ (Reg.Steps.cons ?_ (Reg.Steps.cons ?_ (Reg.Steps.cons ?_ (Reg.Steps.cons ?_ (Reg.Steps.cons ?_ (Reg.Steps.cons ?_ (Reg.Steps.cons ?_ (Reg.Steps.cons ?_ (Reg.Steps.cons ?_ (Reg.Steps.cons ?_ (Reg.Steps.cons ?_ (Reg.Steps.cons ?_ (Reg.Steps.cons ?_ (Reg.Steps.cons ?_ (Reg.Steps.cons ?_ (Reg.Steps.cons ?_ (Reg.Steps.cons ?_ (Reg.Steps.cons ?_ (Reg.Steps.cons ?_ (Reg.Steps.cons ?_ (Reg.Steps.cons ?_ (Reg.Steps.cons ?_ (Reg.Steps.cons ?_ (Reg.Steps.cons ?_ (Reg.Steps.cons ?_ (Reg.Steps.cons ?_ (Reg.Steps.cons ?_ (Reg.Steps.cons ?_ (Reg.Steps.cons ?_ (Reg.Steps.cons ?_ (Reg.Steps.cons ?_ (Reg.Steps.cons ?_ (Reg.Steps.cons ?_ (Reg.Steps.cons ?_ (Reg.Steps.cons ?_ (Reg.Steps.nil _)))))))))))))))))))))))))))))))))))))
              · intro val ac u hR hp ha K hK      -- 0: t79 := Op.move t11
                have e11 : (ac.tmps[11]?).getD undef = .slice (some ⟨b2, o2, none⟩) l.length cl := ha 11 (by decide)
                clear ha hp
                refine Reg.Op1.plain rfl ?_
                go_wp2
                exact ⟨rfl, hK _ _ rfl (fun j k _ _ => Reg.Adds.refl _ _ _)⟩
              · intro val ac u hR hp ha K hK      -- 1: t80 := Op.move t16
                have e16 : (ac.tmps[16]?).getD undef = .int .i64 k := ha 16 (by decide)
                clear ha hp
                refine Reg.Op1.plain rfl ?_
                go_wp2
                exact ⟨rfl, hK _ _ rfl (fun j k _ _ => Reg.Adds.refl _ _ _)⟩
              · intro val ac u hR hp ha K hK      -- 2: t81 := Op.indexAddr 22 t79 t80
                obtain ⟨w79, h79, r79⟩ := hp 0 (by decide)
                have e79 : (ac.tmps[79]?).getD undef = .slice (some ⟨b2, o2, none⟩) l.length cl := (ha 79 (by decide)).trans h79
                clear h79
                obtain ⟨w80, h80, r80⟩ := hp 1 (by decide)
                have e80 : (ac.tmps[80]?).getD undef = .int .i64 k := (ha 80 (by decide)).trans h80
                clear h80
                clear ha hp
                refine Reg.Op1.plain rfl ?_
                go_wp2
                exact ⟨rfl, hK _ _ rfl (fun j k _ _ => Reg.Adds.refl _ _ _)⟩
              · intro val ac u hR hp ha K hK      -- 3: t82 := Op.fieldAddr 40 t81 2
                obtain ⟨w81, h81, r81⟩ := hp 2 (by decide)
                have e81 : (ac.tmps[81]?).getD undef = .pointer (some ⟨b2, o2 + k * 20, none⟩) := (ha 81 (by decide)).trans h81
                clear h81
                clear ha hp
                refine Reg.Op1.plain rfl ?_
                go_wp2
                exact ⟨rfl, hK _ _ rfl (fun j k _ _ => Reg.Adds.refl _ _ _)⟩
              · intro val ac u hR hp ha K hK      -- 4: t83 := Op.load 9 t82
                obtain ⟨w82, h82, r82⟩ := hp 3 (by decide)
                have e82 : (ac.tmps[82]?).getD undef = .pointer (some ⟨b2, o2 + k * 20 + 6, none⟩) := (ha 82 (by decide)).trans h82
                clear h82
                clear ha hp
                have z0 := (hR.cell (p := ⟨b2, o2 + k * 20 + 6, none⟩) hb2r).trans (HATX.out.c 6 _ rfl)
                refine Reg.Op1.plain rfl ?_
                go_wp2
                exact ⟨rfl, hK _ _ rfl (fun j k _ _ => Reg.Adds.refl _ _ _)⟩
              · intro val ac u hR hp ha K hK      -- 5: t84 := Op.move t8
                have e8 : (ac.tmps[8]?).getD undef = .slice (some ⟨bk, ok, none⟩) ks.length ck := ha 8 (by decide)
                clear ha hp
                refine Reg.Op1.plain rfl ?_
                go_wp2
                exact ⟨rfl, hK _ _ rfl (fun j k _ _ => Reg.Adds.refl _ _ _)⟩
              · intro val ac u hR hp ha K hK      -- 6: t85 := Op.move t10
                have e10 : (ac.tmps[10]?).getD undef = .int .i64 j := ha 10 (by decide)
                clear ha hp
                refine Reg.Op1.plain rfl ?_
                go_wp2
                exact ⟨rfl, hK _ _ rfl (fun j k _ _ => Reg.Adds.refl _ _ _)⟩
              · intro val ac u hR hp ha K hK      -- 7: t86 := Op.indexAddr 45 t84 t85
                obtain ⟨w84, h84, r84⟩ := hp 5 (by decide)
                have e84 : (ac.tmps[84]?).getD undef = .slice (some ⟨bk, ok, none⟩) ks.length ck := (ha 84 (by decide)).trans h84
                clear h84
                obtain ⟨w85, h85, r85⟩ := hp 6 (by decide)
                have e85 : (ac.tmps[85]?).getD undef = .int .i64 j := (ha 85 (by decide)).trans h85
                clear h85
                clear ha hp
                refine Reg.Op1.plain rfl ?_
                go_wp2
                exact ⟨rfl, hK _ _ rfl (fun j k _ _ => Reg.Adds.refl _ _ _)⟩
              · intro val ac u hR hp ha K hK      -- 8: t87 := Op.load 9 t86
                obtain ⟨w86, h86, r86⟩ := hp 7 (by decide)
                have e86 : (ac.tmps[86]?).getD undef = .pointer (some ⟨bk, ok + j, none⟩) := (ha 86 (by decide)).trans h86
                clear h86
                clear ha hp
                have z1 := (hR.cell (p := ⟨bk, ok + j, none⟩) hbkr).trans XKR.out
                refine Reg.Op1.plain rfl ?_
                go_wp2
                exact ⟨rfl, hK _ _ rfl (fun j k _ _ => Reg.Adds.refl _ _ _)⟩
              · intro val ac u hR hp ha K hK      -- 9: t88 := Op.binOp BinOp.neq 9 t83 t87 9
                obtain ⟨w83, h83, r83⟩ := hp 4 (by decide)
                have e83 : (ac.tmps[83]?).getD undef = .string x.key := (ha 83 (by decide)).trans h83
                clear h83
                obtain ⟨w87, h87, r87⟩ := hp 8 (by decide)
                have e87 : (ac.tmps[87]?).getD undef = .string q := (ha 87 (by decide)).trans h87
                clear h87
                clear ha hp
                have hkd := HKD.out
                refine Reg.Op1.plain rfl ?_
                go_wp2
                exact ⟨rfl, hK _ _ rfl (fun j k _ _ => Reg.Adds.refl _ _ _)⟩
              · intro val ac u hR hp ha K hK      -- 10: t89 := Op.move t88
                obtain ⟨w88, h88, r88⟩ := hp 9 (by decide)
                have e88 : (ac.tmps[88]?).getD undef = .bool false := (ha 88 (by decide)).trans h88
                clear h88
                clear ha hp
                refine Reg.Op1.plain rfl ?_
                go_wp2
                exact ⟨rfl, hK _ _ rfl (fun j k _ _ => Reg.Adds.refl _ _ _)⟩
              · intro val ac u hR hp ha K hK      -- 11: t90 := Op.move t11
                have e11 : (ac.tmps[11]?).getD undef = .slice (some ⟨b2, o2, none⟩) l.length cl := ha 11 (by decide)
                obtain ⟨w89, h89, r89⟩ := hp 10 (by decide)
                have e89 : (ac.tmps[89]?).getD undef = .bool false := (ha 89 (by decide)).trans h89
                clear h89
                clear ha hp
                refine Reg.Op1.guarded rfl rfl e89 (fun _ => Reg.Op1.plain rfl ?_) (fun h => absurd rfl h)
                go_wp2
                exact ⟨rfl, hK _ _ rfl (fun j k _ _ => Reg.Adds.refl _ _ _)⟩
              · intro val ac u hR hp ha K hK      -- 12: t91 := Op.move t16
                have e16 : (ac.tmps[16]?).getD undef = .int .i64 k := ha 16 (by decide)
                obtain ⟨w89, h89, r89⟩ := hp 10 (by decide)
                have e89 : (ac.tmps[89]?).getD undef = .bool false := (ha 89 (by decide)).trans h89
                clear h89
                clear ha hp
                refine Reg.Op1.guarded rfl rfl e89 (fun _ => Reg.Op1.plain rfl ?_) (fun h => absurd rfl h)
                go_wp2
                exact ⟨rfl, hK _ _ rfl (fun j k _ _ => Reg.Adds.refl _ _ _)⟩
              · intro val ac u hR hp ha K hK      -- 13: t92 := Op.indexAddr 22 t90 t91
                obtain ⟨w90, h90, r90⟩ := hp 11 (by decide)
                have e90 : (ac.tmps[90]?).getD undef = .slice (some ⟨b2, o2, none⟩) l.length cl := (ha 90 (by decide)).trans h90
                clear h90
                obtain ⟨w91, h91, r91⟩ := hp 12 (by decide)
                have e91 : (ac.tmps[91]?).getD undef = .int .i64 k := (ha 91 (by decide)).trans h91
                clear h91
                obtain ⟨w89, h89, r89⟩ := hp 10 (by decide)
                have e89 : (ac.tmps[89]?).getD undef = .bool false := (ha 89 (by decide)).trans h89
                clear h89
                clear ha hp
                refine Reg.Op1.guarded rfl rfl e89 (fun _ => Reg.Op1.plain rfl ?_) (fun h => absurd rfl h)
                go_wp2
                exact ⟨rfl, hK _ _ rfl (fun j k _ _ => Reg.Adds.refl _ _ _)⟩
              · intro val ac u hR hp ha K hK      -- 14: t93 := Op.fieldAddr 40 t92 0
                obtain ⟨w92, h92, r92⟩ := hp 13 (by decide)
                have e92 : (ac.tmps[92]?).getD undef = .pointer (some ⟨b2, o2 + k * 20, none⟩) := (ha 92 (by decide)).trans h92
                clear h92
                obtain ⟨w89, h89, r89⟩ := hp 10 (by decide)
                have e89 : (ac.tmps[89]?).getD undef = .bool false := (ha 89 (by decide)).trans h89
                clear h89
                clear ha hp
                refine Reg.Op1.guarded rfl rfl e89 (fun _ => Reg.Op1.plain rfl ?_) (fun h => absurd rfl h)
                go_wp2
                exact ⟨rfl, hK _ _ rfl (fun j k _ _ => Reg.Adds.refl _ _ _)⟩
              · intro val ac u hR hp ha K hK      -- 15: t94 := Op.fieldAddr 34 t93 1
                obtain ⟨w93, h93, r93⟩ := hp 14 (by decide)
                have e93 : (ac.tmps[93]?).getD undef = .pointer (some ⟨b2, o2 + k * 20, none⟩) := (ha 93 (by decide)).trans h93
                clear h93
                obtain ⟨w89, h89, r89⟩ := hp 10 (by decide)
                have e89 : (ac.tmps[89]?).getD undef = .bool false := (ha 89 (by decide)).trans h89
                clear h89
                clear ha hp
                refine Reg.Op1.guarded rfl rfl e89 (fun _ => Reg.Op1.plain rfl ?_) (fun h => absurd rfl h)
                go_wp2
                exact ⟨rfl, hK _ _ rfl (fun j k _ _ => Reg.Adds.refl _ _ _)⟩
              · intro val ac u hR hp ha K hK      -- 16: t95 := Op.load 3 t94
                obtain ⟨w94, h94, r94⟩ := hp 15 (by decide)
                have e94 : (ac.tmps[94]?).getD undef = .pointer (some ⟨b2, o2 + k * 20 + 1, none⟩) := (ha 94 (by decide)).trans h94
                clear h94
                obtain ⟨w89, h89, r89⟩ := hp 10 (by decide)
                have e89 : (ac.tmps[89]?).getD undef = .bool false := (ha 89 (by decide)).trans h89
                clear h89
                clear ha hp
                have z2 := (hR.cell (p := ⟨b2, o2 + k * 20 + 1, none⟩) hb2r).trans (HATX.out.c 1 _ rfl)
                rw [HXR.out] at z2
                refine Reg.Op1.guarded rfl rfl e89 (fun _ => Reg.Op1.plain rfl ?_) (fun h => absurd rfl h)
                go_wp2
                exact ⟨rfl, hK _ _ rfl (fun j k _ _ => Reg.Adds.refl _ _ _)⟩
              · intro val ac u hR hp ha K hK      -- 17: t96 := Op.move t0
                have e0 : (ac.tmps[0]?).getD undef = .int .i64 rng := ha 0 (by decide)
                obtain ⟨w89, h89, r89⟩ := hp 10 (by decide)
                have e89 : (ac.tmps[89]?).getD undef = .bool false := (ha 89 (by decide)).trans h89
                clear h89
                clear ha hp
                refine Reg.Op1.guarded rfl rfl e89 (fun _ => Reg.Op1.plain rfl ?_) (fun h => absurd rfl h)
                go_wp2
                exact ⟨rfl, hK _ _ rfl (fun j k _ _ => Reg.Adds.refl _ _ _)⟩
              · intro val ac u hR hp ha K hK      -- 18: t97 := Op.binOp BinOp.neq 3 t95 t96 3
                obtain ⟨w95, h95, r95⟩ := hp 16 (by decide)
                have e95 : (ac.tmps[95]?).getD undef = .int .i64 rng := (ha 95 (by decide)).trans h95
                clear h95
                obtain ⟨w96, h96, r96⟩ := hp 17 (by decide)
                have e96 : (ac.tmps[96]?).getD undef = .int .i64 rng := (ha 96 (by decide)).trans h96
                clear h96
                obtain ⟨w89, h89, r89⟩ := hp 10 (by decide)
                have e89 : (ac.tmps[89]?).getD undef = .bool false := (ha 89 (by decide)).trans h89
                clear h89
                clear ha hp
                have hrr : (rng != rng) = false := by simp
                refine Reg.Op1.guarded rfl rfl e89 (fun _ => Reg.Op1.plain rfl ?_) (fun h => absurd rfl h)
                go_wp2
                exact ⟨rfl, hK _ _ rfl (fun j k _ _ => Reg.Adds.refl _ _ _)⟩
              · intro val ac u hR hp ha K hK      -- 19: t98 := Op.pick t89 (const (Value.bool true)) t97
                obtain ⟨w89, h89, r89⟩ := hp 10 (by decide)
                have e89 : (ac.tmps[89]?).getD undef = .bool false := (ha 89 (by decide)).trans h89
                clear h89
                obtain ⟨w97, h97, r97⟩ := hp 18 (by decide)
                have e97 : (ac.tmps[97]?).getD undef = .bool false := (ha 97 (by decide)).trans h97
                clear h97
                clear ha hp
                refine Reg.Op1.plain rfl ?_
                go_wp2
                exact ⟨rfl, hK _ _ rfl (fun j k _ _ => Reg.Adds.refl _ _ _)⟩
              · intro val ac u hR hp ha K hK      -- 20: t99 := Op.move t98
                obtain ⟨w98, h98, r98⟩ := hp 19 (by decide)
                have e98 : (ac.tmps[98]?).getD undef = .bool false := (ha 98 (by decide)).trans h98
                clear h98
                clear ha hp
                refine Reg.Op1.plain rfl ?_
                go_wp2
                exact ⟨rfl, hK _ _ rfl (fun j k _ _ => Reg.Adds.refl _ _ _)⟩
              · intro val ac u hR hp ha K hK      -- 21: t100 := Op.move t16
                have e16 : (ac.tmps[16]?).getD undef = .int .i64 k := ha 16 (by decide)
                obtain ⟨w99, h99, r99⟩ := hp 20 (by decide)
                have e99 : (ac.tmps[99]?).getD undef = .bool false := (ha 99 (by decide)).trans h99
                clear h99
                clear ha hp
                refine Reg.Op1.guarded rfl rfl e99 (fun _ => Reg.Op1.plain rfl ?_) (fun h => absurd rfl h)
                go_wp2
                exact ⟨rfl, hK _ _ rfl (fun j k _ _ => Reg.Adds.refl _ _ _)⟩
              · intro val ac u hR hp ha K hK      -- 22: t101 := Op.binOp BinOp.gtr 3 t100 (const (0:i64)) 3
                obtain ⟨w100, h100, r100⟩ := hp 21 (by decide)
                have e100 : (ac.tmps[100]?).getD undef = .int .i64 k := (ha 100 (by decide)).trans h100
                clear h100
                obtain ⟨w99, h99, r99⟩ := hp 20 (by decide)
                have e99 : (ac.tmps[99]?).getD undef = .bool false := (ha 99 (by decide)).trans h99
                clear h99
                clear ha hp
                refine Reg.Op1.guarded rfl rfl e99 (fun _ => Reg.Op1.plain rfl ?_) (fun h => absurd rfl h)
                go_wp2
                exact ⟨rfl, hK _ _ rfl (fun j k _ _ => Reg.Adds.refl _ _ _)⟩
              · intro val ac u hR hp ha K hK      -- 23: t102 := Op.move t101
                obtain ⟨w101, h101, r101⟩ := hp 22 (by decide)
                have e101 : (ac.tmps[101]?).getD undef = .bool false := (ha 101 (by decide)).trans h101
                clear h101
                obtain ⟨w99, h99, r99⟩ := hp 20 (by decide)
                have e99 : (ac.tmps[99]?).getD undef = .bool false := (ha 99 (by decide)).trans h99
                clear h99
                clear ha hp
                refine Reg.Op1.guarded rfl rfl e99 (fun _ => Reg.Op1.plain rfl ?_) (fun h => absurd rfl h)
                go_wp2
                exact ⟨rfl, hK _ _ rfl (fun j k _ _ => Reg.Adds.refl _ _ _)⟩
              · intro val ac u hR hp ha K hK      -- 24: t103 := Op.move t11
                obtain ⟨w102, h102, r102⟩ := hp 23 (by decide)
                have e102 : (ac.tmps[102]?).getD undef = .bool false := (ha 102 (by decide)).trans h102
                clear h102
                clear ha hp
                exact Reg.Op1.guarded rfl rfl e102 (fun h => by cases h) (fun _ => hK _ _ rfl (fun j k _ _ => Reg.Adds.refl _ _ _))
              · intro val ac u hR hp ha K hK      -- 25: t104 := Op.move t16
                obtain ⟨w102, h102, r102⟩ := hp 23 (by decide)
                have e102 : (ac.tmps[102]?).getD undef = .bool false := (ha 102 (by decide)).trans h102
                clear h102
                clear ha hp
                exact Reg.Op1.guarded rfl rfl e102 (fun h => by cases h) (fun _ => hK _ _ rfl (fun j k _ _ => Reg.Adds.refl _ _ _))
              · intro val ac u hR hp ha K hK      -- 26: t105 := Op.indexAddr 22 t103 t104
                obtain ⟨w102, h102, r102⟩ := hp 23 (by decide)
                have e102 : (ac.tmps[102]?).getD undef = .bool false := (ha 102 (by decide)).trans h102
                clear h102
                clear ha hp
                exact Reg.Op1.guarded rfl rfl e102 (fun h => by cases h) (fun _ => hK _ _ rfl (fun j k _ _ => Reg.Adds.refl _ _ _))
              · intro val ac u hR hp ha K hK      -- 27: t106 := Op.load 40 t105
                obtain ⟨w102, h102, r102⟩ := hp 23 (by decide)
                have e102 : (ac.tmps[102]?).getD undef = .bool false := (ha 102 (by decide)).trans h102
                clear h102
                clear ha hp
                exact Reg.Op1.guarded rfl rfl e102 (fun h => by cases h) (fun _ => hK _ _ rfl (fun j k _ _ => Reg.Adds.refl _ _ _))
              · intro val ac u hR hp ha K hK      -- 28: t107 := Op.move t11
                obtain ⟨w102, h102, r102⟩ := hp 23 (by decide)
                have e102 : (ac.tmps[102]?).getD undef = .bool false := (ha 102 (by decide)).trans h102
                clear h102
                clear ha hp
                exact Reg.Op1.guarded rfl rfl e102 (fun h => by cases h) (fun _ => hK _ _ rfl (fun j k _ _ => Reg.Adds.refl _ _ _))
              · intro val ac u hR hp ha K hK      -- 29: t108 := Op.move t16
                obtain ⟨w102, h102, r102⟩ := hp 23 (by decide)
                have e102 : (ac.tmps[102]?).getD undef = .bool false := (ha 102 (by decide)).trans h102
                clear h102
                clear ha hp
                exact Reg.Op1.guarded rfl rfl e102 (fun h => by cases h) (fun _ => hK _ _ rfl (fun j k _ _ => Reg.Adds.refl _ _ _))
              · intro val ac u hR hp ha K hK      -- 30: t109 := Op.binOp BinOp.sub 3 t108 (const (1:i64)) 3
                obtain ⟨w102, h102, r102⟩ := hp 23 (by decide)
                have e102 : (ac.tmps[102]?).getD undef = .bool false := (ha 102 (by decide)).trans h102
                clear h102
                clear ha hp
                exact Reg.Op1.guarded rfl rfl e102 (fun h => by cases h) (fun _ => hK _ _ rfl (fun j k _ _ => Reg.Adds.refl _ _ _))
              · intro val ac u hR hp ha K hK      -- 31: t110 := Op.indexAddr 22 t107 t109
                obtain ⟨w102, h102, r102⟩ := hp 23 (by decide)
                have e102 : (ac.tmps[102]?).getD undef = .bool false := (ha 102 (by decide)).trans h102
                clear h102
                clear ha hp
                exact Reg.Op1.guarded rfl rfl e102 (fun h => by cases h) (fun _ => hK _ _ rfl (fun j k _ _ => Reg.Adds.refl _ _ _))
              · intro val ac u hR hp ha K hK      -- 32: t111 := Op.load 40 t110
                obtain ⟨w102, h102, r102⟩ := hp 23 (by decide)
                have e102 : (ac.tmps[102]?).getD undef = .bool false := (ha 102 (by decide)).trans h102
                clear h102
                clear ha hp
                exact Reg.Op1.guarded rfl rfl e102 (fun h => by cases h) (fun _ => hK _ _ rfl (fun j k _ _ => Reg.Adds.refl _ _ _))
              · intro val ac u hR hp ha K hK      -- 33: t112 := Op.call { value (Operand.func 25), args := #[t106, t111], argTypes := #[40, 40] }
                obtain ⟨w102, h102, r102⟩ := hp 23 (by decide)
                have e102 : (ac.tmps[102]?).getD undef = .bool false := (ha 102 (by decide)).trans h102
                clear h102
                clear ha hp
                exact Reg.Op1.guarded rfl rfl e102 (fun h => by cases h) (fun _ => hK _ _ rfl (fun j k _ _ => Reg.Adds.refl _ _ _))
              · intro val ac u hR hp ha K hK      -- 34: t113 := Op.unOp UnOp.not 4 t112
                obtain ⟨w102, h102, r102⟩ := hp 23 (by decide)
                have e102 : (ac.tmps[102]?).getD undef = .bool false := (ha 102 (by decide)).trans h102
                clear h102
                clear ha hp
                exact Reg.Op1.guarded rfl rfl e102 (fun h => by cases h) (fun _ => hK _ _ rfl (fun j k _ _ => Reg.Adds.refl _ _ _))
              · intro val ac u hR hp ha K hK      -- 35: t114 := Op.pick t102 t113 (const (Value.bool false))
                obtain ⟨w102, h102, r102⟩ := hp 23 (by decide)
                have e102 : (ac.tmps[102]?).getD undef = .bool false := (ha 102 (by decide)).trans h102
                clear h102
                obtain ⟨w113, h113, r113⟩ := hp 34 (by decide)
                have e113 : (ac.tmps[113]?).getD undef = undef := (ha 113 (by decide)).trans h113
                clear h113
                obtain ⟨w99, h99, r99⟩ := hp 20 (by decide)
                have e99 : (ac.tmps[99]?).getD undef = .bool false := (ha 99 (by decide)).trans h99
                clear h99
                clear ha hp
                refine Reg.Op1.guarded rfl rfl e99 (fun _ => Reg.Op1.plain rfl ?_) (fun h => absurd rfl h)
                go_wp2
                exact ⟨rfl, hK _ _ rfl (fun j k _ _ => Reg.Adds.refl _ _ _)⟩
              · intro val ac u hR hp ha K hK      -- 36: t115 := Op.pick t99 (const (Value.bool true)) t114
                obtain ⟨w99, h99, r99⟩ := hp 20 (by decide)
                have e99 : (ac.tmps[99]?).getD undef = .bool false := (ha 99 (by decide)).trans h99
                clear h99
                obtain ⟨w114, h114, r114⟩ := hp 35 (by decide)
                have e114 : (ac.tmps[114]?).getD undef = .bool false := (ha 114 (by decide)).trans h114
                clear h114
                clear ha hp
                refine Reg.Op1.plain rfl ?_
                go_wp2
                exact ⟨rfl, hK _ _ rfl (fun j k _ _ => Reg.Adds.refl _ _ _)⟩
            intro val u hR H
            obtain ⟨_, hv, _⟩ := H 36 (by decide)
            have hv : val 36 = .bool false := hv
            have HKu : Hid (Mem.Keeps (fun _ => False) wr u) := Mem.Keeps.of_below ((Below.refl _ wr).drew.trans hR)
            simp only [List.map_cons, List.map_nil, Reg.lay, Act.put, List.setIfInBounds_toArray, List.set_cons_succ, List.set_cons_zero, Nat.reduceAdd, hv]
            clear hR H hv
            obtain ⟨wy, hwy⟩ : ∃ z, z = u := ⟨_, rfl⟩
            subst hwy
            clear hdk
            clear hx
            have HKXY : Hid (Mem.Keeps (fun _ => False) wr wy) := HKu
            have HATY : Hid (EntAt wy b2 (o2 + k * 20) x) := ⟨fun j u hu => (HKu.out.cell (p := ⟨b2, o2 + k * 20 + j, none⟩) hb2r id).trans (HATX.out.c j u hu)⟩
            have hb2y : b2 < wy.heap.size := Nat.lt_of_lt_of_le hb2r HKu.out.size
            have HWY : Hid (EBx wy gw m) := HWm.out.keeps HKu.out id
            have HKY : Hid (Mem.Keeps (fun q => q = gw) w14 wy) := HKW.out.trans HKu.out (fun _ h _ => h.elim)
            have HCy : Hid (CBx wy gc col) := HCr.out.keeps HKu.out id
            clear HATX HKu HKXY HWm HKW HCr HYP XKR HKD HXR
            rcases hdd with hxd | hxd | hxd
            ·
              go_upto_region 22 with fail
              refine Reg.wp_region_rel (by kernel_rfl) 183 15 rfl rfl (by kernel_rfl) (Reg.Adds) (Reg.Adds.refl) (Reg.Adds.trans)
                (fun i v u => match i with
                  | 0 => v = .slice (some ⟨b2, o2, none⟩) l.length cl
                  | 1 => v = .int .i64 k
                  | 2 => v = .pointer (some ⟨b2, o2 + k * 20, none⟩)
                  | 3 => v = .pointer (some ⟨b2, o2 + k * 20, none⟩)
                  | 4 => v = .pointer (some ⟨b2, o2 + k * 20 + 2, none⟩)
                  | 5 => v = .int .i64 x.seq
                  | 6 => v = .slice (some ⟨b2, o2, none⟩) l.length cl
                  | 7 => v = .int .i64 k
                  | 8 => v = .pointer (some ⟨b2, o2 + k * 20, none⟩)
                  | 9 => v = .pointer (some ⟨b2, o2 + k * 20, none⟩)
                  | 10 => v = .pointer (some ⟨b2, o2 + k * 20, none⟩)
                  | 11 => v = .int .i64 0
                  | 12 => v = .pointer (some ⟨gc, 0, none⟩)
                  | 13 => v = .int .i64 col.a
                  | 14 => v = .bool (decide (x.seq ≤ col.a))
                  | _ => True) ?_ ?_
              · refine Reg.Steps.cons ?_ (Reg.Steps.cons ?_ (Reg.Steps.cons ?_ (Reg.Steps.cons ?_ (Reg.Steps.cons ?_ (Reg.Steps.cons ?_ (Reg.Steps.cons ?_ (Reg.Steps.cons ?_ (Reg.Steps.cons ?_ (Reg.Steps.cons ?_ (Reg.Steps.cons ?_ (Reg.Steps.cons ?_ (Reg.Steps.cons ?_ (Reg.Steps.cons ?_ (Reg.Steps.cons ?_ (Reg.Steps.nil _)))))))))))))))
                · intro val ac u hR hp ha K hK      -- 0: t116 := Op.move t11
                  have e11 : (ac.tmps[11]?).getD undef = .slice (some ⟨b2, o2, none⟩) l.length cl := ha 11 (by decide)
                  clear ha hp
                  refine Reg.Op1.plain rfl ?_
                  go_wp2
                  exact ⟨rfl, hK _ _ rfl (fun j k _ _ => Reg.Adds.refl _ _ _)⟩
                · intro val ac u hR hp ha K hK      -- 1: t117 := Op.move t16
                  have e16 : (ac.tmps[16]?).getD undef = .int .i64 k := ha 16 (by decide)
                  clear ha hp
                  refine Reg.Op1.plain rfl ?_
                  go_wp2
                  exact ⟨rfl, hK _ _ rfl (fun j k _ _ => Reg.Adds.refl _ _ _)⟩
                · intro val ac u hR hp ha K hK      -- 2: t118 := Op.indexAddr 22 t116 t117
                  obtain ⟨w116, h116, r116⟩ := hp 0 (by decide)
                  have e116 : (ac.tmps[116]?).getD undef = .slice (some ⟨b2, o2, none⟩) l.length cl := (ha 116 (by decide)).trans h116
                  clear h116
                  obtain ⟨w117, h117, r117⟩ := hp 1 (by decide)
                  have e117 : (ac.tmps[117]?).getD undef = .int .i64 k := (ha 117 (by decide)).trans h117
                  clear h117
                  clear ha hp
                  refine Reg.Op1.plain rfl ?_
                  go_wp2
                  exact ⟨rfl, hK _ _ rfl (fun j k _ _ => Reg.Adds.refl _ _ _)⟩
                · intro val ac u hR hp ha K hK      -- 3: t119 := Op.fieldAddr 40 t118 0
                  obtain ⟨w118, h118, r118⟩ := hp 2 (by decide)
                  have e118 : (ac.tmps[118]?).getD undef = .pointer (some ⟨b2, o2 + k * 20, none⟩) := (ha 118 (by decide)).trans h118
                  clear h118
                  clear ha hp
                  refine Reg.Op1.plain rfl ?_
                  go_wp2
                  exact ⟨rfl, hK _ _ rfl (fun j k _ _ => Reg.Adds.refl _ _ _)⟩
                · intro val ac u hR hp ha K hK      -- 4: t120 := Op.fieldAddr 34 t119 2
                  obtain ⟨w119, h119, r119⟩ := hp 3 (by decide)
                  have e119 : (ac.tmps[119]?).getD undef = .pointer (some ⟨b2, o2 + k * 20, none⟩) := (ha 119 (by decide)).trans h119
                  clear h119
                  clear ha hp
                  refine Reg.Op1.plain rfl ?_
                  go_wp2
                  exact ⟨rfl, hK _ _ rfl (fun j k _ _ => Reg.Adds.refl _ _ _)⟩
                · intro val ac u hR hp ha K hK      -- 5: t121 := Op.load 3 t120
                  obtain ⟨w120, h120, r120⟩ := hp 4 (by decide)
                  have e120 : (ac.tmps[120]?).getD undef = .pointer (some ⟨b2, o2 + k * 20 + 2, none⟩) := (ha 120 (by decide)).trans h120
                  clear h120
                  clear ha hp
                  have z2 := (hR.cell (p := ⟨b2, o2 + k * 20 + 2, none⟩) hb2y).trans (HATY.out.c 2 _ rfl)
                  refine Reg.Op1.plain rfl ?_
                  go_wp2
                  exact ⟨rfl, hK _ _ rfl (fun j k _ _ => Reg.Adds.refl _ _ _)⟩
                · intro val ac u hR hp ha K hK      -- 6: t122 := Op.move t11
                  have e11 : (ac.tmps[11]?).getD undef = .slice (some ⟨b2, o2, none⟩) l.length cl := ha 11 (by decide)
                  clear ha hp
                  refine Reg.Op1.plain rfl ?_
                  go_wp2
                  exact ⟨rfl, hK _ _ rfl (fun j k _ _ => Reg.Adds.refl _ _ _)⟩
                · intro val ac u hR hp ha K hK      -- 7: t123 := Op.move t16
                  have e16 : (ac.tmps[16]?).getD undef = .int .i64 k := ha 16 (by decide)
                  clear ha hp
                  refine Reg.Op1.plain rfl ?_
                  go_wp2
                  exact ⟨rfl, hK _ _ rfl (fun j k _ _ => Reg.Adds.refl _ _ _)⟩
                · intro val ac u hR hp ha K hK      -- 8: t124 := Op.indexAddr 22 t122 t123
                  obtain ⟨w122, h122, r122⟩ := hp 6 (by decide)
                  have e122 : (ac.tmps[122]?).getD undef = .slice (some ⟨b2, o2, none⟩) l.length cl := (ha 122 (by decide)).trans h122
                  clear h122
                  obtain ⟨w123, h123, r123⟩ := hp 7 (by decide)
                  have e123 : (ac.tmps[123]?).getD undef = .int .i64 k := (ha 123 (by decide)).trans h123
                  clear h123
                  clear ha hp
                  refine Reg.Op1.plain rfl ?_
                  go_wp2
                  exact ⟨rfl, hK _ _ rfl (fun j k _ _ => Reg.Adds.refl _ _ _)⟩
                · intro val ac u hR hp ha K hK      -- 9: t125 := Op.fieldAddr 40 t124 0
                  obtain ⟨w124, h124, r124⟩ := hp 8 (by decide)
                  have e124 : (ac.tmps[124]?).getD undef = .pointer (some ⟨b2, o2 + k * 20, none⟩) := (ha 124 (by decide)).trans h124
                  clear h124
                  clear ha hp
                  refine Reg.Op1.plain rfl ?_
                  go_wp2
                  exact ⟨rfl, hK _ _ rfl (fun j k _ _ => Reg.Adds.refl _ _ _)⟩
                · intro val ac u hR hp ha K hK      -- 10: t126 := Op.fieldAddr 34 t125 0
                  obtain ⟨w125, h125, r125⟩ := hp 9 (by decide)
                  have e125 : (ac.tmps[125]?).getD undef = .pointer (some ⟨b2, o2 + k * 20, none⟩) := (ha 125 (by decide)).trans h125
                  clear h125
                  clear ha hp
                  refine Reg.Op1.plain rfl ?_
                  go_wp2
                  exact ⟨rfl, hK _ _ rfl (fun j k _ _ => Reg.Adds.refl _ _ _)⟩
                · intro val ac u hR hp ha K hK      -- 11: t127 := Op.load 3 t126
                  obtain ⟨w126, h126, r126⟩ := hp 10 (by decide)
                  have e126 : (ac.tmps[126]?).getD undef = .pointer (some ⟨b2, o2 + k * 20, none⟩) := (ha 126 (by decide)).trans h126
                  clear h126
                  clear ha hp
                  have z0 := (hR.cell (p := ⟨b2, o2 + k * 20, none⟩) hb2y).trans (HATY.out.c 0 _ rfl)
                  rw [hxd] at z0
                  refine Reg.Op1.plain rfl ?_
                  go_wp2
                  exact ⟨rfl, hK _ _ rfl (fun j k _ _ => Reg.Adds.refl _ _ _)⟩
                · intro val ac u hR hp ha K hK      -- 12: t128 := Op.indexAddr 26 t5 t127
                  have e5 : (ac.tmps[5]?).getD undef = .pointer (some ⟨gc, 0, none⟩) := ha 5 (by decide)
                  obtain ⟨w127, h127, r127⟩ := hp 11 (by decide)
                  have e127 : (ac.tmps[127]?).getD undef = .int .i64 0 := (ha 127 (by decide)).trans h127
                  clear h127
                  clear ha hp
                  refine Reg.Op1.plain rfl ?_
                  go_wp2
                  exact ⟨rfl, hK _ _ rfl (fun j k _ _ => Reg.Adds.refl _ _ _)⟩
                · intro val ac u hR hp ha K hK      -- 13: t129 := Op.load 3 t128
                  obtain ⟨w128, h128, r128⟩ := hp 12 (by decide)
                  have e128 : (ac.tmps[128]?).getD undef = .pointer (some ⟨gc, 0, none⟩) := (ha 128 (by decide)).trans h128
                  clear h128
                  clear ha hp
                  have z0 := (hR.cell (p := ⟨gc, 0, none⟩) HCy.out.lt).trans (HCy.out.cell (j := 0) rfl)
                  refine Reg.Op1.plain rfl ?_
                  go_wp2
                  exact ⟨rfl, hK _ _ rfl (fun j k _ _ => Reg.Adds.refl _ _ _)⟩
                · intro val ac u hR hp ha K hK      -- 14: t130 := Op.binOp BinOp.leq 3 t121 t129 3
                  obtain ⟨w121, h121, r121⟩ := hp 5 (by decide)
                  have e121 : (ac.tmps[121]?).getD undef = .int .i64 x.seq := (ha 121 (by decide)).trans h121
                  clear h121
                  obtain ⟨w129, h129, r129⟩ := hp 13 (by decide)
                  have e129 : (ac.tmps[129]?).getD undef = .int .i64 col.a := (ha 129 (by decide)).trans h129
                  clear h129
                  clear ha hp
                  refine Reg.Op1.plain rfl ?_
                  go_wp2
                  exact ⟨rfl, hK _ _ rfl (fun j k _ _ => Reg.Adds.refl _ _ _)⟩
              intro val u hR H
              obtain ⟨_, hv, _⟩ := H 14 (by decide)
              have hv : val 14 = .bool (decide (x.seq ≤ col.a)) := hv
              have hud : under col x = decide (x.seq ≤ col.a) := by unfold under; rw [hxd]; rfl
              have HKv : Hid (Mem.Keeps (fun _ => False) wy u) := Mem.Keeps.of_below ((Below.refl _ wy).drew.trans hR)
              simp only [List.map_cons, List.map_nil, Reg.lay, Act.put, List.setIfInBounds_toArray, List.set_cons_succ, List.set_cons_zero, Nat.reduceAdd, hv]
              clear hR H hv
              obtain ⟨wz, hwz⟩ : ∃ z, z = u := ⟨_, rfl⟩
              subst hwz
              rw [hud] at HST
              clear hud
              have HWZ : Hid (EBx wz gw m) := HWY.out.keeps HKv.out id
              have HKZ : Hid (Mem.Keeps (fun q => q = gw) w14 wz) := HKY.out.trans HKv.out (fun _ h _ => h.elim)
              by_cases hse : x.seq ≤ col.a
              · have hsd : decide (x.seq ≤ col.a) = true := by simpa using hse
                have HST2 : Hid (asOfL col (l.take (k + 1)).reverse = ⟨x, true, 0⟩) := by show _ = _; rw [HST.out, hsd]; rfl
                have HATZ : Hid (∀ j u, (entCells x)[j]? = some u → wz.cell? ⟨b2, o2 + k * 20 + j, none⟩ = some u) := fun j u hu => (HKv.out.cell (p := ⟨b2, o2 + k * 20 + j, none⟩) hb2y id).trans (HATY.out.c j u hu)
                rw [hsd]
                clear HATY HWY HKY HKv
                go_wp2_with (first | ((with_reducible refine Mem.load_agg _ _ entry_agg b2 (o2 + k * 20) (entCells x) ?hxl (entCells_length x) HATZ.out ?_); (case hxl => exact rfl)) | ((with_reducible refine Mem.store_agg _ _ entry_agg gw (entCells m) (entCells x) ?hxs ?hys HWZ.out (entCells_length x) (ent_one x) ?_); ((case hxs => exact rfl); (case hys => exact rfl); intro wu hbu hku hsu; have HBU := Lib.hid hbu; have HKU := Lib.hid hku; clear hbu hku hsu)))
                go_roundw
                case rel => exact ⟨⟨k + 1, by omega, by rw [HST2.out], by go_num, Lib.hid (by rw [HST2.out]; exact HBU.out), Lib.hid (HKZ.out.trans HKU.out (fun _ h _ => h))⟩⟩
                case measure => simp [intOf]; omega
              · have hsd : decide (x.seq ≤ col.a) = false := by simpa using hse
                have HST2 : Hid (asOfL col (l.take (k + 1)).reverse = ao) := by show _ = _; rw [HST.out, hsd]; rfl
                rw [hsd]
                clear HATY HWY HKY HKv
                go_wp2
                go_roundw
                case rel => exact ⟨⟨k + 1, by omega, by rw [HST2.out], by go_num, Lib.hid (by rw [HST2.out, HMQ.out]; exact HWZ.out), HKZ⟩⟩
                case measure => simp [intOf]; omega
            ·
              go_upto_region 22 with fail
              refine Reg.wp_region_rel (by kernel_rfl) 183 15 rfl rfl (by kernel_rfl) (Reg.Adds) (Reg.Adds.refl) (Reg.Adds.trans)
                (fun i v u => match i with
                  | 0 => v = .slice (some ⟨b2, o2, none⟩) l.length cl
                  | 1 => v = .int .i64 k
                  | 2 => v = .pointer (some ⟨b2, o2 + k * 20, none⟩)
                  | 3 => v = .pointer (some ⟨b2, o2 + k * 20, none⟩)
                  | 4 => v = .pointer (some ⟨b2, o2 + k * 20 + 2, none⟩)
                  | 5 => v = .int .i64 x.seq
                  | 6 => v = .slice (some ⟨b2, o2, none⟩) l.length cl
                  | 7 => v = .int .i64 k
                  | 8 => v = .pointer (some ⟨b2, o2 + k * 20, none⟩)
                  | 9 => v = .pointer (some ⟨b2, o2 + k * 20, none⟩)
                  | 10 => v = .pointer (some ⟨b2, o2 + k * 20, none⟩)
                  | 11 => v = .int .i64 1
                  | 12 => v = .pointer (some ⟨gc, 1, none⟩)
                  | 13 => v = .int .i64 col.b
                  | 14 => v = .bool (decide (x.seq ≤ col.b))
                  | _ => True) ?_ ?_
              · refine Reg.Steps.cons ?_ (Reg.Steps.cons ?_ (Reg.Steps.cons ?_ (Reg.Steps.cons ?_ (Reg.Steps.cons ?_ (Reg.Steps.cons ?_ (Reg.Steps.cons ?_ (Reg.Steps.cons ?_ (Reg.Steps.cons ?_ (Reg.Steps.cons ?_ (Reg.Steps.cons ?_ (Reg.Steps.cons ?_ (Reg.Steps.cons ?_ (Reg.Steps.cons ?_ (Reg.Steps.cons ?_ (Reg.Steps.nil _)))))))))))))))
                · intro val ac u hR hp ha K hK      -- 0: t116 := Op.move t11
                  have e11 : (ac.tmps[11]?).getD undef = .slice (some ⟨b2, o2, none⟩) l.length cl := ha 11 (by decide)
                  clear ha hp
                  refine Reg.Op1.plain rfl ?_
                  go_wp2
                  exact ⟨rfl, hK _ _ rfl (fun j k _ _ => Reg.Adds.refl _ _ _)⟩
                · intro val ac u hR hp ha K hK      -- 1: t117 := Op.move t16
                  have e16 : (ac.tmps[16]?).getD undef = .int .i64 k := ha 16 (by decide)
                  clear ha hp
                  refine Reg.Op1.plain rfl ?_
                  go_wp2
                  exact ⟨rfl, hK _ _ rfl (fun j k _ _ => Reg.Adds.refl _ _ _)⟩
                · intro val ac u hR hp ha K hK      -- 2: t118 := Op.indexAddr 22 t116 t117
                  obtain ⟨w116, h116, r116⟩ := hp 0 (by decide)
                  have e116 : (ac.tmps[116]?).getD undef = .slice (some ⟨b2, o2, none⟩) l.length cl := (ha 116 (by decide)).trans h116
                  clear h116
                  obtain ⟨w117, h117, r117⟩ := hp 1 (by decide)
                  have e117 : (ac.tmps[117]?).getD undef = .int .i64 k := (ha 117 (by decide)).trans h117
                  clear h117
                  clear ha hp
                  refine Reg.Op1.plain rfl ?_
                  go_wp2
                  exact ⟨rfl, hK _ _ rfl (fun j k _ _ => Reg.Adds.refl _ _ _)⟩
                · intro val ac u hR hp ha K hK      -- 3: t119 := Op.fieldAddr 40 t118 0
                  obtain ⟨w118, h118, r118⟩ := hp 2 (by decide)
                  have e118 : (ac.tmps[118]?).getD undef = .pointer (some ⟨b2, o2 + k * 20, none⟩) := (ha 118 (by decide)).trans h118
                  clear h118
                  clear ha hp
                  refine Reg.Op1.plain rfl ?_
                  go_wp2
                  exact ⟨rfl, hK _ _ rfl (fun j k _ _ => Reg.Adds.refl _ _ _)⟩
                · intro val ac u hR hp ha K hK      -- 4: t120 := Op.fieldAddr 34 t119 2
                  obtain ⟨w119, h119, r119⟩ := hp 3 (by decide)
                  have e119 : (ac.tmps[119]?).getD undef = .pointer (some ⟨b2, o2 + k * 20, none⟩) := (ha 119 (by decide)).trans h119
                  clear h119
                  clear ha hp
                  refine Reg.Op1.plain rfl ?_
                  go_wp2
                  exact ⟨rfl, hK _ _ rfl (fun j k _ _ => Reg.Adds.refl _ _ _)⟩
                · intro val ac u hR hp ha K hK      -- 5: t121 := Op.load 3 t120
                  obtain ⟨w120, h120, r120⟩ := hp 4 (by decide)
                  have e120 : (ac.tmps[120]?).getD undef = .pointer (some ⟨b2, o2 + k * 20 + 2, none⟩) := (ha 120 (by decide)).trans h120
                  clear h120
                  clear ha hp
                  have z2 := (hR.cell (p := ⟨b2, o2 + k * 20 + 2, none⟩) hb2y).trans (HATY.out.c 2 _ rfl)
                  refine Reg.Op1.plain rfl ?_
                  go_wp2
                  exact ⟨rfl, hK _ _ rfl (fun j k _ _ => Reg.Adds.refl _ _ _)⟩
                · intro val ac u hR hp ha K hK      -- 6: t122 := Op.move t11
                  have e11 : (ac.tmps[11]?).getD undef = .slice (some ⟨b2, o2, none⟩) l.length cl := ha 11 (by decide)
                  clear ha hp
                  refine Reg.Op1.plain rfl ?_
                  go_wp2
                  exact ⟨rfl, hK _ _ rfl (fun j k _ _ => Reg.Adds.refl _ _ _)⟩
                · intro val ac u hR hp ha K hK      -- 7: t123 := Op.move t16
                  have e16 : (ac.tmps[16]?).getD undef = .int .i64 k := ha 16 (by decide)
                  clear ha hp
                  refine Reg.Op1.plain rfl ?_
                  go_wp2
                  exact ⟨rfl, hK _ _ rfl (fun j k _ _ => Reg.Adds.refl _ _ _)⟩
                · intro val ac u hR hp ha K hK      -- 8: t124 := Op.indexAddr 22 t122 t123
                  obtain ⟨w122, h122, r122⟩ := hp 6 (by decide)
                  have e122 : (ac.tmps[122]?).getD undef = .slice (some ⟨b2, o2, none⟩) l.length cl := (ha 122 (by decide)).trans h122
                  clear h122
                  obtain ⟨w123, h123, r123⟩ := hp 7 (by decide)
                  have e123 : (ac.tmps[123]?).getD undef = .int .i64 k := (ha 123 (by decide)).trans h123
                  clear h123
                  clear ha hp
                  refine Reg.Op1.plain rfl ?_
                  go_wp2
                  exact ⟨rfl, hK _ _ rfl (fun j k _ _ => Reg.Adds.refl _ _ _)⟩
                · intro val ac u hR hp ha K hK      -- 9: t125 := Op.fieldAddr 40 t124 0
                  obtain ⟨w124, h124, r124⟩ := hp 8 (by decide)
                  have e124 : (ac.tmps[124]?).getD undef = .pointer (some ⟨b2, o2 + k * 20, none⟩) := (ha 124 (by decide)).trans h124
                  clear h124
                  clear ha hp
                  refine Reg.Op1.plain rfl ?_
                  go_wp2
                  exact ⟨rfl, hK _ _ rfl (fun j k _ _ => Reg.Adds.refl _ _ _)⟩
                · intro val ac u hR hp ha K hK      -- 10: t126 := Op.fieldAddr 34 t125 0
                  obtain ⟨w125, h125, r125⟩ := hp 9 (by decide)
                  have e125 : (ac.tmps[125]?).getD undef = .pointer (some ⟨b2, o2 + k * 20, none⟩) := (ha 125 (by decide)).trans h125
                  clear h125
                  clear ha hp
                  refine Reg.Op1.plain rfl ?_
                  go_wp2
                  exact ⟨rfl, hK _ _ rfl (fun j k _ _ => Reg.Adds.refl _ _ _)⟩
                · intro val ac u hR hp ha K hK      -- 11: t127 := Op.load 3 t126
                  obtain ⟨w126, h126, r126⟩ := hp 10 (by decide)
                  have e126 : (ac.tmps[126]?).getD undef = .pointer (some ⟨b2, o2 + k * 20, none⟩) := (ha 126 (by decide)).trans h126
                  clear h126
                  clear ha hp
                  have z0 := (hR.cell (p := ⟨b2, o2 + k * 20, none⟩) hb2y).trans (HATY.out.c 0 _ rfl)
                  rw [hxd] at z0
                  refine Reg.Op1.plain rfl ?_
                  go_wp2
                  exact ⟨rfl, hK _ _ rfl (fun j k _ _ => Reg.Adds.refl _ _ _)⟩
                · intro val ac u hR hp ha K hK      -- 12: t128 := Op.indexAddr 26 t5 t127
                  have e5 : (ac.tmps[5]?).getD undef = .pointer (some ⟨gc, 0, none⟩) := ha 5 (by decide)
                  obtain ⟨w127, h127, r127⟩ := hp 11 (by decide)
                  have e127 : (ac.tmps[127]?).getD undef = .int .i64 1 := (ha 127 (by decide)).trans h127
                  clear h127
                  clear ha hp
                  refine Reg.Op1.plain rfl ?_
                  go_wp2
                  exact ⟨rfl, hK _ _ rfl (fun j k _ _ => Reg.Adds.refl _ _ _)⟩
                · intro val ac u hR hp ha K hK      -- 13: t129 := Op.load 3 t128
                  obtain ⟨w128, h128, r128⟩ := hp 12 (by decide)
                  have e128 : (ac.tmps[128]?).getD undef = .pointer (some ⟨gc, 1, none⟩) := (ha 128 (by decide)).trans h128
                  clear h128
                  clear ha hp
                  have z0 := (hR.cell (p := ⟨gc, 1, none⟩) HCy.out.lt).trans (HCy.out.cell (j := 1) rfl)
                  refine Reg.Op1.plain rfl ?_
                  go_wp2
                  exact ⟨rfl, hK _ _ rfl (fun j k _ _ => Reg.Adds.refl _ _ _)⟩
                · intro val ac u hR hp ha K hK      -- 14: t130 := Op.binOp BinOp.leq 3 t121 t129 3
                  obtain ⟨w121, h121, r121⟩ := hp 5 (by decide)
                  have e121 : (ac.tmps[121]?).getD undef = .int .i64 x.seq := (ha 121 (by decide)).trans h121
                  clear h121
                  obtain ⟨w129, h129, r129⟩ := hp 13 (by decide)
                  have e129 : (ac.tmps[129]?).getD undef = .int .i64 col.b := (ha 129 (by decide)).trans h129
                  clear h129
                  clear ha hp
                  refine Reg.Op1.plain rfl ?_
                  go_wp2
                  exact ⟨rfl, hK _ _ rfl (fun j k _ _ => Reg.Adds.refl _ _ _)⟩
              intro val u hR H
              obtain ⟨_, hv, _⟩ := H 14 (by decide)
              have hv : val 14 = .bool (decide (x.seq ≤ col.b)) := hv
              have hud : under col x = decide (x.seq ≤ col.b) := by unfold under; rw [hxd]; rfl
              have HKv : Hid (Mem.Keeps (fun _ => False) wy u) := Mem.Keeps.of_below ((Below.refl _ wy).drew.trans hR)
              simp only [List.map_cons, List.map_nil, Reg.lay, Act.put, List.setIfInBounds_toArray, List.set_cons_succ, List.set_cons_zero, Nat.reduceAdd, hv]
              clear hR H hv
              obtain ⟨wz, hwz⟩ : ∃ z, z = u := ⟨_, rfl⟩
              subst hwz
              rw [hud] at HST
              clear hud
              have HWZ : Hid (EBx wz gw m) := HWY.out.keeps HKv.out id
              have HKZ : Hid (Mem.Keeps (fun q => q = gw) w14 wz) := HKY.out.trans HKv.out (fun _ h _ => h.elim)
              by_cases hse : x.seq ≤ col.b
              · have hsd : decide (x.seq ≤ col.b) = true := by simpa using hse
                have HST2 : Hid (asOfL col (l.take (k + 1)).reverse = ⟨x, true, 0⟩) := by show _ = _; rw [HST.out, hsd]; rfl
                have HATZ : Hid (∀ j u, (entCells x)[j]? = some u → wz.cell? ⟨b2, o2 + k * 20 + j, none⟩ = some u) := fun j u hu => (HKv.out.cell (p := ⟨b2, o2 + k * 20 + j, none⟩) hb2y id).trans (HATY.out.c j u hu)
                rw [hsd]
                clear HATY HWY HKY HKv
                go_wp2_with (first | ((with_reducible refine Mem.load_agg _ _ entry_agg b2 (o2 + k * 20) (entCells x) ?hxl (entCells_length x) HATZ.out ?_); (case hxl => exact rfl)) | ((with_reducible refine Mem.store_agg _ _ entry_agg gw (entCells m) (entCells x) ?hxs ?hys HWZ.out (entCells_length x) (ent_one x) ?_); ((case hxs => exact rfl); (case hys => exact rfl); intro wu hbu hku hsu; have HBU := Lib.hid hbu; have HKU := Lib.hid hku; clear hbu hku hsu)))
                go_roundw
                case rel => exact ⟨⟨k + 1, by omega, by rw [HST2.out], by go_num, Lib.hid (by rw [HST2.out]; exact HBU.out), Lib.hid (HKZ.out.trans HKU.out (fun _ h _ => h))⟩⟩
                case measure => simp [intOf]; omega
              · have hsd : decide (x.seq ≤ col.b) = false := by simpa using hse
                have HST2 : Hid (asOfL col (l.take (k + 1)).reverse = ao) := by show _ = _; rw [HST.out, hsd]; rfl
                rw [hsd]
                clear HATY HWY HKY HKv
                go_wp2
                go_roundw
                case rel => exact ⟨⟨k + 1, by omega, by rw [HST2.out], by go_num, Lib.hid (by rw [HST2.out, HMQ.out]; exact HWZ.out), HKZ⟩⟩
                case measure => simp [intOf]; omega
            ·
              go_upto_region 22 with fail
              refine Reg.wp_region_rel (by kernel_rfl) 183 15 rfl rfl (by kernel_rfl) (Reg.Adds) (Reg.Adds.refl) (Reg.Adds.trans)
                (fun i v u => match i with
                  | 0 => v = .slice (some ⟨b2, o2, none⟩) l.length cl
                  | 1 => v = .int .i64 k
                  | 2 => v = .pointer (some ⟨b2, o2 + k * 20, none⟩)
                  | 3 => v = .pointer (some ⟨b2, o2 + k * 20, none⟩)
                  | 4 => v = .pointer (some ⟨b2, o2 + k * 20 + 2, none⟩)
                  | 5 => v = .int .i64 x.seq
                  | 6 => v = .slice (some ⟨b2, o2, none⟩) l.length cl
                  | 7 => v = .int .i64 k
                  | 8 => v = .pointer (some ⟨b2, o2 + k * 20, none⟩)
                  | 9 => v = .pointer (some ⟨b2, o2 + k * 20, none⟩)
                  | 10 => v = .pointer (some ⟨b2, o2 + k * 20, none⟩)
                  | 11 => v = .int .i64 2
                  | 12 => v = .pointer (some ⟨gc, 2, none⟩)
                  | 13 => v = .int .i64 col.c
                  | 14 => v = .bool (decide (x.seq ≤ col.c))
                  | _ => True) ?_ ?_
              · refine Reg.Steps.cons ?_ (Reg.Steps.cons ?_ (Reg.Steps.cons ?_ (Reg.Steps.cons ?_ (Reg.Steps.cons ?_ (Reg.Steps.cons ?_ (Reg.Steps.cons ?_ (Reg.Steps.cons ?_ (Reg.Steps.cons ?_ (Reg.Steps.cons ?_ (Reg.Steps.cons ?_ (Reg.Steps.cons ?_ (Reg.Steps.cons ?_ (Reg.Steps.cons ?_ (Reg.Steps.cons ?_ (Reg.Steps.nil _)))))))))))))))
                · intro val ac u hR hp ha K hK      -- 0: t116 := Op.move t11
                  have e11 : (ac.tmps[11]?).getD undef = .slice (some ⟨b2, o2, none⟩) l.length cl := ha 11 (by decide)
                  clear ha hp
                  refine Reg.Op1.plain rfl ?_
                  go_wp2
                  exact ⟨rfl, hK _ _ rfl (fun j k _ _ => Reg.Adds.refl _ _ _)⟩
                · intro val ac u hR hp ha K hK      -- 1: t117 := Op.move t16
                  have e16 : (ac.tmps[16]?).getD undef = .int .i64 k := ha 16 (by decide)
                  clear ha hp
                  refine Reg.Op1.plain rfl ?_
                  go_wp2
                  exact ⟨rfl, hK _ _ rfl (fun j k _ _ => Reg.Adds.refl _ _ _)⟩
                · intro val ac u hR hp ha K hK      -- 2: t118 := Op.indexAddr 22 t116 t117
                  obtain ⟨w116, h116, r116⟩ := hp 0 (by decide)
                  have e116 : (ac.tmps[116]?).getD undef = .slice (some ⟨b2, o2, none⟩) l.length cl := (ha 116 (by decide)).trans h116
                  clear h116
                  obtain ⟨w117, h117, r117⟩ := hp 1 (by decide)
                  have e117 : (ac.tmps[117]?).getD undef = .int .i64 k := (ha 117 (by decide)).trans h117
                  clear h117
                  clear ha hp
                  refine Reg.Op1.plain rfl ?_
                  go_wp2
                  exact ⟨rfl, hK _ _ rfl (fun j k _ _ => Reg.Adds.refl _ _ _)⟩
                · intro val ac u hR hp ha K hK      -- 3: t119 := Op.fieldAddr 40 t118 0
                  obtain ⟨w118, h118, r118⟩ := hp 2 (by decide)
                  have e118 : (ac.tmps[118]?).getD undef = .pointer (some ⟨b2, o2 + k * 20, none⟩) := (ha 118 (by decide)).trans h118
                  clear h118
                  clear ha hp
                  refine Reg.Op1.plain rfl ?_
                  go_wp2
                  exact ⟨rfl, hK _ _ rfl (fun j k _ _ => Reg.Adds.refl _ _ _)⟩
                · intro val ac u hR hp ha K hK      -- 4: t120 := Op.fieldAddr 34 t119 2
                  obtain ⟨w119, h119, r119⟩ := hp 3 (by decide)
                  have e119 : (ac.tmps[119]?).getD undef = .pointer (some ⟨b2, o2 + k * 20, none⟩) := (ha 119 (by decide)).trans h119
                  clear h119
                  clear ha hp
                  refine Reg.Op1.plain rfl ?_
                  go_wp2
                  exact ⟨rfl, hK _ _ rfl (fun j k _ _ => Reg.Adds.refl _ _ _)⟩
                · intro val ac u hR hp ha K hK      -- 5: t121 := Op.load 3 t120
                  obtain ⟨w120, h120, r120⟩ := hp 4 (by decide)
                  have e120 : (ac.tmps[120]?).getD undef = .pointer (some ⟨b2, o2 + k * 20 + 2, none⟩) := (ha 120 (by decide)).trans h120
                  clear h120
                  clear ha hp
                  have z2 := (hR.cell (p := ⟨b2, o2 + k * 20 + 2, none⟩) hb2y).trans (HATY.out.c 2 _ rfl)
                  refine Reg.Op1.plain rfl ?_
                  go_wp2
                  exact ⟨rfl, hK _ _ rfl (fun j k _ _ => Reg.Adds.refl _ _ _)⟩
                · intro val ac u hR hp ha K hK      -- 6: t122 := Op.move t11
                  have e11 : (ac.tmps[11]?).getD undef = .slice (some ⟨b2, o2, none⟩) l.length cl := ha 11 (by decide)
                  clear ha hp
                  refine Reg.Op1.plain rfl ?_
                  go_wp2
                  exact ⟨rfl, hK _ _ rfl (fun j k _ _ => Reg.Adds.refl _ _ _)⟩
                · intro val ac u hR hp ha K hK      -- 7: t123 := Op.move t16
                  have e16 : (ac.tmps[16]?).getD undef = .int .i64 k := ha 16 (by decide)
                  clear ha hp
                  refine Reg.Op1.plain rfl ?_
                  go_wp2
                  exact ⟨rfl, hK _ _ rfl (fun j k _ _ => Reg.Adds.refl _ _ _)⟩
                · intro val ac u hR hp ha K hK      -- 8: t124 := Op.indexAddr 22 t122 t123
                  obtain ⟨w122, h122, r122⟩ := hp 6 (by decide)
                  have e122 : (ac.tmps[122]?).getD undef = .slice (some ⟨b2, o2, none⟩) l.length cl := (ha 122 (by decide)).trans h122
                  clear h122
                  obtain ⟨w123, h123, r123⟩ := hp 7 (by decide)
                  have e123 : (ac.tmps[123]?).getD undef = .int .i64 k := (ha 123 (by decide)).trans h123
                  clear h123
                  clear ha hp
                  refine Reg.Op1.plain rfl ?_
                  go_wp2
                  exact ⟨rfl, hK _ _ rfl (fun j k _ _ => Reg.Adds.refl _ _ _)⟩
                · intro val ac u hR hp ha K hK      -- 9: t125 := Op.fieldAddr 40 t124 0
                  obtain ⟨w124, h124, r124⟩ := hp 8 (by decide)
                  have e124 : (ac.tmps[124]?).getD undef = .pointer (some ⟨b2, o2 + k * 20, none⟩) := (ha 124 (by decide)).trans h124
                  clear h124
                  clear ha hp
                  refine Reg.Op1.plain rfl ?_
                  go_wp2
                  exact ⟨rfl, hK _ _ rfl (fun j k _ _ => Reg.Adds.refl _ _ _)⟩
                · intro val ac u hR hp ha K hK      -- 10: t126 := Op.fieldAddr 34 t125 0
                  obtain ⟨w125, h125, r125⟩ := hp 9 (by decide)
                  have e125 : (ac.tmps[125]?).getD undef = .pointer (some ⟨b2, o2 + k * 20, none⟩) := (ha 125 (by decide)).trans h125
                  clear h125
                  clear ha hp
                  refine Reg.Op1.plain rfl ?_
                  go_wp2
                  exact ⟨rfl, hK _ _ rfl (fun j k _ _ => Reg.Adds.refl _ _ _)⟩
                · intro val ac u hR hp ha K hK      -- 11: t127 := Op.load 3 t126
                  obtain ⟨w126, h126, r126⟩ := hp 10 (by decide)
                  have e126 : (ac.tmps[126]?).getD undef = .pointer (some ⟨b2, o2 + k * 20, none⟩) := (ha 126 (by decide)).trans h126
                  clear h126
                  clear ha hp
                  have z0 := (hR.cell (p := ⟨b2, o2 + k * 20, none⟩) hb2y).trans (HATY.out.c 0 _ rfl)
                  rw [hxd] at z0
                  refine Reg.Op1.plain rfl ?_
                  go_wp2
                  exact ⟨rfl, hK _ _ rfl (fun j k _ _ => Reg.Adds.refl _ _ _)⟩
                · intro val ac u hR hp ha K hK      -- 12: t128 := Op.indexAddr 26 t5 t127
                  have e5 : (ac.tmps[5]?).getD undef = .pointer (some ⟨gc, 0, none⟩) := ha 5 (by decide)
                  obtain ⟨w127, h127, r127⟩ := hp 11 (by decide)
                  have e127 : (ac.tmps[127]?).getD undef = .int .i64 2 := (ha 127 (by decide)).trans h127
                  clear h127
                  clear ha hp
                  refine Reg.Op1.plain rfl ?_
                  go_wp2
                  exact ⟨rfl, hK _ _ rfl (fun j k _ _ => Reg.Adds.refl _ _ _)⟩
                · intro val ac u hR hp ha K hK      -- 13: t129 := Op.load 3 t128
                  obtain ⟨w128, h128, r128⟩ := hp 12 (by decide)
                  have e128 : (ac.tmps[128]?).getD undef = .pointer (some ⟨gc, 2, none⟩) := (ha 128 (by decide)).trans h128
                  clear h128
                  clear ha hp
                  have z0 := (hR.cell (p := ⟨gc, 2, none⟩) HCy.out.lt).trans (HCy.out.cell (j := 2) rfl)
                  refine Reg.Op1.plain rfl ?_
                  go_wp2
                  exact ⟨rfl, hK _ _ rfl (fun j k _ _ => Reg.Adds.refl _ _ _)⟩
                · intro val ac u hR hp ha K hK      -- 14: t130 := Op.binOp BinOp.leq 3 t121 t129 3
                  obtain ⟨w121, h121, r121⟩ := hp 5 (by decide)
                  have e121 : (ac.tmps[121]?).getD undef = .int .i64 x.seq := (ha 121 (by decide)).trans h121
                  clear h121
                  obtain ⟨w129, h129, r129⟩ := hp 13 (by decide)
                  have e129 : (ac.tmps[129]?).getD undef = .int .i64 col.c := (ha 129 (by decide)).trans h129
                  clear h129
                  clear ha hp
                  refine Reg.Op1.plain rfl ?_
                  go_wp2
                  exact ⟨rfl, hK _ _ rfl (fun j k _ _ => Reg.Adds.refl _ _ _)⟩
              intro val u hR H
              obtain ⟨_, hv, _⟩ := H 14 (by decide)
              have hv : val 14 = .bool (decide (x.seq ≤ col.c)) := hv
              have hud : under col x = decide (x.seq ≤ col.c) := by unfold under; rw [hxd]; rfl
              have HKv : Hid (Mem.Keeps (fun _ => False) wy u) := Mem.Keeps.of_below ((Below.refl _ wy).drew.trans hR)
              simp only [List.map_cons, List.map_nil, Reg.lay, Act.put, List.setIfInBounds_toArray, List.set_cons_succ, List.set_cons_zero, Nat.reduceAdd, hv]
              clear hR H hv
              obtain ⟨wz, hwz⟩ : ∃ z, z = u := ⟨_, rfl⟩
              subst hwz
              rw [hud] at HST
              clear hud
              have HWZ : Hid (EBx wz gw m) := HWY.out.keeps HKv.out id
              have HKZ : Hid (Mem.Keeps (fun q => q = gw) w14 wz) := HKY.out.trans HKv.out (fun _ h _ => h.elim)
              by_cases hse : x.seq ≤ col.c
              · have hsd : decide (x.seq ≤ col.c) = true := by simpa using hse
                have HST2 : Hid (asOfL col (l.take (k + 1)).reverse = ⟨x, true, 0⟩) := by show _ = _; rw [HST.out, hsd]; rfl
                have HATZ : Hid (∀ j u, (entCells x)[j]? = some u → wz.cell? ⟨b2, o2 + k * 20 + j, none⟩ = some u) := fun j u hu => (HKv.out.cell (p := ⟨b2, o2 + k * 20 + j, none⟩) hb2y id).trans (HATY.out.c j u hu)
                rw [hsd]
                clear HATY HWY HKY HKv
                go_wp2_with (first | ((with_reducible refine Mem.load_agg _ _ entry_agg b2 (o2 + k * 20) (entCells x) ?hxl (entCells_length x) HATZ.out ?_); (case hxl => exact rfl)) | ((with_reducible refine Mem.store_agg _ _ entry_agg gw (entCells m) (entCells x) ?hxs ?hys HWZ.out (entCells_length x) (ent_one x) ?_); ((case hxs => exact rfl); (case hys => exact rfl); intro wu hbu hku hsu; have HBU := Lib.hid hbu; have HKU := Lib.hid hku; clear hbu hku hsu)))
                go_roundw
                case rel => exact ⟨⟨k + 1, by omega, by rw [HST2.out], by go_num, Lib.hid (by rw [HST2.out]; exact HBU.out), Lib.hid (HKZ.out.trans HKU.out (fun _ h _ => h))⟩⟩
                case measure => simp [intOf]; omega
              · have hsd : decide (x.seq ≤ col.c) = false := by simpa using hse
                have HST2 : Hid (asOfL col (l.take (k + 1)).reverse = ao) := by show _ = _; rw [HST.out, hsd]; rfl
                rw [hsd]
                clear HATY HWY HKY HKv
                go_wp2
                go_roundw
                case rel => exact ⟨⟨k + 1, by omega, by rw [HST2.out], by go_num, Lib.hid (by rw [HST2.out, HMQ.out]; exact HWZ.out), HKZ⟩⟩
                case measure => simp [intOf]; omega
          · obtain ⟨km, hkm⟩ : ∃ km, k - 1 = km := ⟨_, rfl⟩
            have hkl2 : km < l.length := by omega
            obtain ⟨y, hy, HATP⟩ : ∃ y, l[km]? = some y ∧ Hid (EntAt wr b2 (o2 + km * 20) y) := by
              obtain ⟨b9, o9, e9, h1, h2, h3, h4⟩ := ent_elem HOr.out.rd hkl2
              cases h1
              exact ⟨e9, h3, h4⟩
            have HYP : Hid (decide (0 < gtE x y) = true) := by
              have := HUP.out km y x hy (by rw [show km + 1 = k by omega]; exact hx)
              show _ = _
              simpa using this
            have hdk : decide (0 < k) = true := decide_eq_true (by omega)
            have hwk : IntKind.i64.wrap ((k : Int) - 1) = (km : Int) := by rw [IntWalk.i64_in _ (by omega)]; omega
            have HWK := Lib.hid hwk
            clear hx hy hkm hwk
            refine Reg.wp_region_rel (by kernel_rfl) 183 37 rfl rfl (by kernel_rfl) (Reg.Adds) (Reg.Adds.refl) (Reg.Adds.trans)
              (fun i v u => match i with
                | 0 => v = .slice (some ⟨b2, o2, none⟩) l.length cl
                | 1 => v = .int .i64 k
                | 2 => v = .pointer (some ⟨b2, o2 + k * 20, none⟩)
                | 3 => v = .pointer (some ⟨b2, o2 + k * 20 + 6, none⟩)
                | 4 => v = .string x.key
                | 5 => v = .slice (some ⟨bk, ok, none⟩) ks.length ck
                | 6 => v = .int .i64 j
                | 7 => v = .pointer (some ⟨bk, ok + j, none⟩)
                | 8 => v = .string q
                | 9 => v = .bool false
                | 10 => v = .bool false
                | 11 => v = .slice (some ⟨b2, o2, none⟩) l.length cl
                | 12 => v = .int .i64 k
                | 13 => v = .pointer (some ⟨b2, o2 + k * 20, none⟩)
                | 14 => v = .pointer (some ⟨b2, o2 + k * 20, none⟩)
                | 15 => v = .pointer (some ⟨b2, o2 + k * 20 + 1, none⟩)
                | 16 => v = .int .i64 rng
                | 17 => v = .int .i64 rng
                | 18 => v = .bool false
                | 19 => v = .bool false
                | 20 => v = .bool false
                | 21 => v = .int .i64 k
                | 22 => v = .bool true
                | 23 => v = .bool true
                | 24 => v = .slice (some ⟨b2, o2, none⟩) l.length cl
                | 25 => v = .int .i64 k
                | 26 => v = .pointer (some ⟨b2, o2 + k * 20, none⟩)
                | 27 => v = Vec.E x
                | 28 => v = .slice (some ⟨b2, o2, none⟩) l.length cl
                | 29 => v = .int .i64 k
                | 30 => v = .int .i64 (km : Nat)
                | 31 => v = .pointer (some ⟨b2, o2 + km * 20, none⟩)
                | 32 => v = Vec.E y
                | 33 => v = .bool true
                | 34 => v = .bool false
                | 35 => v = .bool false
                | 36 => v = .bool false
                | _ => True) ?_ ?_
            · refine Reg.Steps.cons ?_ (Reg.Steps.cons ?_ (Reg.Steps.cons ?_ (Reg.Steps.cons ?_ (Reg.Steps.cons ?_ (Reg.Steps.cons ?_ (Reg.Steps.cons ?_ (Reg.Steps.cons ?_ (Reg.Steps.cons ?_ (Reg.Steps.cons ?_ (Reg.Steps.cons ?_ (Reg.Steps.cons ?_ (Reg.Steps.cons ?_ (Reg.Steps.cons ?_ (Reg.Steps.cons ?_ (Reg.Steps.cons ?_ (Reg.Steps.cons ?_ (Reg.Steps.cons ?_ (Reg.Steps.cons ?_ (Reg.Steps.cons ?_ (Reg.Steps.cons ?_ (Reg.Steps.cons ?_ (Reg.Steps.cons ?_ (Reg.Steps.cons ?_ (Reg.Steps.cons ?_ (Reg.Steps.cons ?_ (Reg.Steps.cons ?_ (Reg.Steps.cons ?_ (Reg.Steps.cons ?_ (Reg.Steps.cons ?_ (Reg.Steps.cons ?_ (Reg.Steps.cons ?_ (Reg.Steps.cons ?_ (Reg.Steps.cons ?_ (Reg.Steps.cons ?_ (Reg.Steps.cons ?_ (Reg.Steps.cons ?_ (Reg.Steps.nil _)))))))))))))))))))))))))))))))))))))
              · intro val ac u hR hp ha K hK      -- 0: t79 := Op.move t11
                have e11 : (ac.tmps[11]?).getD undef = .slice (some ⟨b2, o2, none⟩) l.length cl := ha 11 (by decide)
                clear ha hp
                refine Reg.Op1.plain rfl ?_
                go_wp2
                exact ⟨rfl, hK _ _ rfl (fun j k _ _ => Reg.Adds.refl _ _ _)⟩
              · intro val ac u hR hp ha K hK      -- 1: t80 := Op.move t16
                have e16 : (ac.tmps[16]?).getD undef = .int .i64 k := ha 16 (by decide)
                clear ha hp
                refine Reg.Op1.plain rfl ?_
                go_wp2
                exact ⟨rfl, hK _ _ rfl (fun j k _ _ => Reg.Adds.refl _ _ _)⟩
              · intro val ac u hR hp ha K hK      -- 2: t81 := Op.indexAddr 22 t79 t80
                obtain ⟨w79, h79, r79⟩ := hp 0 (by decide)
                have e79 : (ac.tmps[79]?).getD undef = .slice (some ⟨b2, o2, none⟩) l.length cl := (ha 79 (by decide)).trans h79
                clear h79
                obtain ⟨w80, h80, r80⟩ := hp 1 (by decide)
                have e80 : (ac.tmps[80]?).getD undef = .int .i64 k := (ha 80 (by decide)).trans h80
                clear h80
                clear ha hp
                refine Reg.Op1.plain rfl ?_
                go_wp2
                exact ⟨rfl, hK _ _ rfl (fun j k _ _ => Reg.Adds.refl _ _ _)⟩
              · intro val ac u hR hp ha K hK      -- 3: t82 := Op.fieldAddr 40 t81 2
                obtain ⟨w81, h81, r81⟩ := hp 2 (by decide)
                have e81 : (ac.tmps[81]?).getD undef = .pointer (some ⟨b2, o2 + k * 20, none⟩) := (ha 81 (by decide)).trans h81
                clear h81
                clear ha hp
                refine Reg.Op1.plain rfl ?_
                go_wp2
                exact ⟨rfl, hK _ _ rfl (fun j k _ _ => Reg.Adds.refl _ _ _)⟩
              · intro val ac u hR hp ha K hK      -- 4: t83 := Op.load 9 t82
                obtain ⟨w82, h82, r82⟩ := hp 3 (by decide)
                have e82 : (ac.tmps[82]?).getD undef = .pointer (some ⟨b2, o2 + k * 20 + 6, none⟩) := (ha 82 (by decide)).trans h82
                clear h82
                clear ha hp
                have z0 := (hR.cell (p := ⟨b2, o2 + k * 20 + 6, none⟩) hb2r).trans (HATX.out.c 6 _ rfl)
                refine Reg.Op1.plain rfl ?_
                go_wp2
                exact ⟨rfl, hK _ _ rfl (fun j k _ _ => Reg.Adds.refl _ _ _)⟩
              · intro val ac u hR hp ha K hK      -- 5: t84 := Op.move t8
                have e8 : (ac.tmps[8]?).getD undef = .slice (some ⟨bk, ok, none⟩) ks.length ck := ha 8 (by decide)
                clear ha hp
                refine Reg.Op1.plain rfl ?_
                go_wp2
                exact ⟨rfl, hK _ _ rfl (fun j k _ _ => Reg.Adds.refl _ _ _)⟩
              · intro val ac u hR hp ha K hK      -- 6: t85 := Op.move t10
                have e10 : (ac.tmps[10]?).getD undef = .int .i64 j := ha 10 (by decide)
                clear ha hp
                refine Reg.Op1.plain rfl ?_
                go_wp2
                exact ⟨rfl, hK _ _ rfl (fun j k _ _ => Reg.Adds.refl _ _ _)⟩
              · intro val ac u hR hp ha K hK      -- 7: t86 := Op.indexAddr 45 t84 t85
                obtain ⟨w84, h84, r84⟩ := hp 5 (by decide)
                have e84 : (ac.tmps[84]?).getD undef = .slice (some ⟨bk, ok, none⟩) ks.length ck := (ha 84 (by decide)).trans h84
                clear h84
                obtain ⟨w85, h85, r85⟩ := hp 6 (by decide)
                have e85 : (ac.tmps[85]?).getD undef = .int .i64 j := (ha 85 (by decide)).trans h85
                clear h85
                clear ha hp
                refine Reg.Op1.plain rfl ?_
                go_wp2
                exact ⟨rfl, hK _ _ rfl (fun j k _ _ => Reg.Adds.refl _ _ _)⟩
              · intro val ac u hR hp ha K hK      -- 8: t87 := Op.load 9 t86
                obtain ⟨w86, h86, r86⟩ := hp 7 (by decide)
                have e86 : (ac.tmps[86]?).getD undef = .pointer (some ⟨bk, ok + j, none⟩) := (ha 86 (by decide)).trans h86
                clear h86
                clear ha hp
                have z1 := (hR.cell (p := ⟨bk, ok + j, none⟩) hbkr).trans XKR.out
                refine Reg.Op1.plain rfl ?_
                go_wp2
                exact ⟨rfl, hK _ _ rfl (fun j k _ _ => Reg.Adds.refl _ _ _)⟩
              · intro val ac u hR hp ha K hK      -- 9: t88 := Op.binOp BinOp.neq 9 t83 t87 9
                obtain ⟨w83, h83, r83⟩ := hp 4 (by decide)
                have e83 : (ac.tmps[83]?).getD undef = .string x.key := (ha 83 (by decide)).trans h83
                clear h83
                obtain ⟨w87, h87, r87⟩ := hp 8 (by decide)
                have e87 : (ac.tmps[87]?).getD undef = .string q := (ha 87 (by decide)).trans h87
                clear h87
                clear ha hp
                have hkd := HKD.out
                refine Reg.Op1.plain rfl ?_
                go_wp2
                exact ⟨rfl, hK _ _ rfl (fun j k _ _ => Reg.Adds.refl _ _ _)⟩
              · intro val ac u hR hp ha K hK      -- 10: t89 := Op.move t88
                obtain ⟨w88, h88, r88⟩ := hp 9 (by decide)
                have e88 : (ac.tmps[88]?).getD undef = .bool false := (ha 88 (by decide)).trans h88
                clear h88
                clear ha hp
                refine Reg.Op1.plain rfl ?_
                go_wp2
                exact ⟨rfl, hK _ _ rfl (fun j k _ _ => Reg.Adds.refl _ _ _)⟩
              · intro val ac u hR hp ha K hK      -- 11: t90 := Op.move t11
                have e11 : (ac.tmps[11]?).getD undef = .slice (some ⟨b2, o2, none⟩) l.length cl := ha 11 (by decide)
                obtain ⟨w89, h89, r89⟩ := hp 10 (by decide)
                have e89 : (ac.tmps[89]?).getD undef = .bool false := (ha 89 (by decide)).trans h89
                clear h89
                clear ha hp
                refine Reg.Op1.guarded rfl rfl e89 (fun _ => Reg.Op1.plain rfl ?_) (fun h => absurd rfl h)
                go_wp2
                exact ⟨rfl, hK _ _ rfl (fun j k _ _ => Reg.Adds.refl _ _ _)⟩
              · intro val ac u hR hp ha K hK      -- 12: t91 := Op.move t16
                have e16 : (ac.tmps[16]?).getD undef = .int .i64 k := ha 16 (by decide)
                obtain ⟨w89, h89, r89⟩ := hp 10 (by decide)
                have e89 : (ac.tmps[89]?).getD undef = .bool false := (ha 89 (by decide)).trans h89
                clear h89
                clear ha hp
                refine Reg.Op1.guarded rfl rfl e89 (fun _ => Reg.Op1.plain rfl ?_) (fun h => absurd rfl h)
                go_wp2
                exact ⟨rfl, hK _ _ rfl (fun j k _ _ => Reg.Adds.refl _ _ _)⟩
              · intro val ac u hR hp ha K hK      -- 13: t92 := Op.indexAddr 22 t90 t91
                obtain ⟨w90, h90, r90⟩ := hp 11 (by decide)
                have e90 : (ac.tmps[90]?).getD undef = .slice (some ⟨b2, o2, none⟩) l.length cl := (ha 90 (by decide)).trans h90
                clear h90
                obtain ⟨w91, h91, r91⟩ := hp 12 (by decide)
                have e91 : (ac.tmps[91]?).getD undef = .int .i64 k := (ha 91 (by decide)).trans h91
                clear h91
                obtain ⟨w89, h89, r89⟩ := hp 10 (by decide)
                have e89 : (ac.tmps[89]?).getD undef = .bool false := (ha 89 (by decide)).trans h89
                clear h89
                clear ha hp
                refine Reg.Op1.guarded rfl rfl e89 (fun _ => Reg.Op1.plain rfl ?_) (fun h => absurd rfl h)
                go_wp2
                exact ⟨rfl, hK _ _ rfl (fun j k _ _ => Reg.Adds.refl _ _ _)⟩
              · intro val ac u hR hp ha K hK      -- 14: t93 := Op.fieldAddr 40 t92 0
                obtain ⟨w92, h92, r92⟩ := hp 13 (by decide)
                have e92 : (ac.tmps[92]?).getD undef = .pointer (some ⟨b2, o2 + k * 20, none⟩) := (ha 92 (by decide)).trans h92
                clear h92
                obtain ⟨w89, h89, r89⟩ := hp 10 (by decide)
                have e89 : (ac.tmps[89]?).getD undef = .bool false := (ha 89 (by decide)).trans h89
                clear h89
                clear ha hp
                refine Reg.Op1.guarded rfl rfl e89 (fun _ => Reg.Op1.plain rfl ?_) (fun h => absurd rfl h)
                go_wp2
                exact ⟨rfl, hK _ _ rfl (fun j k _ _ => Reg.Adds.refl _ _ _)⟩
              · intro val ac u hR hp ha K hK      -- 15: t94 := Op.fieldAddr 34 t93 1
                obtain ⟨w93, h93, r93⟩ := hp 14 (by decide)
                have e93 : (ac.tmps[93]?).getD undef = .pointer (some ⟨b2, o2 + k * 20, none⟩) := (ha 93 (by decide)).trans h93
                clear h93
                obtain ⟨w89, h89, r89⟩ := hp 10 (by decide)
                have e89 : (ac.tmps[89]?).getD undef = .bool false := (ha 89 (by decide)).trans h89
                clear h89
                clear ha hp
                refine Reg.Op1.guarded rfl rfl e89 (fun _ => Reg.Op1.plain rfl ?_) (fun h => absurd rfl h)
                go_wp2
                exact ⟨rfl, hK _ _ rfl (fun j k _ _ => Reg.Adds.refl _ _ _)⟩
              · intro val ac u hR hp ha K hK      -- 16: t95 := Op.load 3 t94
                obtain ⟨w94, h94, r94⟩ := hp 15 (by decide)
                have e94 : (ac.tmps[94]?).getD undef = .pointer (some ⟨b2, o2 + k * 20 + 1, none⟩) := (ha 94 (by decide)).trans h94
                clear h94
                obtain ⟨w89, h89, r89⟩ := hp 10 (by decide)
                have e89 : (ac.tmps[89]?).getD undef = .bool false := (ha 89 (by decide)).trans h89
                clear h89
                clear ha hp
                have z2 := (hR.cell (p := ⟨b2, o2 + k * 20 + 1, none⟩) hb2r).trans (HATX.out.c 1 _ rfl)
                rw [HXR.out] at z2
                refine Reg.Op1.guarded rfl rfl e89 (fun _ => Reg.Op1.plain rfl ?_) (fun h => absurd rfl h)
                go_wp2
                exact ⟨rfl, hK _ _ rfl (fun j k _ _ => Reg.Adds.refl _ _ _)⟩
              · intro val ac u hR hp ha K hK      -- 17: t96 := Op.move t0
                have e0 : (ac.tmps[0]?).getD undef = .int .i64 rng := ha 0 (by decide)
                obtain ⟨w89, h89, r89⟩ := hp 10 (by decide)
                have e89 : (ac.tmps[89]?).getD undef = .bool false := (ha 89 (by decide)).trans h89
                clear h89
                clear ha hp
                refine Reg.Op1.guarded rfl rfl e89 (fun _ => Reg.Op1.plain rfl ?_) (fun h => absurd rfl h)
                go_wp2
                exact ⟨rfl, hK _ _ rfl (fun j k _ _ => Reg.Adds.refl _ _ _)⟩
              · intro val ac u hR hp ha K hK      -- 18: t97 := Op.binOp BinOp.neq 3 t95 t96 3
                obtain ⟨w95, h95, r95⟩ := hp 16 (by decide)
                have e95 : (ac.tmps[95]?).getD undef = .int .i64 rng := (ha 95 (by decide)).trans h95
                clear h95
                obtain ⟨w96, h96, r96⟩ := hp 17 (by decide)
                have e96 : (ac.tmps[96]?).getD undef = .int .i64 rng := (ha 96 (by decide)).trans h96
                clear h96
                obtain ⟨w89, h89, r89⟩ := hp 10 (by decide)
                have e89 : (ac.tmps[89]?).getD undef = .bool false := (ha 89 (by decide)).trans h89
                clear h89
                clear ha hp
                have hrr : (rng != rng) = false := by simp
                refine Reg.Op1.guarded rfl rfl e89 (fun _ => Reg.Op1.plain rfl ?_) (fun h => absurd rfl h)
                go_wp2
                exact ⟨rfl, hK _ _ rfl (fun j k _ _ => Reg.Adds.refl _ _ _)⟩
              · intro val ac u hR hp ha K hK      -- 19: t98 := Op.pick t89 (const (Value.bool true)) t97
                obtain ⟨w89, h89, r89⟩ := hp 10 (by decide)
                have e89 : (ac.tmps[89]?).getD undef = .bool false := (ha 89 (by decide)).trans h89
                clear h89
                obtain ⟨w97, h97, r97⟩ := hp 18 (by decide)
                have e97 : (ac.tmps[97]?).getD undef = .bool false := (ha 97 (by decide)).trans h97
                clear h97
                clear ha hp
                refine Reg.Op1.plain rfl ?_
                go_wp2
                exact ⟨rfl, hK _ _ rfl (fun j k _ _ => Reg.Adds.refl _ _ _)⟩
              · intro val ac u hR hp ha K hK      -- 20: t99 := Op.move t98
                obtain ⟨w98, h98, r98⟩ := hp 19 (by decide)
                have e98 : (ac.tmps[98]?).getD undef = .bool false := (ha 98 (by decide)).trans h98
                clear h98
                clear ha hp
                refine Reg.Op1.plain rfl ?_
                go_wp2
                exact ⟨rfl, hK _ _ rfl (fun j k _ _ => Reg.Adds.refl _ _ _)⟩
              · intro val ac u hR hp ha K hK      -- 21: t100 := Op.move t16
                have e16 : (ac.tmps[16]?).getD undef = .int .i64 k := ha 16 (by decide)
                obtain ⟨w99, h99, r99⟩ := hp 20 (by decide)
                have e99 : (ac.tmps[99]?).getD undef = .bool false := (ha 99 (by decide)).trans h99
                clear h99
                clear ha hp
                refine Reg.Op1.guarded rfl rfl e99 (fun _ => Reg.Op1.plain rfl ?_) (fun h => absurd rfl h)
                go_wp2
                exact ⟨rfl, hK _ _ rfl (fun j k _ _ => Reg.Adds.refl _ _ _)⟩
              · intro val ac u hR hp ha K hK      -- 22: t101 := Op.binOp BinOp.gtr 3 t100 (const (0:i64)) 3
                obtain ⟨w100, h100, r100⟩ := hp 21 (by decide)
                have e100 : (ac.tmps[100]?).getD undef = .int .i64 k := (ha 100 (by decide)).trans h100
                clear h100
                obtain ⟨w99, h99, r99⟩ := hp 20 (by decide)
                have e99 : (ac.tmps[99]?).getD undef = .bool false := (ha 99 (by decide)).trans h99
                clear h99
                clear ha hp
                refine Reg.Op1.guarded rfl rfl e99 (fun _ => Reg.Op1.plain rfl ?_) (fun h => absurd rfl h)
                go_wp2
                exact ⟨rfl, hK _ _ rfl (fun j k _ _ => Reg.Adds.refl _ _ _)⟩
              · intro val ac u hR hp ha K hK      -- 23: t102 := Op.move t101
                obtain ⟨w101, h101, r101⟩ := hp 22 (by decide)
                have e101 : (ac.tmps[101]?).getD undef = .bool true := (ha 101 (by decide)).trans h101
                clear h101
                obtain ⟨w99, h99, r99⟩ := hp 20 (by decide)
                have e99 : (ac.tmps[99]?).getD undef = .bool false := (ha 99 (by decide)).trans h99
                clear h99
                clear ha hp
                refine Reg.Op1.guarded rfl rfl e99 (fun _ => Reg.Op1.plain rfl ?_) (fun h => absurd rfl h)
                go_wp2
                exact ⟨rfl, hK _ _ rfl (fun j k _ _ => Reg.Adds.refl _ _ _)⟩
              · intro val ac u hR hp ha K hK      -- 24: t103 := Op.move t11
                have e11 : (ac.tmps[11]?).getD undef = .slice (some ⟨b2, o2, none⟩) l.length cl := ha 11 (by decide)
                obtain ⟨w102, h102, r102⟩ := hp 23 (by decide)
                have e102 : (ac.tmps[102]?).getD undef = .bool true := (ha 102 (by decide)).trans h102
                clear h102
                clear ha hp
                refine Reg.Op1.guarded rfl rfl e102 (fun _ => Reg.Op1.plain rfl ?_) (fun h => absurd rfl h)
                go_wp2
                exact ⟨rfl, hK _ _ rfl (fun j k _ _ => Reg.Adds.refl _ _ _)⟩
              · intro val ac u hR hp ha K hK      -- 25: t104 := Op.move t16
                have e16 : (ac.tmps[16]?).getD undef = .int .i64 k := ha 16 (by decide)
                obtain ⟨w102, h102, r102⟩ := hp 23 (by decide)
                have e102 : (ac.tmps[102]?).getD undef = .bool true := (ha 102 (by decide)).trans h102
                clear h102
                clear ha hp
                refine Reg.Op1.guarded rfl rfl e102 (fun _ => Reg.Op1.plain rfl ?_) (fun h => absurd rfl h)
                go_wp2
                exact ⟨rfl, hK _ _ rfl (fun j k _ _ => Reg.Adds.refl _ _ _)⟩
              · intro val ac u hR hp ha K hK      -- 26: t105 := Op.indexAddr 22 t103 t104
                obtain ⟨w103, h103, r103⟩ := hp 24 (by decide)
                have e103 : (ac.tmps[103]?).getD undef = .slice (some ⟨b2, o2, none⟩) l.length cl := (ha 103 (by decide)).trans h103
                clear h103
                obtain ⟨w104, h104, r104⟩ := hp 25 (by decide)
                have e104 : (ac.tmps[104]?).getD undef = .int .i64 k := (ha 104 (by decide)).trans h104
                clear h104
                obtain ⟨w102, h102, r102⟩ := hp 23 (by decide)
                have e102 : (ac.tmps[102]?).getD undef = .bool true := (ha 102 (by decide)).trans h102
                clear h102
                clear ha hp
                refine Reg.Op1.guarded rfl rfl e102 (fun _ => Reg.Op1.plain rfl ?_) (fun h => absurd rfl h)
                go_wp2
                exact ⟨rfl, hK _ _ rfl (fun j k _ _ => Reg.Adds.refl _ _ _)⟩
              · intro val ac u hR hp ha K hK      -- 27: t106 := Op.load 40 t105
                obtain ⟨w105, h105, r105⟩ := hp 26 (by decide)
                have e105 : (ac.tmps[105]?).getD undef = .pointer (some ⟨b2, o2 + k * 20, none⟩) := (ha 105 (by decide)).trans h105
                clear h105
                obtain ⟨w102, h102, r102⟩ := hp 23 (by decide)
                have e102 : (ac.tmps[102]?).getD undef = .bool true := (ha 102 (by decide)).trans h102
                clear h102
                clear ha hp
                refine Reg.Op1.guarded rfl rfl e102 (fun _ => Reg.Op1.plain rfl ?_) (fun h => absurd rfl h)
                refine Mem.load_aggG _ _ entry_agg b2 (o2 + k * 20) (entCells x) (by simp [Region.wanted]) (Reg.eval_of e105) (entCells_length _) (fun q u' hu => (hR.cell (p := ⟨b2, o2 + k * 20 + q, none⟩) hb2r).trans (HATX.out.c q u' hu)) ?_
                exact ⟨rfl, hK _ _ rfl (fun j k _ _ => Reg.Adds.refl _ _ _)⟩
              · intro val ac u hR hp ha K hK      -- 28: t107 := Op.move t11
                have e11 : (ac.tmps[11]?).getD undef = .slice (some ⟨b2, o2, none⟩) l.length cl := ha 11 (by decide)
                obtain ⟨w102, h102, r102⟩ := hp 23 (by decide)
                have e102 : (ac.tmps[102]?).getD undef = .bool true := (ha 102 (by decide)).trans h102
                clear h102
                clear ha hp
                refine Reg.Op1.guarded rfl rfl e102 (fun _ => Reg.Op1.plain rfl ?_) (fun h => absurd rfl h)
                go_wp2
                exact ⟨rfl, hK _ _ rfl (fun j k _ _ => Reg.Adds.refl _ _ _)⟩
              · intro val ac u hR hp ha K hK      -- 29: t108 := Op.move t16
                have e16 : (ac.tmps[16]?).getD undef = .int .i64 k := ha 16 (by decide)
                obtain ⟨w102, h102, r102⟩ := hp 23 (by decide)
                have e102 : (ac.tmps[102]?).getD undef = .bool true := (ha 102 (by decide)).trans h102
                clear h102
                clear ha hp
                refine Reg.Op1.guarded rfl rfl e102 (fun _ => Reg.Op1.plain rfl ?_) (fun h => absurd rfl h)
                go_wp2
                exact ⟨rfl, hK _ _ rfl (fun j k _ _ => Reg.Adds.refl _ _ _)⟩
              · intro val ac u hR hp ha K hK      -- 30: t109 := Op.binOp BinOp.sub 3 t108 (const (1:i64)) 3
                obtain ⟨w108, h108, r108⟩ := hp 29 (by decide)
                have e108 : (ac.tmps[108]?).getD undef = .int .i64 k := (ha 108 (by decide)).trans h108
                clear h108
                obtain ⟨w102, h102, r102⟩ := hp 23 (by decide)
                have e102 : (ac.tmps[102]?).getD undef = .bool true := (ha 102 (by decide)).trans h102
                clear h102
                clear ha hp
                have hwk := HWK.out
                refine Reg.Op1.guarded rfl rfl e102 (fun _ => Reg.Op1.plain rfl ?_) (fun h => absurd rfl h)
                go_wp2
                exact ⟨rfl, hK _ _ rfl (fun j k _ _ => Reg.Adds.refl _ _ _)⟩
              · intro val ac u hR hp ha K hK      -- 31: t110 := Op.indexAddr 22 t107 t109
                obtain ⟨w107, h107, r107⟩ := hp 28 (by decide)
                have e107 : (ac.tmps[107]?).getD undef = .slice (some ⟨b2, o2, none⟩) l.length cl := (ha 107 (by decide)).trans h107
                clear h107
                obtain ⟨w109, h109, r109⟩ := hp 30 (by decide)
                have e109 : (ac.tmps[109]?).getD undef = .int .i64 (km : Nat) := (ha 109 (by decide)).trans h109
                clear h109
                obtain ⟨w102, h102, r102⟩ := hp 23 (by decide)
                have e102 : (ac.tmps[102]?).getD undef = .bool true := (ha 102 (by decide)).trans h102
                clear h102
                clear ha hp
                refine Reg.Op1.guarded rfl rfl e102 (fun _ => Reg.Op1.plain rfl ?_) (fun h => absurd rfl h)
                go_wp2
                exact ⟨rfl, hK _ _ rfl (fun j k _ _ => Reg.Adds.refl _ _ _)⟩
              · intro val ac u hR hp ha K hK      -- 32: t111 := Op.load 40 t110
                obtain ⟨w110, h110, r110⟩ := hp 31 (by decide)
                have e110 : (ac.tmps[110]?).getD undef = .pointer (some ⟨b2, o2 + km * 20, none⟩) := (ha 110 (by decide)).trans h110
                clear h110
                obtain ⟨w102, h102, r102⟩ := hp 23 (by decide)
                have e102 : (ac.tmps[102]?).getD undef = .bool true := (ha 102 (by decide)).trans h102
                clear h102
                clear ha hp
                refine Reg.Op1.guarded rfl rfl e102 (fun _ => Reg.Op1.plain rfl ?_) (fun h => absurd rfl h)
                refine Mem.load_aggG _ _ entry_agg b2 (o2 + km * 20) (entCells y) (by simp [Region.wanted]) (Reg.eval_of e110) (entCells_length _) (fun q u' hu => (hR.cell (p := ⟨b2, o2 + km * 20 + q, none⟩) hb2r).trans (HATP.out.c q u' hu)) ?_
                exact ⟨rfl, hK _ _ rfl (fun j k _ _ => Reg.Adds.refl _ _ _)⟩
              · intro val ac u hR hp ha K hK      -- 33: t112 := Op.call { value (Operand.func 25), args := #[t106, t111], argTypes := #[40, 40] }
                obtain ⟨w106, h106, r106⟩ := hp 27 (by decide)
                have e106 : (ac.tmps[106]?).getD undef = Vec.E x := (ha 106 (by decide)).trans h106
                clear h106
                obtain ⟨w111, h111, r111⟩ := hp 32 (by decide)
                have e111 : (ac.tmps[111]?).getD undef = Vec.E y := (ha 111 (by decide)).trans h111
                clear h111
                obtain ⟨w102, h102, r102⟩ := hp 23 (by decide)
                have e102 : (ac.tmps[102]?).getD undef = .bool true := (ha 102 (by decide)).trans h102
                clear h102
                clear ha hp
                refine Reg.Op1.guarded rfl rfl e102 (fun _ => Reg.Op1.plain rfl ?_) (fun h => absurd rfl h)
                go_wp2_with fail
                refine (refGreater_any x y u).mono ?_
                rintro x9 w' ⟨rfl, hbw⟩
                rw [HYP.out]
                go_wp2_with fail
                exact ⟨rfl, hK _ _ rfl (fun j k _ _ => hbw)⟩
              · intro val ac u hR hp ha K hK      -- 34: t113 := Op.unOp UnOp.not 4 t112
                obtain ⟨w112, h112, r112⟩ := hp 33 (by decide)
                have e112 : (ac.tmps[112]?).getD undef = .bool true := (ha 112 (by decide)).trans h112
                clear h112
                obtain ⟨w102, h102, r102⟩ := hp 23 (by decide)
                have e102 : (ac.tmps[102]?).getD undef = .bool true := (ha 102 (by decide)).trans h102
                clear h102
                clear ha hp
                refine Reg.Op1.guarded rfl rfl e102 (fun _ => Reg.Op1.plain rfl ?_) (fun h => absurd rfl h)
                go_wp2
                exact ⟨rfl, hK _ _ rfl (fun j k _ _ => Reg.Adds.refl _ _ _)⟩
              · intro val ac u hR hp ha K hK      -- 35: t114 := Op.pick t102 t113 (const (Value.bool false))
                obtain ⟨w102, h102, r102⟩ := hp 23 (by decide)
                have e102 : (ac.tmps[102]?).getD undef = .bool true := (ha 102 (by decide)).trans h102
                clear h102
                obtain ⟨w113, h113, r113⟩ := hp 34 (by decide)
                have e113 : (ac.tmps[113]?).getD undef = .bool false := (ha 113 (by decide)).trans h113
                clear h113
                obtain ⟨w99, h99, r99⟩ := hp 20 (by decide)
                have e99 : (ac.tmps[99]?).getD undef = .bool false := (ha 99 (by decide)).trans h99
                clear h99
                clear ha hp
                refine Reg.Op1.guarded rfl rfl e99 (fun _ => Reg.Op1.plain rfl ?_) (fun h => absurd rfl h)
                go_wp2
                exact ⟨rfl, hK _ _ rfl (fun j k _ _ => Reg.Adds.refl _ _ _)⟩
              · intro val ac u hR hp ha K hK      -- 36: t115 := Op.pick t99 (const (Value.bool true)) t114
                obtain ⟨w99, h99, r99⟩ := hp 20 (by decide)
                have e99 : (ac.tmps[99]?).getD undef = .bool false := (ha 99 (by decide)).trans h99
                clear h99
                obtain ⟨w114, h114, r114⟩ := hp 35 (by decide)
                have e114 : (ac.tmps[114]?).getD undef = .bool false := (ha 114 (by decide)).trans h114
                clear h114
                clear ha hp
                refine Reg.Op1.plain rfl ?_
                go_wp2
                exact ⟨rfl, hK _ _ rfl (fun j k _ _ => Reg.Adds.refl _ _ _)⟩
            intro val u hR H
            obtain ⟨_, hv, _⟩ := H 36 (by decide)
            have hv : val 36 = .bool false := hv
            have HKu : Hid (Mem.Keeps (fun _ => False) wr u) := Mem.Keeps.of_below ((Below.refl _ wr).drew.trans hR)
            simp only [List.map_cons, List.map_nil, Reg.lay, Act.put, List.setIfInBounds_toArray, List.set_cons_succ, List.set_cons_zero, Nat.reduceAdd, hv]
            clear hR H hv
            obtain ⟨wy, hwy⟩ : ∃ z, z = u := ⟨_, rfl⟩
            subst hwy
            clear hdk HATP HWK
            have HKXY : Hid (Mem.Keeps (fun _ => False) wr wy) := HKu
            have HATY : Hid (EntAt wy b2 (o2 + k * 20) x) := ⟨fun j u hu => (HKu.out.cell (p := ⟨b2, o2 + k * 20 + j, none⟩) hb2r id).trans (HATX.out.c j u hu)⟩
            have hb2y : b2 < wy.heap.size := Nat.lt_of_lt_of_le hb2r HKu.out.size
            have HWY : Hid (EBx wy gw m) := HWm.out.keeps HKu.out id
            have HKY : Hid (Mem.Keeps (fun q => q = gw) w14 wy) := HKW.out.trans HKu.out (fun _ h _ => h.elim)
            have HCy : Hid (CBx wy gc col) := HCr.out.keeps HKu.out id
            clear HATX HKu HKXY HWm HKW HCr HYP XKR HKD HXR
            rcases hdd with hxd | hxd | hxd
            ·
              go_upto_region 22 with fail
              refine Reg.wp_region_rel (by kernel_rfl) 183 15 rfl rfl (by kernel_rfl) (Reg.Adds) (Reg.Adds.refl) (Reg.Adds.trans)
                (fun i v u => match i with
                  | 0 => v = .slice (some ⟨b2, o2, none⟩) l.length cl
                  | 1 => v = .int .i64 k
                  | 2 => v = .pointer (some ⟨b2, o2 + k * 20, none⟩)
                  | 3 => v = .pointer (some ⟨b2, o2 + k * 20, none⟩)
                  | 4 => v = .pointer (some ⟨b2, o2 + k * 20 + 2, none⟩)
                  | 5 => v = .int .i64 x.seq
                  | 6 => v = .slice (some ⟨b2, o2, none⟩) l.length cl
                  | 7 => v = .int .i64 k
                  | 8 => v = .pointer (some ⟨b2, o2 + k * 20, none⟩)
                  | 9 => v = .pointer (some ⟨b2, o2 + k * 20, none⟩)
                  | 10 => v = .pointer (some ⟨b2, o2 + k * 20, none⟩)
                  | 11 => v = .int .i64 0
                  | 12 => v = .pointer (some ⟨gc, 0, none⟩)
                  | 13 => v = .int .i64 col.a
                  | 14 => v = .bool (decide (x.seq ≤ col.a))
                  | _ => True) ?_ ?_
              · refine Reg.Steps.cons ?_ (Reg.Steps.cons ?_ (Reg.Steps.cons ?_ (Reg.Steps.cons ?_ (Reg.Steps.cons ?_ (Reg.Steps.cons ?_ (Reg.Steps.cons ?_ (Reg.Steps.cons ?_ (Reg.Steps.cons ?_ (Reg.Steps.cons ?_ (Reg.Steps.cons ?_ (Reg.Steps.cons ?_ (Reg.Steps.cons ?_ (Reg.Steps.cons ?_ (Reg.Steps.cons ?_ (Reg.Steps.nil _)))))))))))))))
                · intro val ac u hR hp ha K hK      -- 0: t116 := Op.move t11
                  have e11 : (ac.tmps[11]?).getD undef = .slice (some ⟨b2, o2, none⟩) l.length cl := ha 11 (by decide)
                  clear ha hp
                  refine Reg.Op1.plain rfl ?_
                  go_wp2
                  exact ⟨rfl, hK _ _ rfl (fun j k _ _ => Reg.Adds.refl _ _ _)⟩
                · intro val ac u hR hp ha K hK      -- 1: t117 := Op.move t16
                  have e16 : (ac.tmps[16]?).getD undef = .int .i64 k := ha 16 (by decide)
                  clear ha hp
                  refine Reg.Op1.plain rfl ?_
                  go_wp2
                  exact ⟨rfl, hK _ _ rfl (fun j k _ _ => Reg.Adds.refl _ _ _)⟩
                · intro val ac u hR hp ha K hK      -- 2: t118 := Op.indexAddr 22 t116 t117
                  obtain ⟨w116, h116, r116⟩ := hp 0 (by decide)
                  have e116 : (ac.tmps[116]?).getD undef = .slice (some ⟨b2, o2, none⟩) l.length cl := (ha 116 (by decide)).trans h116
                  clear h116
                  obtain ⟨w117, h117, r117⟩ := hp 1 (by decide)
                  have e117 : (ac.tmps[117]?).getD undef = .int .i64 k := (ha 117 (by decide)).trans h117
                  clear h117
                  clear ha hp
                  refine Reg.Op1.plain rfl ?_
                  go_wp2
                  exact ⟨rfl, hK _ _ rfl (fun j k _ _ => Reg.Adds.refl _ _ _)⟩
                · intro val ac u hR hp ha K hK      -- 3: t119 := Op.fieldAddr 40 t118 0
                  obtain ⟨w118, h118, r118⟩ := hp 2 (by decide)
                  have e118 : (ac.tmps[118]?).getD undef = .pointer (some ⟨b2, o2 + k * 20, none⟩) := (ha 118 (by decide)).trans h118
                  clear h118
                  clear ha hp
                  refine Reg.Op1.plain rfl ?_
                  go_wp2
                  exact ⟨rfl, hK _ _ rfl (fun j k _ _ => Reg.Adds.refl _ _ _)⟩
                · intro val ac u hR hp ha K hK      -- 4: t120 := Op.fieldAddr 34 t119 2
                  obtain ⟨w119, h119, r119⟩ := hp 3 (by decide)
                  have e119 : (ac.tmps[119]?).getD undef = .pointer (some ⟨b2, o2 + k * 20, none⟩) := (ha 119 (by decide)).trans h119
                  clear h119
                  clear ha hp
                  refine Reg.Op1.plain rfl ?_
                  go_wp2
                  exact ⟨rfl, hK _ _ rfl (fun j k _ _ => Reg.Adds.refl _ _ _)⟩
                · intro val ac u hR hp ha K hK      -- 5: t121 := Op.load 3 t120
                  obtain ⟨w120, h120, r120⟩ := hp 4 (by decide)
                  have e120 : (ac.tmps[120]?).getD undef = .pointer (some ⟨b2, o2 + k * 20 + 2, none⟩) := (ha 120 (by decide)).trans h120
                  clear h120
                  clear ha hp
                  have z2 := (hR.cell (p := ⟨b2, o2 + k * 20 + 2, none⟩) hb2y).trans (HATY.out.c 2 _ rfl)
                  refine Reg.Op1.plain rfl ?_
                  go_wp2
                  exact ⟨rfl, hK _ _ rfl (fun j k _ _ => Reg.Adds.refl _ _ _)⟩
                · intro val ac u hR hp ha K hK      -- 6: t122 := Op.move t11
                  have e11 : (ac.tmps[11]?).getD undef = .slice (some ⟨b2, o2, none⟩) l.length cl := ha 11 (by decide)
                  clear ha hp
                  refine Reg.Op1.plain rfl ?_
                  go_wp2
                  exact ⟨rfl, hK _ _ rfl (fun j k _ _ => Reg.Adds.refl _ _ _)⟩
                · intro val ac u hR hp ha K hK      -- 7: t123 := Op.move t16
                  have e16 : (ac.tmps[16]?).getD undef = .int .i64 k := ha 16 (by decide)
                  clear ha hp
                  refine Reg.Op1.plain rfl ?_
                  go_wp2
                  exact ⟨rfl, hK _ _ rfl (fun j k _ _ => Reg.Adds.refl _ _ _)⟩
                · intro val ac u hR hp ha K hK      -- 8: t124 := Op.indexAddr 22 t122 t123
                  obtain ⟨w122, h122, r122⟩ := hp 6 (by decide)
                  have e122 : (ac.tmps[122]?).getD undef = .slice (some ⟨b2, o2, none⟩) l.length cl := (ha 122 (by decide)).trans h122
                  clear h122
                  obtain ⟨w123, h123, r123⟩ := hp 7 (by decide)
                  have e123 : (ac.tmps[123]?).getD undef = .int .i64 k := (ha 123 (by decide)).trans h123
                  clear h123
                  clear ha hp
                  refine Reg.Op1.plain rfl ?_
                  go_wp2
                  exact ⟨rfl, hK _ _ rfl (fun j k _ _ => Reg.Adds.refl _ _ _)⟩
                · intro val ac u hR hp ha K hK      -- 9: t125 := Op.fieldAddr 40 t124 0
                  obtain ⟨w124, h124, r124⟩ := hp 8 (by decide)
                  have e124 : (ac.tmps[124]?).getD undef = .pointer (some ⟨b2, o2 + k * 20, none⟩) := (ha 124 (by decide)).trans h124
                  clear h124
                  clear ha hp
                  refine Reg.Op1.plain rfl ?_
                  go_wp2
                  exact ⟨rfl, hK _ _ rfl (fun j k _ _ => Reg.Adds.refl _ _ _)⟩
                · intro val ac u hR hp ha K hK      -- 10: t126 := Op.fieldAddr 34 t125 0
                  obtain ⟨w125, h125, r125⟩ := hp 9 (by decide)
                  have e125 : (ac.tmps[125]?).getD undef = .pointer (some ⟨b2, o2 + k * 20, none⟩) := (ha 125 (by decide)).trans h125
                  clear h125
                  clear ha hp
                  refine Reg.Op1.plain rfl ?_
                  go_wp2
                  exact ⟨rfl, hK _ _ rfl (fun j k _ _ => Reg.Adds.refl _ _ _)⟩
                · intro val ac u hR hp ha K hK      -- 11: t127 := Op.load 3 t126
                  obtain ⟨w126, h126, r126⟩ := hp 10 (by decide)
                  have e126 : (ac.tmps[126]?).getD undef = .pointer (some ⟨b2, o2 + k * 20, none⟩) := (ha 126 (by decide)).trans h126
                  clear h126
                  clear ha hp
                  have z0 := (hR.cell (p := ⟨b2, o2 + k * 20, none⟩) hb2y).trans (HATY.out.c 0 _ rfl)
                  rw [hxd] at z0
                  refine Reg.Op1.plain rfl ?_
                  go_wp2
                  exact ⟨rfl, hK _ _ rfl (fun j k _ _ => Reg.Adds.refl _ _ _)⟩
                · intro val ac u hR hp ha K hK      -- 12: t128 := Op.indexAddr 26 t5 t127
                  have e5 : (ac.tmps[5]?).getD undef = .pointer (some ⟨gc, 0, none⟩) := ha 5 (by decide)
                  obtain ⟨w127, h127, r127⟩ := hp 11 (by decide)
                  have e127 : (ac.tmps[127]?).getD undef = .int .i64 0 := (ha 127 (by decide)).trans h127
                  clear h127
                  clear ha hp
                  refine Reg.Op1.plain rfl ?_
                  go_wp2
                  exact ⟨rfl, hK _ _ rfl (fun j k _ _ => Reg.Adds.refl _ _ _)⟩
                · intro val ac u hR hp ha K hK      -- 13: t129 := Op.load 3 t128
                  obtain ⟨w128, h128, r128⟩ := hp 12 (by decide)
                  have e128 : (ac.tmps[128]?).getD undef = .pointer (some ⟨gc, 0, none⟩) := (ha 128 (by decide)).trans h128
                  clear h128
                  clear ha hp
                  have z0 := (hR.cell (p := ⟨gc, 0, none⟩) HCy.out.lt).trans (HCy.out.cell (j := 0) rfl)
                  refine Reg.Op1.plain rfl ?_
                  go_wp2
                  exact ⟨rfl, hK _ _ rfl (fun j k _ _ => Reg.Adds.refl _ _ _)⟩
                · intro val ac u hR hp ha K hK      -- 14: t130 := Op.binOp BinOp.leq 3 t121 t129 3
                  obtain ⟨w121, h121, r121⟩ := hp 5 (by decide)
                  have e121 : (ac.tmps[121]?).getD undef = .int .i64 x.seq := (ha 121 (by decide)).trans h121
                  clear h121
                  obtain ⟨w129, h129, r129⟩ := hp 13 (by decide)
                  have e129 : (ac.tmps[129]?).getD undef = .int .i64 col.a := (ha 129 (by decide)).trans h129
                  clear h129
                  clear ha hp
                  refine Reg.Op1.plain rfl ?_
                  go_wp2
                  exact ⟨rfl, hK _ _ rfl (fun j k _ _ => Reg.Adds.refl _ _ _)⟩
              intro val u hR H
              obtain ⟨_, hv, _⟩ := H 14 (by decide)
              have hv : val 14 = .bool (decide (x.seq ≤ col.a)) := hv
              have hud : under col x = decide (x.seq ≤ col.a) := by unfold under; rw [hxd]; rfl
              have HKv : Hid (Mem.Keeps (fun _ => False) wy u) := Mem.Keeps.of_below ((Below.refl _ wy).drew.trans hR)
              simp only [List.map_cons, List.map_nil, Reg.lay, Act.put, List.setIfInBounds_toArray, List.set_cons_succ, List.set_cons_zero, Nat.reduceAdd, hv]
              clear hR H hv
              obtain ⟨wz, hwz⟩ : ∃ z, z = u := ⟨_, rfl⟩
              subst hwz
              rw [hud] at HST
              clear hud
              have HWZ : Hid (EBx wz gw m) := HWY.out.keeps HKv.out id
              have HKZ : Hid (Mem.Keeps (fun q => q = gw) w14 wz) := HKY.out.trans HKv.out (fun _ h _ => h.elim)
              by_cases hse : x.seq ≤ col.a
              · have hsd : decide (x.seq ≤ col.a) = true := by simpa using hse
                have HST2 : Hid (asOfL col (l.take (k + 1)).reverse = ⟨x, true, 0⟩) := by show _ = _; rw [HST.out, hsd]; rfl
                have HATZ : Hid (∀ j u, (entCells x)[j]? = some u → wz.cell? ⟨b2, o2 + k * 20 + j, none⟩ = some u) := fun j u hu => (HKv.out.cell (p := ⟨b2, o2 + k * 20 + j, none⟩) hb2y id).trans (HATY.out.c j u hu)
                rw [hsd]
                clear HATY HWY HKY HKv
                go_wp2_with (first | ((with_reducible refine Mem.load_agg _ _ entry_agg b2 (o2 + k * 20) (entCells x) ?hxl (entCells_length x) HATZ.out ?_); (case hxl => exact rfl)) | ((with_reducible refine Mem.store_agg _ _ entry_agg gw (entCells m) (entCells x) ?hxs ?hys HWZ.out (entCells_length x) (ent_one x) ?_); ((case hxs => exact rfl); (case hys => exact rfl); intro wu hbu hku hsu; have HBU := Lib.hid hbu; have HKU := Lib.hid hku; clear hbu hku hsu)))
                go_roundw
                case rel => exact ⟨⟨k + 1, by omega, by rw [HST2.out], by go_num, Lib.hid (by rw [HST2.out]; exact HBU.out), Lib.hid (HKZ.out.trans HKU.out (fun _ h _ => h))⟩⟩
                case measure => simp [intOf]; omega
              · have hsd : decide (x.seq ≤ col.a) = false := by simpa using hse
                have HST2 : Hid (asOfL col (l.take (k + 1)).reverse = ao) := by show _ = _; rw [HST.out, hsd]; rfl
                rw [hsd]
                clear HATY HWY HKY HKv
                go_wp2
                go_roundw
                case rel => exact ⟨⟨k + 1, by omega, by rw [HST2.out], by go_num, Lib.hid (by rw [HST2.out, HMQ.out]; exact HWZ.out), HKZ⟩⟩
                case measure => simp [intOf]; omega
            ·
              go_upto_region 22 with fail
              refine Reg.wp_region_rel (by kernel_rfl) 183 15 rfl rfl (by kernel_rfl) (Reg.Adds) (Reg.Adds.refl) (Reg.Adds.trans)
                (fun i v u => match i with
                  | 0 => v = .slice (some ⟨b2, o2, none⟩) l.length cl
                  | 1 => v = .int .i64 k
                  | 2 => v = .pointer (some ⟨b2, o2 + k * 20, none⟩)
                  | 3 => v = .pointer (some ⟨b2, o2 + k * 20, none⟩)
                  | 4 => v = .pointer (some ⟨b2, o2 + k * 20 + 2, none⟩)
                  | 5 => v = .int .i64 x.seq
                  | 6 => v = .slice (some ⟨b2, o2, none⟩) l.length cl
                  | 7 => v = .int .i64 k
                  | 8 => v = .pointer (some ⟨b2, o2 + k * 20, none⟩)
                  | 9 => v = .pointer (some ⟨b2, o2 + k * 20, none⟩)
                  | 10 => v = .pointer (some ⟨b2, o2 + k * 20, none⟩)
                  | 11 => v = .int .i64 1
                  | 12 => v = .pointer (some ⟨gc, 1, none⟩)
                  | 13 => v = .int .i64 col.b
                  | 14 => v = .bool (decide (x.seq ≤ col.b))
                  | _ => True) ?_ ?_
              · refine Reg.Steps.cons ?_ (Reg.Steps.cons ?_ (Reg.Steps.cons ?_ (Reg.Steps.cons ?_ (Reg.Steps.cons ?_ (Reg.Steps.cons ?_ (Reg.Steps.cons ?_ (Reg.Steps.cons ?_ (Reg.Steps.cons ?_ (Reg.Steps.cons ?_ (Reg.Steps.cons ?_ (Reg.Steps.cons ?_ (Reg.Steps.cons ?_ (Reg.Steps.cons ?_ (Reg.Steps.cons ?_ (Reg.Steps.nil _)))))))))))))))
                · intro val ac u hR hp ha K hK      -- 0: t116 := Op.move t11
                  have e11 : (ac.tmps[11]?).getD undef = .slice (some ⟨b2, o2, none⟩) l.length cl := ha 11 (by decide)
                  clear ha hp
                  refine Reg.Op1.plain rfl ?_
                  go_wp2
                  exact ⟨rfl, hK _ _ rfl (fun j k _ _ => Reg.Adds.refl _ _ _)⟩
                · intro val ac u hR hp ha K hK      -- 1: t117 := Op.move t16
                  have e16 : (ac.tmps[16]?).getD undef = .int .i64 k := ha 16 (by decide)
                  clear ha hp
                  refine Reg.Op1.plain rfl ?_
                  go_wp2
                  exact ⟨rfl, hK _ _ rfl (fun j k _ _ => Reg.Adds.refl _ _ _)⟩
                · intro val ac u hR hp ha K hK      -- 2: t118 := Op.indexAddr 22 t116 t117
                  obtain ⟨w116, h116, r116⟩ := hp 0 (by decide)
                  have e116 : (ac.tmps[116]?).getD undef = .slice (some ⟨b2, o2, none⟩) l.length cl := (ha 116 (by decide)).trans h116
                  clear h116
                  obtain ⟨w117, h117, r117⟩ := hp 1 (by decide)
                  have e117 : (ac.tmps[117]?).getD undef = .int .i64 k := (ha 117 (by decide)).trans h117
                  clear h117
                  clear ha hp
                  refine Reg.Op1.plain rfl ?_
                  go_wp2
                  exact ⟨rfl, hK _ _ rfl (fun j k _ _ => Reg.Adds.refl _ _ _)⟩
                · intro val ac u hR hp ha K hK      -- 3: t119 := Op.fieldAddr 40 t118 0
                  obtain ⟨w118, h118, r118⟩ := hp 2 (by decide)
                  have e118 : (ac.tmps[118]?).getD undef = .pointer (some ⟨b2, o2 + k * 20, none⟩) := (ha 118 (by decide)).trans h118
                  clear h118
                  clear ha hp
                  refine Reg.Op1.plain rfl ?_
                  go_wp2
                  exact ⟨rfl, hK _ _ rfl (fun j k _ _ => Reg.Adds.refl _ _ _)⟩
                · intro val ac u hR hp ha K hK      -- 4: t120 := Op.fieldAddr 34 t119 2
                  obtain ⟨w119, h119, r119⟩ := hp 3 (by decide)
                  have e119 : (ac.tmps[119]?).getD undef = .pointer (some ⟨b2, o2 + k * 20, none⟩) := (ha 119 (by decide)).trans h119
                  clear h119
                  clear ha hp
                  refine Reg.Op1.plain rfl ?_
                  go_wp2
                  exact ⟨rfl, hK _ _ rfl (fun j k _ _ => Reg.Adds.refl _ _ _)⟩
                · intro val ac u hR hp ha K hK      -- 5: t121 := Op.load 3 t120
                  obtain ⟨w120, h120, r120⟩ := hp 4 (by decide)
                  have e120 : (ac.tmps[120]?).getD undef = .pointer (some ⟨b2, o2 + k * 20 + 2, none⟩) := (ha 120 (by decide)).trans h120
                  clear h120
                  clear ha hp
                  have z2 := (hR.cell (p := ⟨b2, o2 + k * 20 + 2, none⟩) hb2y).trans (HATY.out.c 2 _ rfl)
                  refine Reg.Op1.plain rfl ?_
                  go_wp2
                  exact ⟨rfl, hK _ _ rfl (fun j k _ _ => Reg.Adds.refl _ _ _)⟩
                · intro val ac u hR hp ha K hK      -- 6: t122 := Op.move t11
                  have e11 : (ac.tmps[11]?).getD undef = .slice (some ⟨b2, o2, none⟩) l.length cl := ha 11 (by decide)
                  clear ha hp
                  refine Reg.Op1.plain rfl ?_
                  go_wp2
                  exact ⟨rfl, hK _ _ rfl (fun j k _ _ => Reg.Adds.refl _ _ _)⟩
                · intro val ac u hR hp ha K hK      -- 7: t123 := Op.move t16
                  have e16 : (ac.tmps[16]?).getD undef = .int .i64 k := ha 16 (by decide)
                  clear ha hp
                  refine Reg.Op1.plain rfl ?_
                  go_wp2
                  exact ⟨rfl, hK _ _ rfl (fun j k _ _ => Reg.Adds.refl _ _ _)⟩
                · intro val ac u hR hp ha K hK      -- 8: t124 := Op.indexAddr 22 t122 t123
                  obtain ⟨w122, h122, r122⟩ := hp 6 (by decide)
                  have e122 : (ac.tmps[122]?).getD undef = .slice (some ⟨b2, o2, none⟩) l.length cl := (ha 122 (by decide)).trans h122
                  clear h122
                  obtain ⟨w123, h123, r123⟩ := hp 7 (by decide)
                  have e123 : (ac.tmps[123]?).getD undef = .int .i64 k := (ha 123 (by decide)).trans h123
                  clear h123
                  clear ha hp
                  refine Reg.Op1.plain rfl ?_
                  go_wp2
                  exact ⟨rfl, hK _ _ rfl (fun j k _ _ => Reg.Adds.refl _ _ _)⟩
                · intro val ac u hR hp ha K hK      -- 9: t125 := Op.fieldAddr 40 t124 0
                  obtain ⟨w124, h124, r124⟩ := hp 8 (by decide)
                  have e124 : (ac.tmps[124]?).getD undef = .pointer (some ⟨b2, o2 + k * 20, none⟩) := (ha 124 (by decide)).trans h124
                  clear h124
                  clear ha hp
                  refine Reg.Op1.plain rfl ?_
                  go_wp2
                  exact ⟨rfl, hK _ _ rfl (fun j k _ _ => Reg.Adds.refl _ _ _)⟩
                · intro val ac u hR hp ha K hK      -- 10: t126 := Op.fieldAddr 34 t125 0
                  obtain ⟨w125, h125, r125⟩ := hp 9 (by decide)
                  have e125 : (ac.tmps[125]?).getD undef = .pointer (some ⟨b2, o2 + k * 20, none⟩) := (ha 125 (by decide)).trans h125
                  clear h125
                  clear ha hp
                  refine Reg.Op1.plain rfl ?_
                  go_wp2
                  exact ⟨rfl, hK _ _ rfl (fun j k _ _ => Reg.Adds.refl _ _ _)⟩
                · intro val ac u hR hp ha K hK      -- 11: t127 := Op.load 3 t126
                  obtain ⟨w126, h126, r126⟩ := hp 10 (by decide)
                  have e126 : (ac.tmps[126]?).getD undef = .pointer (some ⟨b2, o2 + k * 20, none⟩) := (ha 126 (by decide)).trans h126
                  clear h126
                  clear ha hp
                  have z0 := (hR.cell (p := ⟨b2, o2 + k * 20, none⟩) hb2y).trans (HATY.out.c 0 _ rfl)
                  rw [hxd] at z0
                  refine Reg.Op1.plain rfl ?_
                  go_wp2
                  exact ⟨rfl, hK _ _ rfl (fun j k _ _ => Reg.Adds.refl _ _ _)⟩
                · intro val ac u hR hp ha K hK      -- 12: t128 := Op.indexAddr 26 t5 t127
                  have e5 : (ac.tmps[5]?).getD undef = .pointer (some ⟨gc, 0, none⟩) := ha 5 (by decide)
                  obtain ⟨w127, h127, r127⟩ := hp 11 (by decide)
                  have e127 : (ac.tmps[127]?).getD undef = .int .i64 1 := (ha 127 (by decide)).trans h127
                  clear h127
                  clear ha hp
                  refine Reg.Op1.plain rfl ?_
                  go_wp2
                  exact ⟨rfl, hK _ _ rfl (fun j k _ _ => Reg.Adds.refl _ _ _)⟩
                · intro val ac u hR hp ha K hK      -- 13: t129 := Op.load 3 t128
                  obtain ⟨w128, h128, r128⟩ := hp 12 (by decide)
                  have e128 : (ac.tmps[128]?).getD undef = .pointer (some ⟨gc, 1, none⟩) := (ha 128 (by decide)).trans h128
                  clear h128
                  clear ha hp
                  have z0 := (hR.cell (p := ⟨gc, 1, none⟩) HCy.out.lt).trans (HCy.out.cell (j := 1) rfl)
                  refine Reg.Op1.plain rfl ?_
                  go_wp2
                  exact ⟨rfl, hK _ _ rfl (fun j k _ _ => Reg.Adds.refl _ _ _)⟩
                · intro val ac u hR hp ha K hK      -- 14: t130 := Op.binOp BinOp.leq 3 t121 t129 3
                  obtain ⟨w121, h121, r121⟩ := hp 5 (by decide)
                  have e121 : (ac.tmps[121]?).getD undef = .int .i64 x.seq := (ha 121 (by decide)).trans h121
                  clear h121
                  obtain ⟨w129, h129, r129⟩ := hp 13 (by decide)
                  have e129 : (ac.tmps[129]?).getD undef = .int .i64 col.b := (ha 129 (by decide)).trans h129
                  clear h129
                  clear ha hp
                  refine Reg.Op1.plain rfl ?_
                  go_wp2
                  exact ⟨rfl, hK _ _ rfl (fun j k _ _ => Reg.Adds.refl _ _ _)⟩
              intro val u hR H
              obtain ⟨_, hv, _⟩ := H 14 (by decide)
              have hv : val 14 = .bool (decide (x.seq ≤ col.b)) := hv
              have hud : under col x = decide (x.seq ≤ col.b) := by unfold under; rw [hxd]; rfl
              have HKv : Hid (Mem.Keeps (fun _ => False) wy u) := Mem.Keeps.of_below ((Below.refl _ wy).drew.trans hR)
              simp only [List.map_cons, List.map_nil, Reg.lay, Act.put, List.setIfInBounds_toArray, List.set_cons_succ, List.set_cons_zero, Nat.reduceAdd, hv]
              clear hR H hv
              obtain ⟨wz, hwz⟩ : ∃ z, z = u := ⟨_, rfl⟩
              subst hwz
              rw [hud] at HST
              clear hud
              have HWZ : Hid (EBx wz gw m) := HWY.out.keeps HKv.out id
              have HKZ : Hid (Mem.Keeps (fun q => q = gw) w14 wz) := HKY.out.trans HKv.out (fun _ h _ => h.elim)
              by_cases hse : x.seq ≤ col.b
              · have hsd : decide (x.seq ≤ col.b) = true := by simpa using hse
                have HST2 : Hid (asOfL col (l.take (k + 1)).reverse = ⟨x, true, 0⟩) := by show _ = _; rw [HST.out, hsd]; rfl
                have HATZ : Hid (∀ j u, (entCells x)[j]? = some u → wz.cell? ⟨b2, o2 + k * 20 + j, none⟩ = some u) := fun j u hu => (HKv.out.cell (p := ⟨b2, o2 + k * 20 + j, none⟩) hb2y id).trans (HATY.out.c j u hu)
                rw [hsd]
                clear HATY HWY HKY HKv
                go_wp2_with (first | ((with_reducible refine Mem.load_agg _ _ entry_agg b2 (o2 + k * 20) (entCells x) ?hxl (entCells_length x) HATZ.out ?_); (case hxl => exact rfl)) | ((with_reducible refine Mem.store_agg _ _ entry_agg gw (entCells m) (entCells x) ?hxs ?hys HWZ.out (entCells_length x) (ent_one x) ?_); ((case hxs => exact rfl); (case hys => exact rfl); intro wu hbu hku hsu; have HBU := Lib.hid hbu; have HKU := Lib.hid hku; clear hbu hku hsu)))
                go_roundw
                case rel => exact ⟨⟨k + 1, by omega, by rw [HST2.out], by go_num, Lib.hid (by rw [HST2.out]; exact HBU.out), Lib.hid (HKZ.out.trans HKU.out (fun _ h _ => h))⟩⟩
                case measure => simp [intOf]; omega
              · have hsd : decide (x.seq ≤ col.b) = false := by simpa using hse
                have HST2 : Hid (asOfL col (l.take (k + 1)).reverse = ao) := by show _ = _; rw [HST.out, hsd]; rfl
                rw [hsd]
                clear HATY HWY HKY HKv
                go_wp2
                go_roundw
                case rel => exact ⟨⟨k + 1, by omega, by rw [HST2.out], by go_num, Lib.hid (by rw [HST2.out, HMQ.out]; exact HWZ.out), HKZ⟩⟩
                case measure => simp [intOf]; omega
            ·
              go_upto_region 22 with fail
              refine Reg.wp_region_rel (by kernel_rfl) 183 15 rfl rfl (by kernel_rfl) (Reg.Adds) (Reg.Adds.refl) (Reg.Adds.trans)
                (fun i v u => match i with
                  | 0 => v = .slice (some ⟨b2, o2, none⟩) l.length cl
                  | 1 => v = .int .i64 k
                  | 2 => v = .pointer (some ⟨b2, o2 + k * 20, none⟩)
                  | 3 => v = .pointer (some ⟨b2, o2 + k * 20, none⟩)
                  | 4 => v = .pointer (some ⟨b2, o2 + k * 20 + 2, none⟩)
                  | 5 => v = .int .i64 x.seq
                  | 6 => v = .slice (some ⟨b2, o2, none⟩) l.length cl
                  | 7 => v = .int .i64 k
                  | 8 => v = .pointer (some ⟨b2, o2 + k * 20, none⟩)
                  | 9 => v = .pointer (some ⟨b2, o2 + k * 20, none⟩)
                  | 10 => v = .pointer (some ⟨b2, o2 + k * 20, none⟩)
                  | 11 => v = .int .i64 2
                  | 12 => v = .pointer (some ⟨gc, 2, none⟩)
                  | 13 => v = .int .i64 col.c
                  | 14 => v = .bool (decide (x.seq ≤ col.c))
                  | _ => True) ?_ ?_
              · refine Reg.Steps.cons ?_ (Reg.Steps.cons ?_ (Reg.Steps.cons ?_ (Reg.Steps.cons ?_ (Reg.Steps.cons ?_ (Reg.Steps.cons ?_ (Reg.Steps.cons ?_ (Reg.Steps.cons ?_ (Reg.Steps.cons ?_ (Reg.Steps.cons ?_ (Reg.Steps.cons ?_ (Reg.Steps.cons ?_ (Reg.Steps.cons ?_ (Reg.Steps.cons ?_ (Reg.Steps.cons ?_ (Reg.Steps.nil _)))))))))))))))
                · intro val ac u hR hp ha K hK      -- 0: t116 := Op.move t11
                  have e11 : (ac.tmps[11]?).getD undef = .slice (some ⟨b2, o2, none⟩) l.length cl := ha 11 (by decide)
                  clear ha hp
                  refine Reg.Op1.plain rfl ?_
                  go_wp2
                  exact ⟨rfl, hK _ _ rfl (fun j k _ _ => Reg.Adds.refl _ _ _)⟩
                · intro val ac u hR hp ha K hK      -- 1: t117 := Op.move t16
                  have e16 : (ac.tmps[16]?).getD undef = .int .i64 k := ha 16 (by decide)
                  clear ha hp
                  refine Reg.Op1.plain rfl ?_
                  go_wp2
                  exact ⟨rfl, hK _ _ rfl (fun j k _ _ => Reg.Adds.refl _ _ _)⟩
                · intro val ac u hR hp ha K hK      -- 2: t118 := Op.indexAddr 22 t116 t117
                  obtain ⟨w116, h116, r116⟩ := hp 0 (by decide)
                  have e116 : (ac.tmps[116]?).getD undef = .slice (some ⟨b2, o2, none⟩) l.length cl := (ha 116 (by decide)).trans h116
                  clear h116
                  obtain ⟨w117, h117, r117⟩ := hp 1 (by decide)
                  have e117 : (ac.tmps[117]?).getD undef = .int .i64 k := (ha 117 (by decide)).trans h117
                  clear h117
                  clear ha hp
                  refine Reg.Op1.plain rfl ?_
                  go_wp2
                  exact ⟨rfl, hK _ _ rfl (fun j k _ _ => Reg.Adds.refl _ _ _)⟩
                · intro val ac u hR hp ha K hK      -- 3: t119 := Op.fieldAddr 40 t118 0
                  obtain ⟨w118, h118, r118⟩ := hp 2 (by decide)
                  have e118 : (ac.tmps[118]?).getD undef = .pointer (some ⟨b2, o2 + k * 20, none⟩) := (ha 118 (by decide)).trans h118
                  clear h118
                  clear ha hp
                  refine Reg.Op1.plain rfl ?_
                  go_wp2
                  exact ⟨rfl, hK _ _ rfl (fun j k _ _ => Reg.Adds.refl _ _ _)⟩
                · intro val ac u hR hp ha K hK      -- 4: t120 := Op.fieldAddr 34 t119 2
                  obtain ⟨w119, h119, r119⟩ := hp 3 (by decide)
                  have e119 : (ac.tmps[119]?).getD undef = .pointer (some ⟨b2, o2 + k * 20, none⟩) := (ha 119 (by decide)).trans h119
                  clear h119
                  clear ha hp
                  refine Reg.Op1.plain rfl ?_
                  go_wp2
                  exact ⟨rfl, hK _ _ rfl (fun j k _ _ => Reg.Adds.refl _ _ _)⟩
                · intro val ac u hR hp ha K hK      -- 5: t121 := Op.load 3 t120
                  obtain ⟨w120, h120, r120⟩ := hp 4 (by decide)
                  have e120 : (ac.tmps[120]?).getD undef = .pointer (some ⟨b2, o2 + k * 20 + 2, none⟩) := (ha 120 (by decide)).trans h120
                  clear h120
                  clear ha hp
                  have z2 := (hR.cell (p := ⟨b2, o2 + k * 20 + 2, none⟩) hb2y).trans (HATY.out.c 2 _ rfl)
                  refine Reg.Op1.plain rfl ?_
                  go_wp2
                  exact ⟨rfl, hK _ _ rfl (fun j k _ _ => Reg.Adds.refl _ _ _)⟩
                · intro val ac u hR hp ha K hK      -- 6: t122 := Op.move t11
                  have e11 : (ac.tmps[11]?).getD undef = .slice (some ⟨b2, o2, none⟩) l.length cl := ha 11 (by decide)
                  clear ha hp
                  refine Reg.Op1.plain rfl ?_
                  go_wp2
                  exact ⟨rfl, hK _ _ rfl (fun j k _ _ => Reg.Adds.refl _ _ _)⟩
                · intro val ac u hR hp ha K hK      -- 7: t123 := Op.move t16
                  have e16 : (ac.tmps[16]?).getD undef = .int .i64 k := ha 16 (by decide)
                  clear ha hp
                  refine Reg.Op1.plain rfl ?_
                  go_wp2
                  exact ⟨rfl, hK _ _ rfl (fun j k _ _ => Reg.Adds.refl _ _ _)⟩
                · intro val ac u hR hp ha K hK      -- 8: t124 := Op.indexAddr 22 t122 t123
                  obtain ⟨w122, h122, r122⟩ := hp 6 (by decide)
                  have e122 : (ac.tmps[122]?).getD undef = .slice (some ⟨b2, o2, none⟩) l.length cl := (ha 122 (by decide)).trans h122
                  clear h122
                  obtain ⟨w123, h123, r123⟩ := hp 7 (by decide)
                  have e123 : (ac.tmps[123]?).getD undef = .int .i64 k := (ha 123 (by decide)).trans h123
                  clear h123
                  clear ha hp
                  refine Reg.Op1.plain rfl ?_
                  go_wp2
                  exact ⟨rfl, hK _ _ rfl (fun j k _ _ => Reg.Adds.refl _ _ _)⟩
                · intro val ac u hR hp ha K hK      -- 9: t125 := Op.fieldAddr 40 t124 0
                  obtain ⟨w124, h124, r124⟩ := hp 8 (by decide)
                  have e124 : (ac.tmps[124]?).getD undef = .pointer (some ⟨b2, o2 + k * 20, none⟩) := (ha 124 (by decide)).trans h124
                  clear h124
                  clear ha hp
                  refine Reg.Op1.plain rfl ?_
                  go_wp2
                  exact ⟨rfl, hK _ _ rfl (fun j k _ _ => Reg.Adds.refl _ _ _)⟩
                · intro val ac u hR hp ha K hK      -- 10: t126 := Op.fieldAddr 34 t125 0
                  obtain ⟨w125, h125, r125⟩ := hp 9 (by decide)
                  have e125 : (ac.tmps[125]?).getD undef = .pointer (some ⟨b2, o2 + k * 20, none⟩) := (ha 125 (by decide)).trans h125
                  clear h125
                  clear ha hp
                  refine Reg.Op1.plain rfl ?_
                  go_wp2
                  exact ⟨rfl, hK _ _ rfl (fun j k _ _ => Reg.Adds.refl _ _ _)⟩
                · intro val ac u hR hp ha K hK      -- 11: t127 := Op.load 3 t126
                  obtain ⟨w126, h126, r126⟩ := hp 10 (by decide)
                  have e126 : (ac.tmps[126]?).getD undef = .pointer (some ⟨b2, o2 + k * 20, none⟩) := (ha 126 (by decide)).trans h126
                  clear h126
                  clear ha hp
                  have z0 := (hR.cell (p := ⟨b2, o2 + k * 20, none⟩) hb2y).trans (HATY.out.c 0 _ rfl)
                  rw [hxd] at z0
                  refine Reg.Op1.plain rfl ?_
                  go_wp2
                  exact ⟨rfl, hK _ _ rfl (fun j k _ _ => Reg.Adds.refl _ _ _)⟩
                · intro val ac u hR hp ha K hK      -- 12: t128 := Op.indexAddr 26 t5 t127
                  have e5 : (ac.tmps[5]?).getD undef = .pointer (some ⟨gc, 0, none⟩) := ha 5 (by decide)
                  obtain ⟨w127, h127, r127⟩ := hp 11 (by decide)
                  have e127 : (ac.tmps[127]?).getD undef = .int .i64 2 := (ha 127 (by decide)).trans h127
                  clear h127
                  clear ha hp
                  refine Reg.Op1.plain rfl ?_
                  go_wp2
                  exact ⟨rfl, hK _ _ rfl (fun j k _ _ => Reg.Adds.refl _ _ _)⟩
                · intro val ac u hR hp ha K hK      -- 13: t129 := Op.load 3 t128
                  obtain ⟨w128, h128, r128⟩ := hp 12 (by decide)
                  have e128 : (ac.tmps[128]?).getD undef = .pointer (some ⟨gc, 2, none⟩) := (ha 128 (by decide)).trans h128
                  clear h128
                  clear ha hp
                  have z0 := (hR.cell (p := ⟨gc, 2, none⟩) HCy.out.lt).trans (HCy.out.cell (j := 2) rfl)
                  refine Reg.Op1.plain rfl ?_
                  go_wp2
                  exact ⟨rfl, hK _ _ rfl (fun j k _ _ => Reg.Adds.refl _ _ _)⟩
                · intro val ac u hR hp ha K hK      -- 14: t130 := Op.binOp BinOp.leq 3 t121 t129 3
                  obtain ⟨w121, h121, r121⟩ := hp 5 (by decide)
                  have e121 : (ac.tmps[121]?).getD undef = .int .i64 x.seq := (ha 121 (by decide)).trans h121
                  clear h121
                  obtain ⟨w129, h129, r129⟩ := hp 13 (by decide)
                  have e129 : (ac.tmps[129]?).getD undef = .int .i64 col.c := (ha 129 (by decide)).trans h129
                  clear h129
                  clear ha hp
                  refine Reg.Op1.plain rfl ?_
                  go_wp2
                  exact ⟨rfl, hK _ _ rfl (fun j k _ _ => Reg.Adds.refl _ _ _)⟩
              intro val u hR H
              obtain ⟨_, hv, _⟩ := H 14 (by decide)
              have hv : val 14 = .bool (decide (x.seq ≤ col.c)) := hv
              have hud : under col x = decide (x.seq ≤ col.c) := by unfold under; rw [hxd]; rfl
              have HKv : Hid (Mem.Keeps (fun _ => False) wy u) := Mem.Keeps.of_below ((Below.refl _ wy).drew.trans hR)
              simp only [List.map_cons, List.map_nil, Reg.lay, Act.put, List.setIfInBounds_toArray, List.set_cons_succ, List.set_cons_zero, Nat.reduceAdd, hv]
              clear hR H hv
              obtain ⟨wz, hwz⟩ : ∃ z, z = u := ⟨_, rfl⟩
              subst hwz
              rw [hud] at HST
              clear hud
              have HWZ : Hid (EBx wz gw m) := HWY.out.keeps HKv.out id
              have HKZ : Hid (Mem.Keeps (fun q => q = gw) w14 wz) := HKY.out.trans HKv.out (fun _ h _ => h.elim)
              by_cases hse : x.seq ≤ col.c
              · have hsd : decide (x.seq ≤ col.c) = true := by simpa using hse
                have HST2 : Hid (asOfL col (l.take (k + 1)).reverse = ⟨x, true, 0⟩) := by show _ = _; rw [HST.out, hsd]; rfl
                have HATZ : Hid (∀ j u, (entCells x)[j]? = some u → wz.cell? ⟨b2, o2 + k * 20 + j, none⟩ = some u) := fun j u hu => (HKv.out.cell (p := ⟨b2, o2 + k * 20 + j, none⟩) hb2y id).trans (HATY.out.c j u hu)
                rw [hsd]
                clear HATY HWY HKY HKv
                go_wp2_with (first | ((with_reducible refine Mem.load_agg _ _ entry_agg b2 (o2 + k * 20) (entCells x) ?hxl (entCells_length x) HATZ.out ?_); (case hxl => exact rfl)) | ((with_reducible refine Mem.store_agg _ _ entry_agg gw (entCells m) (entCells x) ?hxs ?hys HWZ.out (entCells_length x) (ent_one x) ?_); ((case hxs => exact rfl); (case hys => exact rfl); intro wu hbu hku hsu; have HBU := Lib.hid hbu; have HKU := Lib.hid hku; clear hbu hku hsu)))
                go_roundw
                case rel => exact ⟨⟨k + 1, by omega, by rw [HST2.out], by go_num, Lib.hid (by rw [HST2.out]; exact HBU.out), Lib.hid (HKZ.out.trans HKU.out (fun _ h _ => h))⟩⟩
                case measure => simp [intOf]; omega
              · have hsd : decide (x.seq ≤ col.c) = false := by simpa using hse
                have HST2 : Hid (asOfL col (l.take (k + 1)).reverse = ao) := by show _ = _; rw [HST.out, hsd]; rfl
                rw [hsd]
                clear HATY HWY HKY HKv
                go_wp2
                go_roundw
                case rel => exact ⟨⟨k + 1, by omega, by rw [HST2.out], by go_num, Lib.hid (by rw [HST2.out, HMQ.out]; exact HWZ.out), HKZ⟩⟩
                case measure => simp [intOf]; omega
        · obtain rfl : k = l.length := by omega
          rw [List.take_length] at HWm ⊢
          have HKc : Hid (Below w14.heap.size w14 w14) := Below.refl _ _
          have hb2r : b2 < wr.heap.size := Nat.lt_of_lt_of_le (HO14.out.lt rfl) HKW.out.size
          have HOr : Hid (EOwn wr (some ⟨b2, o2, none⟩) cl l) := HO14.out.keeps HKW.out (fun k hk h => by cases hk; exact hbne h)
          have HCT : Hid (CBx wr gc col) := HC14.out.keeps HKW.out (by omega)
          have HTM : Hid (Mine w2.heap.size wr g b rng mk rs) := HM14.out.keeps HKW.out HFG.out
          have HQC : Hid (bk < wr.heap.size ∧ wr.cell? ⟨bk, ok + j, none⟩ = some (.string q)) := ⟨Nat.lt_of_lt_of_le hbk14 HKW.out.size, (HKW.out.cell (p := ⟨bk, ok + j, none⟩) hbk14 (by show ¬ bk = gw; omega)).trans X14.out⟩
          have HBR : Hid (Below wa.heap.size wa wr) := HB14.out.trans (HKW.out.below (fun y h => by omega) HB14.out.size)
          obtain ⟨an, han⟩ : ∃ an, asOf (states rs) mk q col = an := ⟨_, rfl⟩
          have HAN := Lib.hid han
          have HLQ := HHB
          obtain ⟨ao, hao⟩ : ∃ ao, asOfL col l.reverse = ao := ⟨_, rfl⟩
          rw [hao] at HWm ⊢
          have HAO := Lib.hid hao
          obtain ⟨wd, hwd⟩ : ∃ z, z = wr := ⟨_, rfl⟩
          subst hwd
          clear han hao HKW HO14 HC14 HM14 HB14 X14 HKc
          go_upto_region 24 with fail
          refine Reg.wp_region_z (by kernel_rfl) 183 15 rfl rfl (by kernel_rfl) 90 91 (by decide) (12) (fun y => wd.heap.size ≤ y) (0) (fun _ => False) (0) (fun _ => False)
            (fun i f v u => match i with
              | 0 => v = .pointer (some ⟨g, 0, none⟩)
              | 1 => v = .slice (some ⟨bk, ok, none⟩) ks.length ck
              | 2 => v = .int .i64 j
              | 3 => v = .pointer (some ⟨bk, ok + j, none⟩)
              | 4 => v = .string q
              | 5 => v = Vec.C col
              | 6 => v = .tuple #[Vec.E an.e, .bool an.is, .int .i64 an.err]
              | 7 => v = .tuple #[Vec.E an.e, .bool an.is, .int .i64 an.err]
              | 8 => v = Vec.E an.e
              | 9 => v = .bool an.is
              | 10 => v = .int .i64 an.err
              | 11 => ∃ s, v = .pointer (some ⟨s, 0, none⟩) ∧ wd.heap.size ≤ s ∧ EBx u s ent0
              | 12 => ∃ s, f 17 = .pointer (some ⟨s, 0, none⟩) ∧ wd.heap.size ≤ s ∧ EBx u s an.e
              | 13 => v = .bool an.is
              | 14 => v = .int .i64 an.err
              | _ => True) ?_ ?_
          · refine Reg.StepsZ.cons ?_ (Reg.StepsZ.cons ?_ (Reg.StepsZ.cons ?_ (Reg.StepsZ.cons ?_ (Reg.StepsZ.cons ?_ (Reg.StepsZ.cons ?_ (Reg.StepsZ.cons ?_ (Reg.StepsZ.cons ?_ (Reg.StepsZ.cons ?_ (Reg.StepsZ.cons ?_ (Reg.StepsZ.cons ?_ (Reg.StepsZ.cons ?_ (Reg.StepsZ.cons ?_ (Reg.StepsZ.cons ?_ (Reg.StepsZ.cons ?_ (Reg.StepsZ.nil _)))))))))))))))
            · intro val ac u hR hp hpq ha K hK0      -- 0: t136 := Op.move t7
              have hK := fun v w' h1 h2 => hK0 v w' h1 h2 (fun j f v' h _ => by omega)
              have e7 : (ac.tmps[7]?).getD undef = .pointer (some ⟨g, 0, none⟩) := ha 7 (by decide)
              clear ha hp
              refine Reg.Op1.plain rfl ?_
              go_wp2
              exact ⟨rfl, hK _ _ rfl (Reg.Wr.same _)⟩
            · intro val ac u hR hp hpq ha K hK0      -- 1: t137 := Op.move t8
              have hK := fun v w' h1 h2 => hK0 v w' h1 h2 (fun j f v' h _ => by omega)
              have e8 : (ac.tmps[8]?).getD undef = .slice (some ⟨bk, ok, none⟩) ks.length ck := ha 8 (by decide)
              clear ha hp
              refine Reg.Op1.plain rfl ?_
              go_wp2
              exact ⟨rfl, hK _ _ rfl (Reg.Wr.same _)⟩
            · intro val ac u hR hp hpq ha K hK0      -- 2: t138 := Op.move t10
              have hK := fun v w' h1 h2 => hK0 v w' h1 h2 (fun j f v' h _ => by omega)
              have e10 : (ac.tmps[10]?).getD undef = .int .i64 j := ha 10 (by decide)
              clear ha hp
              refine Reg.Op1.plain rfl ?_
              go_wp2
              exact ⟨rfl, hK _ _ rfl (Reg.Wr.same _)⟩
            · intro val ac u hR hp hpq ha K hK0      -- 3: t139 := Op.indexAddr 45 t137 t138
              have hK := fun v w' h1 h2 => hK0 v w' h1 h2 (fun j f v' h _ => by omega)
              obtain ⟨w137, h137, r137⟩ := hp 1 (by decide)
              have e137 : (ac.tmps[137]?).getD undef = .slice (some ⟨bk, ok, none⟩) ks.length ck := (ha 137 (by decide)).trans h137
              clear h137
              obtain ⟨w138, h138, r138⟩ := hp 2 (by decide)
              have e138 : (ac.tmps[138]?).getD undef = .int .i64 j := (ha 138 (by decide)).trans h138
              clear h138
              clear ha hp
              refine Reg.Op1.plain rfl ?_
              go_wp2
              exact ⟨rfl, hK _ _ rfl (Reg.Wr.same _)⟩
            · intro val ac u hR hp hpq ha K hK0      -- 4: t140 := Op.load 9 t139
              have hK := fun v w' h1 h2 => hK0 v w' h1 h2 (fun j f v' h _ => by omega)
              obtain ⟨w139, h139, r139⟩ := hp 3 (by decide)
              have e139 : (ac.tmps[139]?).getD undef = .pointer (some ⟨bk, ok + j, none⟩) := (ha 139 (by decide)).trans h139
              clear h139
              clear ha hp
              refine Reg.Op1.plain rfl ?_
              have hq : Mem.Keeps (fun y => wd.heap.size ≤ y ∨ False ∨ False) wd u := (Mem.Keeps.refl (fun y => wd.heap.size ≤ y ∨ False ∨ False) wd).drew.trans (Reg.Wr.all hR) (fun _ h _ => h)
              have hne : ∀ y, y < wd.heap.size → ¬ (wd.heap.size ≤ y ∨ False ∨ False) := fun y hy h => by rcases h with h | h | h <;> first | omega | exact h
              have z0 := (hq.cell (p := ⟨bk, ok + j, none⟩) (HQC.out.1) (hne bk HQC.out.1)).trans HQC.out.2
              go_wp2
              exact ⟨rfl, hK _ _ rfl (Reg.Wr.same _)⟩
            · intro val ac u hR hp hpq ha K hK0      -- 5: t141 := Op.load 26 t5
              have hK := fun v w' h1 h2 => hK0 v w' h1 h2 (fun j f v' h _ => by omega)
              have e5 : (ac.tmps[5]?).getD undef = .pointer (some ⟨gc, 0, none⟩) := ha 5 (by decide)
              clear ha hp
              refine Reg.Op1.plain rfl ?_
              have hq : Mem.Keeps (fun y => wd.heap.size ≤ y ∨ False ∨ False) wd u := (Mem.Keeps.refl (fun y => wd.heap.size ≤ y ∨ False ∨ False) wd).drew.trans (Reg.Wr.all hR) (fun _ h _ => h)
              have hCu := HCT.out.keeps hq (fun h => by have := HCT.out.lt; rcases h with h | h | h <;> first | omega | exact h)
              refine Mem.load_agg _ _ col_agg gc 0 (colCells col) (Reg.eval_of e5) (colCells_length _) (fun j u' hu => by rw [Nat.zero_add]; exact hCu.cell hu) ?_
              exact ⟨rfl, hK _ _ rfl (Reg.Wr.same _)⟩
            · intro val ac u hR hp hpq ha K hK0      -- 6: t142 := Op.call { value (Operand.func 22), args := #[t136, t140, t141], argTypes := #[30, 9, 26] }
              have hK := fun v w' h1 h2 => hK0 v w' h1 h2 (fun j f v' h _ => by omega)
              obtain ⟨w136, h136, r136⟩ := hp 0 (by decide)
              have e136 : (ac.tmps[136]?).getD undef = .pointer (some ⟨g, 0, none⟩) := (ha 136 (by decide)).trans h136
              clear h136
              obtain ⟨w140, h140, r140⟩ := hp 4 (by decide)
              have e140 : (ac.tmps[140]?).getD undef = .string q := (ha 140 (by decide)).trans h140
              clear h140
              obtain ⟨w141, h141, r141⟩ := hp 5 (by decide)
              have e141 : (ac.tmps[141]?).getD undef = Vec.C col := (ha 141 (by decide)).trans h141
              clear h141
              clear ha hp
              refine Reg.Op1.plain rfl ?_
              have hq : Mem.Keeps (fun _ => False ∨ False) wd u := (Mem.Keeps.refl (fun _ => False ∨ False) wd).drew.trans (Reg.Wr.not1 hR (by decide +kernel)) (fun _ h _ => h)
              have hM := HTM.out.keeps hq (fun _ _ h => h.elim id id)
              go_wp2_with fail
              refine (storeAsOf_any hM.S HQK.out hM.G.hdc HLQ.out col).mono ?_
              rintro x9 w' ⟨rfl, hbw9⟩
              rw [HAN.out]
              go_wp2_with fail
              exact ⟨rfl, hK _ _ rfl (Reg.Wr.below hbw9)⟩
            · intro val ac u hR hp hpq ha K hK0      -- 7: t135 := Op.move t142
              have hK := fun v w' h1 h2 => hK0 v w' h1 h2 (fun j f v' h _ => by omega)
              obtain ⟨w142, h142, r142⟩ := hp 6 (by decide)
              have e142 : (ac.tmps[142]?).getD undef = .tuple #[Vec.E an.e, .bool an.is, .int .i64 an.err] := (ha 142 (by decide)).trans h142
              clear h142
              clear ha hp
              refine Reg.Op1.plain rfl ?_
              go_wp2
              exact ⟨rfl, hK _ _ rfl (Reg.Wr.same _)⟩
            · intro val ac u hR hp hpq ha K hK0      -- 8: t143 := Op.extract t135 0
              have hK := fun v w' h1 h2 => hK0 v w' h1 h2 (fun j f v' h _ => by omega)
              obtain ⟨w135, h135, r135⟩ := hp 7 (by decide)
              have e135 : (ac.tmps[135]?).getD undef = .tuple #[Vec.E an.e, .bool an.is, .int .i64 an.err] := (ha 135 (by decide)).trans h135
              clear h135
              clear ha hp
              refine Reg.Op1.plain rfl ?_
              go_wp2
              exact ⟨rfl, hK _ _ rfl (Reg.Wr.same _)⟩
            · intro val ac u hR hp hpq ha K hK0      -- 9: t144 := Op.extract t135 1
              have hK := fun v w' h1 h2 => hK0 v w' h1 h2 (fun j f v' h _ => by omega)
              obtain ⟨w135, h135, r135⟩ := hp 7 (by decide)
              have e135 : (ac.tmps[135]?).getD undef = .tuple #[Vec.E an.e, .bool an.is, .int .i64 an.err] := (ha 135 (by decide)).trans h135
              clear h135
              clear ha hp
              refine Reg.Op1.plain rfl ?_
              go_wp2
              exact ⟨rfl, hK _ _ rfl (Reg.Wr.same _)⟩
            · intro val ac u hR hp hpq ha K hK0      -- 10: t145 := Op.extract t135 2
              have hK := fun v w' h1 h2 => hK0 v w' h1 h2 (fun j f v' h _ => by omega)
              obtain ⟨w135, h135, r135⟩ := hp 7 (by decide)
              have e135 : (ac.tmps[135]?).getD undef = .tuple #[Vec.E an.e, .bool an.is, .int .i64 an.err] := (ha 135 (by decide)).trans h135
              clear h135
              clear ha hp
              refine Reg.Op1.plain rfl ?_
              go_wp2
              exact ⟨rfl, hK _ _ rfl (Reg.Wr.same _)⟩
            · intro val ac u hR hp hpq ha K hK0      -- 11: t17 := Op.alloc 40
              have hK := fun v w' h1 h2 => hK0 v w' h1 h2 (fun j f v' h _ => by omega)
              clear ha hp
              refine Reg.Op1.plain rfl ?_
              have hbu : wd.heap.size ≤ u.heap.size := (Reg.Wr.all hR).size
              go_wp2
              exact ⟨rfl, hK _ _ ⟨u.heap.size, rfl, hbu, Mem.Bx.new u 40 (entCells ent0).toArray rfl rfl⟩ (Reg.Wr.quiet ((Mem.Keeps.refl _ u).alloc _))⟩
            · intro val ac u hR hp hpq ha K hK0      -- 12: Op.store 40 t17 t143
              have hK := fun v w' h1 h2 => hK0 v w' h1 h2 (fun j f v' h _ => by omega)
              obtain ⟨w17, h17, r17⟩ := hp 11 (by decide)
              have e17 : (ac.tmps[17]?).getD undef = val 11 := ha 17 (by decide)
              obtain ⟨w143, h143, r143⟩ := hp 8 (by decide)
              have e143 : (ac.tmps[143]?).getD undef = Vec.E an.e := (ha 143 (by decide)).trans h143
              clear h143
              clear ha hp
              refine Reg.Op1.plain rfl ?_
              obtain ⟨s, hv, hs, hbx⟩ := h17
              have hv7 := hv
              rw [hv] at e17
              have hbx' : EBx u s ent0 := hbx.keeps (Reg.Wr.not1 r17 (by decide +kernel)) (fun h => h.elim id id)
              refine Mem.store_agg _ _ entry_agg s (entCells ent0) (entCells an.e) (Reg.eval_of e17) (Reg.eval_of e143) hbx' (entCells_length _) (ent_one _) ?_
              intro w' hb hk hs'
              exact ⟨rfl, hK undef _ ⟨s, hv7, hs, hb⟩ (Reg.Wr.does1 (hk.mono (fun i h _ => by show wd.heap.size ≤ i; omega)))⟩
            · intro val ac u hR hp hpq ha K hK0      -- 13: t18 := Op.assign t144
              have hK := fun v w' h1 h2 => hK0 v w' h1 h2 (fun j f v' h _ => by omega)
              obtain ⟨w144, h144, r144⟩ := hp 9 (by decide)
              have e144 : (ac.tmps[144]?).getD undef = .bool an.is := (ha 144 (by decide)).trans h144
              clear h144
              clear ha hp
              refine Reg.Op1.plain rfl ?_
              go_wp2
              exact ⟨rfl, hK _ _ rfl (Reg.Wr.same _)⟩
            · intro val ac u hR hp hpq ha K hK0      -- 14: t19 := Op.assign t145
              have hK := fun v w' h1 h2 => hK0 v w' h1 h2 (fun j f v' h _ => by omega)
              obtain ⟨w145, h145, r145⟩ := hp 10 (by decide)
              have e145 : (ac.tmps[145]?).getD undef = .int .i64 an.err := (ha 145 (by decide)).trans h145
              clear h145
              clear ha hp
              refine Reg.Op1.plain rfl ?_
              go_wp2
              exact ⟨rfl, hK _ _ rfl (Reg.Wr.same _)⟩
          intro val u hR H hZ
          obtain ⟨_, hva, _⟩ := H 13 (by decide)
          have hva : val 13 = .bool an.is := hva
          obtain ⟨_, hvb, _⟩ := H 14 (by decide)
          have hvb : val 14 = .int .i64 an.err := hvb
          obtain ⟨wA, ⟨s, hv7, hs, hb⟩, rA⟩ := H 12 (by decide)
          have hv7 : val 11 = .pointer (some ⟨s, 0, none⟩) := hv7
          have hq : Mem.Keeps (fun y => wd.heap.size ≤ y ∨ False ∨ False) wd u := (Mem.Keeps.refl (fun y => wd.heap.size ≤ y ∨ False ∨ False) wd).drew.trans (Reg.Wr.all hR) (fun _ h _ => h)
          have HBwe : Hid (Below wd.heap.size wd u) := hq.below (fun y h => by rcases h with h | h | h <;> first | exact h | exact h.elim) (Nat.le_refl _)
          have HEwe : Hid (EBx u s an.e) := hb.keeps (Reg.Wr.not1 rA (by decide +kernel)) (fun h => h.elim id id)
          have hgs : wd.heap.size ≤ s := hs
          simp only [List.map_cons, List.map_nil, Reg.lay, Act.put, List.setIfInBounds_toArray, List.set_cons_succ, List.set_cons_zero, Nat.reduceAdd, hva, hvb, hv7]
          clear hR H hZ hq hb rA hv7 hva hvb hs
          obtain ⟨we, hwe⟩ : ∃ z, z = u := ⟨_, rfl⟩
          subst hwe
          obtain ⟨gs, hgs⟩ : ∃ z, z = s := ⟨_, rfl⟩
          subst hgs
          have HOe : Hid (EOwn we (some ⟨b2, o2, none⟩) cl l) := HOr.out.below HBwe.out (fun k hk => HOr.out.lt hk)
          have HWe : Hid (EBx we gw ao.e) := HWm.out.below HBwe.out HWm.out.lt
          have HMe := Lib.hid (HTM.out.below HBwe.out)
          have HBE : Hid (Below wa.heap.size wa we) := HBR.out.trans (HBwe.out.mono HBR.out.size)
          have HXE : Hid (we.cell? ⟨bk, ok + j, none⟩ = some (.string q)) := (HBwe.out.cell (p := ⟨bk, ok + j, none⟩) HQC.out.1).trans HQC.out.2
          have hb2e : b2 < we.heap.size := Nat.lt_of_lt_of_le hb2r HBwe.out.size
          obtain ⟨y0, hy0⟩ : ∃ y0, l[0]? = some y0 := ⟨_, List.getElem?_eq_getElem hlp⟩
          have hy0r := (HOKX.out y0 (List.mem_of_getElem? hy0)).1
          have hy0z : eqEnt y0 ent0 = false := by
            cases h9 : eqEnt y0 ent0 with
            | false => rfl
            | true =>
              rw [eqEnt_iff.1 h9] at hy0r
              cases hy0r
          have HY0 := Lib.hid hy0
          have ho0 := ent_one ent0
          have d9 : ((l.length : Int) != (l.length : Int)) = false := by simp
          have HCOV : Hid (an = ao ∨ an = ⟨ent0, false, 60⟩) := by
            show _ ∨ _
            rw [← HAN.out, ← HAO.out]
            unfold asOf
            rw [HVQ.out]
            by_cases h9 : coversC col mk = true
            · rw [if_pos h9]; exact .inl rfl
            · rw [if_neg h9]; exact .inr rfl
          have HERR : Hid (ao.err = 0) := by show _ = _; rw [← HAO.out]; exact asOfL_err _ _
          have e4 : ∀ W, (binOp .eql 40 (.agg (entCells y0).toArray) (.agg #[.int .i64 0, .int .i64 0, .int .i64 0, .int .i64 0, .int .i64 0, .int .i64 0, .string ⟨#[]⟩, .string ⟨#[]⟩, .bool false, .int .i64 0, .int .i64 0, .int .i64 0, .int .i64 0, .int .i64 0, .int .i64 0, .int .i64 0, .int .i64 0, .int .i64 0, .int .i64 0, .int .i64 0])).run Try.prog W = .ok (.bool false) W := fun W => by
            have h9 := eql_ent y0 ent0 W
            rw [hy0z] at h9
            exact h9
          have E4 := Lib.hid e4
          clear hy0 hy0r hy0z e4 HOr HWm HTM HBR HQC HBwe HCT HAN HAO HOKX HUP d9
          have HVE := Lib.hid (fun (W : World) (hM : Mine w2.heap.size W g b rng mk rs) => storeVersions_any hM.S HQK.out HES.out)
          rcases HCOV.out with han | han
          · subst han
            have b3 : (an.is != an.is) = false := by cases an.is <;> rfl
            have b4 : ((0 : Int) == 0) = true := rfl
            have e3 : ∀ W, (binOp .neq 40 (.agg (entCells an.e).toArray) (.agg (entCells an.e).toArray)).run Try.prog W = .ok (.bool false) W := fun W => by rw [neq_ent, eqEnt_iff.2 rfl]; rfl
            rw [HERR.out]
            clear HCOV HERR
            go_upto_region 27 with (first | ((with_reducible refine Mem.load_aggG _ _ entry_agg gs 0 (entCells an.e) ?hwg ?hxg (entCells_length _) (fun j u hu => by rw [Nat.zero_add]; exact HEwe.out.cell hu) ?_); ((case hwg => rfl); (case hxg => exact rfl))) | ((with_reducible refine Mem.load_aggG _ _ entry_agg gw 0 (entCells an.e) ?hwh ?hxh (entCells_length _) (fun j u hu => by rw [Nat.zero_add]; exact HWe.out.cell hu) ?_); ((case hwh => rfl); (case hxh => exact rfl))))
            clear b3 b4 e3
            obtain ⟨wf, hwf⟩ : ∃ z, z = we := ⟨_, rfl⟩
            subst hwf
            go_upto_region 28 with ((with_reducible refine Mem.store_elem _ 20 entry_agg _ l.length cl b2 o2 0 (l.flatMap entCells) (entCells ent0) ?hxz ?hyz HOe.out (entCells_length _) hlp ho0 ?_); ((case hxz => exact rfl); (case hyz => exact rfl); intro wg hoq hkq hsq))
            have HMg : Hid (Mine w2.heap.size wg g b rng mk rs) := HMe.out.keeps hkq (fun k hk h => by have h9 := HFPA.out k hk; omega)
            have HBG : Hid (Below wa.heap.size wa wg) := HBE.out.trans (hkq.below (fun y h => by omega) HBE.out.size)
            have xg : wg.cell? ⟨bk, ok + j, none⟩ = some (.string q) := (hkq.cell (p := ⟨bk, ok + j, none⟩) (Nat.lt_of_lt_of_le hbk HBE.out.size) (by show ¬ bk = b2; omega)).trans HXE.out
            have HVG := Lib.hid (storeVersions_any HMg.out.S HQK.out HES.out)
            rw [HVQ.out] at HVG
            clear hoq hkq hsq HOe HWe HMe HXE HEwe HVE
            go_upto_region 29 with (go_at_call 15; refine HVG.out.mono ?_; clear HVG; rintro x9 wh ⟨Am, cm, rfl, hOh, hFh, hbh⟩)
            obtain ⟨b3, o3, hAm⟩ := hOh.form hlp
            subst hAm
            have HATH : Hid (∀ j u, (entCells y0)[j]? = some u → wh.cell? ⟨b3, o3 + j, none⟩ = some u) := by
              obtain ⟨b9, o9, e9, h1, h2, h3, h4⟩ := ent_elem hOh.rd (k := 0) hlp
              cases h1
              rw [HY0.out] at h3
              cases h3
              intro j u hu
              have := h4.c j u hu
              simpa using this
            have HBH : Hid (Below wa.heap.size wa wh) := HBG.out.trans (hbh.mono HBG.out.size)
            have e4 := E4.out
            have d9 : ((l.length : Int) != (l.length : Int)) = false := by simp
            clear hOh hFh hbh xg HMg HBG E4
            go_wp2_with ((with_reducible refine Mem.load_aggG _ _ entry_agg b3 o3 (entCells y0) ?hwt ?hxt (entCells_length _) HATH.out ?_); ((case hwt => rfl); (case hxt => exact rfl)))
            go_roundw
            case rel => exact ⟨⟨j + 1, nn + l.length, by omega, by go_num, by go_num, HCS.out, HBr.out.trans (HBH.out.mono HBr.out.size)⟩⟩
            case measure => simp [intOf]; omega
          · subst han
            clear HCOV HERR
            go_upto_region 27 with fail
            obtain ⟨wf, hwf⟩ : ∃ z, z = we := ⟨_, rfl⟩
            subst hwf
            go_upto_region 28 with ((with_reducible refine Mem.store_elem _ 20 entry_agg _ l.length cl b2 o2 0 (l.flatMap entCells) (entCells ent0) ?hxz ?hyz HOe.out (entCells_length _) hlp ho0 ?_); ((case hxz => exact rfl); (case hyz => exact rfl); intro wg hoq hkq hsq))
            have HMg : Hid (Mine w2.heap.size wg g b rng mk rs) := HMe.out.keeps hkq (fun k hk h => by have h9 := HFPA.out k hk; omega)
            have HBG : Hid (Below wa.heap.size wa wg) := HBE.out.trans (hkq.below (fun y h => by omega) HBE.out.size)
            have xg : wg.cell? ⟨bk, ok + j, none⟩ = some (.string q) := (hkq.cell (p := ⟨bk, ok + j, none⟩) (Nat.lt_of_lt_of_le hbk HBE.out.size) (by show ¬ bk = b2; omega)).trans HXE.out
            have HVG := Lib.hid (storeVersions_any HMg.out.S HQK.out HES.out)
            rw [HVQ.out] at HVG
            clear hoq hkq hsq HOe HWe HMe HXE HEwe HVE
            go_upto_region 29 with (go_at_call 15; refine HVG.out.mono ?_; clear HVG; rintro x9 wh ⟨Am, cm, rfl, hOh, hFh, hbh⟩)
            obtain ⟨b3, o3, hAm⟩ := hOh.form hlp
            subst hAm
            have HATH : Hid (∀ j u, (entCells y0)[j]? = some u → wh.cell? ⟨b3, o3 + j, none⟩ = some u) := by
              obtain ⟨b9, o9, e9, h1, h2, h3, h4⟩ := ent_elem hOh.rd (k := 0) hlp
              cases h1
              rw [HY0.out] at h3
              cases h3
              intro j u hu
              have := h4.c j u hu
              simpa using this
            have HBH : Hid (Below wa.heap.size wa wh) := HBG.out.trans (hbh.mono HBG.out.size)
            have e4 := E4.out
            have d9 : ((l.length : Int) != (l.length : Int)) = false := by simp
            clear hOh hFh hbh xg HMg HBG E4
            go_wp2_with ((with_reducible refine Mem.load_aggG _ _ entry_agg b3 o3 (entCells y0) ?hwt ?hxt (entCells_length _) HATH.out ?_); ((case hwt => rfl); (case hxt => exact rfl)))
            go_roundw
            case rel => exact ⟨⟨j + 1, nn + l.length, by omega, by go_num, by go_num, HCS.out, HBr.out.trans (HBH.out.mono HBr.out.size)⟩⟩
            case measure => simp [intOf]; omega
    · obtain rfl : j = ks.length := by omega
      have hlen : lenS (states rs) = nn := by rw [← HCN.out]; exact hnn
      have HLN := Lib.hid (storeLen_any (HM8.out.below HBr.out).S (by rw [hlen]; omega))
      rw [hlen] at HLN
      have b9 : ((nn : Int) == (nn : Int)) = true := by simp
      clear hlen hnn
      go_wp2_with (go_at_call 14; refine HLN.out.mono ?_; clear HLN; rintro x w6 ⟨rfl, hb6⟩; have HB6 := Lib.hid hb6; clear hb6)
      go_ret
      exact ⟨rfl, HB2.out.trans (((HB8.out.trans (HBr.out.mono HB8.out.size)).trans (HB6.out.mono (Nat.le_trans HB8.out.size HBr.out.size))).mono HB2.out.size)⟩
set_option maxRecDepth 20000 in
theorem opened {H : Type} (enc : TypeId × Value → H) (W : World) (base : Nat) (v0 v1 v2 : Value) {d0 d1 d2 : DataW H} {p0 p1 p2 : List MemPlace}
    (o0 : Value.okWide Try.prog W .any base 3 v0) (o1 : Value.okWide Try.prog W .any base 29 v1) (o2 : Value.okWide Try.prog W .any base 26 v2)
    (k0 : DataW.Trod enc Try.prog W 0 (fun _ => true) true 3 v0 d0 p0) (k1 : DataW.Trod enc Try.prog W 0 (fun _ => true) true 29 v1 d1 p1) (k2 : DataW.Trod enc Try.prog W 0 (fun _ => true) true 26 v2 d2 p2)
    (z0 : (d0.weights Try.prog 3).all (· ≤ reachBytes) = true) (z1 : (d1.weights Try.prog 29).all (· ≤ reachBytes) = true) (z2 : (d2.weights Try.prog 26).all (· ≤ reachBytes) = true) :
    Calls Try.prog 6 #[v0, v1, v2] W fun e w' => e = .returned (.bool true) ∧ Below W.heap.size W w' := by
  obtain ⟨n, rfl, _⟩ := open_num o0 k0
  obtain ⟨A, c, acs, rfl, h1, h2, h3, h4⟩ := open_acts o1 k1 z1
  obtain ⟨col, rfl⟩ := open_col o2 k2
  exact walk n A c acs col W h3 h4 (by omega)
end storeRisesOpen
end Go.Proofs.Ytfafehffnjbhnaa
