/- looks of the statements on disks: all is told alike. No conditions but that they are no great ones. -/
import Derived.Test.YtfpfpdhfnleebaaDkA3
set_option maxRecDepth 8000
namespace Go.Proofs.Ytfpfpdhfnleebaa
open Go.ChangeShapes Go.WideShapes Go.ChangeAt Go.RowKit
set_option linter.unusedVariables false
set_option linter.unusedSimpArgs false
namespace Dq
structure LkRel (W w : World) (R : Nat → Prop) (l : List (Nat × X)) (L : Option Addr) (cl : Nat) (xs : List Int) (v : Value) (wr : World) : Prop where
  out : ∃ k, k ≤ xs.length ∧ v = .int .i64 k ∧ Hid (Ms W R l wr) ∧ Hid (Mem.Own wr 3 1 L xs.length cl (xs.map (Value.int .i64))) ∧ Hid (Below w.heap.size w wr)
theorem files_ok {d : Dk.D} (h : ∀ f ∈ d.fs, Dk.okI f.n) : ∀ x ∈ Dk.filesD d, Dk.okI x := by
  intro x hx
  unfold Dk.filesD Dk.sortI at hx
  have := (List.mergeSort_perm (d.fs.map (·.n)) _).mem_iff.1 hx
  obtain ⟨f, hf, rfl⟩ := List.mem_map.1 this
  exact h f hf
theorem files_len (d : Dk.D) : (Dk.filesD d).length = d.fs.length := by unfold Dk.filesD; rw [Dk.sortI_len, List.length_map]
end Dq
open Dq in
set_option maxHeartbeats 8000000 in
theorem dkLooks_any {W w : World} {R : Nat → Prop} {gd gm : Nat} {d : Dk.D} {q : Df.Q} {P : List (Nat × Int)} {K : Nat} (h : Dq.Ms W R [(gd, .inl d), (gm, .inr q)] w) (hok : Dk.Ok d K) (hrel : Dq.Rel d q P) (hfs : ∀ f ∈ d.fs, Dk.okI f.n) {n : Int} (hn : Dk.okI n) :
    Calls Try.prog 24 #[.pointer (some ⟨gd, 0, none⟩), .pointer (some ⟨gm, 0, none⟩), .int .i64 n] w fun x w' => x = .returned (.bool true) ∧ Below w.heap.size w w' := by
  have HOK := Lib.hid hok
  have HREL := Lib.hid hrel
  have HFO := Lib.hid (files_ok hfs)
  have hnl : (Dk.filesD d).length ≤ 64 := by rw [files_len]; exact hok.cnt
  have HX1 := Lib.hid (files_q h (i := 1) rfl hrel hok)
  have HM0 := Lib.hid h
  obtain ⟨fl, hfl⟩ : ∃ fl, Dk.filesD d = fl := ⟨_, rfl⟩
  have HFL := Lib.hid hfl
  unfold FsEnd at HX1
  rw [hfl] at hnl HX1 HFO
  clear h hok hrel hfs hfl
  go_enter Try.func24, Try.ntmps24
  go_upto_region 2 with (go_at_call 36; (refine HX1.out.mono ?_); rintro x w1 ⟨L, cl, rfl, h1, hF1, hb1⟩; have HM1 := Lib.hid (HM0.out.more standsB hb1 (R' := fun k => Mem.blk L = some k) (fun k hk => ⟨hF1.blk k hk, h1.lt hk⟩)); have HL1 := Lib.hid h1; have HB1 := Lib.hid hb1; have HLF := Lib.hid hF1; clear h1 hb1 hF1 HX1)
  have HX1 := Lib.hid (files_d HM1.out (i := 0) rfl HOK.out)
  unfold FsEnd at HX1
  rw [HFL.out] at HX1
  go_upto_region 4 with (first
    | (go_at_call 15; (refine HX1.out.mono ?_); rintro x w2 ⟨A2, c2, rfl, h1, _, hb⟩; have HM2 := Lib.hid (HM1.out.below standsB hb); have HL2 := Lib.hid (HL1.out.below hb (fun _ hk => HL1.out.lt hk)); have HB2 := Lib.hid (HB1.out.trans (hb.mono HB1.out.size)); have HXI := Lib.hid (ints_any (c := c2) (c2 := cl) h1.rd HL2.out.rd (Nat.le_trans h1.le h1.cap) (Nat.le_trans h1.le h1.cap)); clear h1 hb HX1 HM1 HL1 HB1)
    | (go_at_call 14; (refine HXI.out.mono ?_); rintro x w3 ⟨rfl, hb⟩; have HM3 := Lib.hid (HM2.out.below standsB hb); have HL3 := Lib.hid (HL2.out.below hb (fun _ hk => HL2.out.lt hk)); have HB3 := Lib.hid (HB2.out.trans (hb.mono HB2.out.size)); have HXU := Lib.hid (used_d HM3.out (i := 0) rfl HOK.out); clear hb HXI HM2 HL2 HB2)
    | (go_at_call 19; (refine HXU.out.mono ?_); rintro x w4 ⟨rfl, hb⟩; have HM4 := Lib.hid (HM3.out.below standsB hb); have HL4 := Lib.hid (HL3.out.below hb (fun _ hk => HL3.out.lt hk)); have HB4 := Lib.hid (HB3.out.trans (hb.mono HB3.out.size)); have HXV := Lib.hid (used_q HM4.out (i := 1) rfl HREL.out HOK.out); have HXW := Lib.hid (loose_d HM4.out (i := 0) rfl HOK.out); clear hb HXU HM3 HL3 HB3)
    | (go_at_call 37; (refine HXV.out.mono ?_); rintro x w5 ⟨rfl, rfl⟩; clear HXV)
    | (go_at_call 18; (refine HXW.out.mono ?_); rintro x w6 ⟨rfl, hb⟩; have HM6 := Lib.hid (HM4.out.below standsB hb); have HL6 := Lib.hid (HL4.out.below hb (fun _ hk => HL4.out.lt hk)); have HB6 := Lib.hid (HB4.out.trans (hb.mono HB4.out.size)); have HXX := Lib.hid (loose_q HM6.out (i := 1) rfl HREL.out HOK.out); clear hb HXW HM4 HL4 HB4)
    | (go_at_call 38; (refine HXX.out.mono ?_); rintro x w7 ⟨rfl, m7, hw7⟩; have HW7 := Lib.hid hw7; clear HXX hw7))
  have hk7 : Mem.Keeps (fun _ => False) w6 w7 := by rw [HW7.out]; exact (Mem.Keeps.refl _ w6).drewN m7
  have HM7 := Lib.hid (HM6.out.keeps standsB hk7 (fun _ h _ => h.elim))
  have HL7 := Lib.hid (HL6.out.keeps hk7 (fun _ _ h => h))
  have HB7 := Lib.hid (HB6.out.trans (hk7.belowAll.mono HB6.out.size))
  have hn63 : fl.length + 1 ≤ maxLen := by unfold maxLen; omega
  clear hk7 HW7 HM6 HL6 HB6
  go_upto_region 5 with (at_builtin; refine Mem.wpList_app _ rfl (.tmp 34) (.tmp 36) _ rfl ints_elem L fl.length cl _ rfl (w7.heap.size + 1) (some ⟨w7.heap.size, 0, none⟩) 1 1 [.int .i64 n] rfl ?_ (HL7.out.alloc _) (Mem.Rd.alloc_new w7 _ _ _ rfl) rfl (by simp [Value.oneCell']) hn63 (by omega); intro L8 c8 w8 hown hg8 hat; have HO8 := Lib.hid hown; have HM8 := Lib.hid (HM7.out.keeps standsB (((Mem.Keeps.refl (fun q => Mem.blk L = some q) w7).alloc _).grown hg8 (fun q hq _ => hq)) (fun k hk _ => .inr hk)); have hz8 := HB7.out.size; have HB8 := Lib.hid ((HB7.out.alloc HB7.out.size _).grown hg8 (by simp; omega) (fun q hq => HLF.out.blk q hq)); have HF8 : Hid (Mem.From w.heap.size L8) := (by rcases hat with rfl | rfl; exact HLF.out; exact Mem.From.some_ (by simp; have := HB7.out.size; omega)); clear hown hg8 hat)
  have hxl : (fl ++ [n]).length = fl.length + 1 := by simp
  have hxo : ∀ x ∈ fl ++ [n], Dk.okI x := fun x hx => by
    rcases List.mem_append.1 hx with h | h
    · exact HFO.out x h
    · rw [List.mem_singleton] at h; subst h; exact hn
  have HO9 : Hid (Mem.Own w8 3 1 L8 (fl ++ [n]).length c8 ((fl ++ [n]).map (Value.int .i64))) := by show Mem.Own _ _ _ _ _ _ _; rw [hxl, List.map_append]; exact HO8.out
  rw [← hxl] at hn63 ⊢
  have hxm : (fl ++ [n]).length ≤ 65 := by omega
  obtain ⟨xs, hxs⟩ : ∃ xs, fl ++ [n] = xs := ⟨_, rfl⟩
  rw [hxs] at hn63 HO9 hxo hxm ⊢
  have HXO := Lib.hid hxo
  clear HO8 hxl hxs hxo HL7 HM7 HB7 hz8 hnl HFO HM0
  go_wp2
  go_loopw [8] (LkRel W w (fun k => R k ∨ Mem.blk L = some k) [(gd, .inl d), (gm, .inr q)] L8 c8 xs) (fun t _ => xs.length - (intOf t).toNat)
  case atStart => exact ⟨⟨0, by omega, rfl, HM8, HO9, HB8⟩⟩
  case round =>
    obtain ⟨k, hk, rfl, HM, HO, HB⟩ := hrel.out
    clear hrel
    by_cases hlt : k < xs.length
    · obtain ⟨x, hx⟩ : ∃ x, xs[k]? = some x := ⟨_, List.getElem?_eq_getElem hlt⟩
      have hxi := HXO.out x (List.mem_of_getElem? hx)
      have HX := Lib.hid hx
      obtain ⟨bL, oL, rfl⟩ := HO.out.form (by omega)
      have y0 : wr.cell? ⟨bL, oL + k, none⟩ = some (.int .i64 x) := HO.out.cell (by rw [List.getElem?_map, hx]; rfl)
      have HX1 := Lib.hid (read_d HM.out (i := 0) rfl HOK.out hxi)
      unfold RdEnd at HX1
      have d0 : decide ((k : Int) < (xs.length : Int)) = true := by simp; omega
      have hbl : Dk.bsD d x = Dk.bsD d x := rfl
      obtain ⟨bs, hbs⟩ : ∃ bs, Dk.bsD d x = bs := ⟨_, rfl⟩
      have HBS := Lib.hid hbs
      rw [hbs] at HX1
      clear hx hbl hbs
      go_upto_region 9 with (go_at_call 13; (refine HX1.out.mono ?_); rintro y w10 ⟨A4, c4, rfl, h1, _, hb⟩; have HM10 := Lib.hid (HM.out.below standsB hb); have HO10 := Lib.hid (HO.out.below hb (fun _ hk => HO.out.lt hk)); have HB10 := Lib.hid (HB.out.trans (hb.mono HB.out.size)); have HA10 := Lib.hid h1; clear h1 hb HX1)
      clear y0
      have y0 : w10.cell? ⟨bL, oL + k, none⟩ = some (.int .i64 x) := HO10.out.cell (by rw [List.getElem?_map, HX.out]; rfl)
      have HX1 := Lib.hid (read_q HM10.out (i := 1) rfl HREL.out HOK.out x)
      rw [HBS.out] at HX1
      go_upto_region 10 with (go_at_call 39; (refine HX1.out.mono ?_); rintro y w11 ⟨A5, c5, m11, rfl, hw11, h2⟩; have HW11 := Lib.hid hw11; have HR11 := Lib.hid h2; clear h2 hw11 HX1)
      have hk11 : Mem.Keeps (fun _ => False) w10 w11 := by rw [HW11.out]; exact (Mem.Keeps.refl _ w10).drewN m11
      have HM11 := Lib.hid (HM10.out.keeps standsB hk11 (fun _ h _ => h.elim))
      have HO11 := Lib.hid (HO10.out.keeps hk11 (fun _ _ h => h))
      have HA11 := Lib.hid (HA10.out.keeps hk11 (fun _ _ h => h))
      have HB11 := Lib.hid (HB10.out.trans (hk11.belowAll.mono HB10.out.size))
      have HS11 := Lib.hid (HR11.out.keeps hk11 (fun _ h => h.elim) (Nat.le_refl _))
      have HZ11 : Hid (w10.heap.size ≤ w11.heap.size) := hk11.size
      have hbl11 : bL < w11.heap.size := HO11.out.lt rfl
      clear y0
      have y0 : w11.cell? ⟨bL, oL + k, none⟩ = some (.int .i64 x) := HO11.out.cell (by rw [List.getElem?_map, HX.out]; rfl)
      obtain ⟨nb, hnb⟩ : ∃ nb, bs.length = nb := ⟨_, rfl⟩
      have HNB := Lib.hid hnb
      rw [hnb]
      obtain ⟨er, her⟩ : ∃ er, Dk.there d x = er := ⟨_, rfl⟩
      rw [her]
      clear hk11 HW11 HM10 HO10 HA10 HB10 HR11 hnb her HM HO HB
      refine Reg.wp_region_w (by kernel_rfl) 102 40 rfl rfl (by kernel_rfl) (0) (fun _ => False) (0) (fun _ => False) (0) (fun _ => False)
        (fun i v u => match i with
          | 0 => v = .slice A4 nb c4
          | 1 => v = .string ⟨bs.toArray⟩
          | 2 => v = .slice A5 nb c5
          | 3 => v = .string ⟨bs.toArray⟩
          | 4 => v = .bool false
          | 5 => v = .bool false
          | 6 => v = .int .i64 er
          | 7 => v = .int .i64 er
          | 8 => v = .bool false
          | 9 => v = .bool false
          | 10 => v = .bool false
          | 11 => v = .pointer (some ⟨gd, 0, none⟩)
          | 12 => v = .slice (some ⟨bL, oL, none⟩) xs.length c8
          | 13 => v = .int .i64 (k : Int)
          | 14 => v = .pointer (some ⟨bL, oL + k, none⟩)
          | 15 => v = .int .i64 x
          | 16 => v = .int .i64 (Dk.lenF d.fs x)
          | 17 => v = .pointer (some ⟨gm, 0, none⟩)
          | 18 => v = .slice (some ⟨bL, oL, none⟩) xs.length c8
          | 19 => v = .int .i64 (k : Int)
          | 20 => v = .pointer (some ⟨bL, oL + k, none⟩)
          | 21 => v = .int .i64 x
          | 22 => v = .int .i64 (Dk.lenF d.fs x)
          | 23 => v = .bool false
          | 24 => v = .bool false
          | 25 => v = .bool false
          | 26 => v = .pointer (some ⟨gd, 0, none⟩)
          | 27 => v = .slice (some ⟨bL, oL, none⟩) xs.length c8
          | 28 => v = .int .i64 (k : Int)
          | 29 => v = .pointer (some ⟨bL, oL + k, none⟩)
          | 30 => v = .int .i64 x
          | 31 => v = .int .i64 (Dk.synF d.fs x)
          | 32 => v = .pointer (some ⟨gm, 0, none⟩)
          | 33 => v = .slice (some ⟨bL, oL, none⟩) xs.length c8
          | 34 => v = .int .i64 (k : Int)
          | 35 => v = .pointer (some ⟨bL, oL + k, none⟩)
          | 36 => v = .int .i64 x
          | 37 => v = .int .i64 (Dk.synF d.fs x)
          | 38 => v = .bool false
          | 39 => v = .bool false
          | _ => True) ?_ ?_
      · refine Reg.Steps.cons ?_ (Reg.Steps.cons ?_ (Reg.Steps.cons ?_ (Reg.Steps.cons ?_ (Reg.Steps.cons ?_ (Reg.Steps.cons ?_ (Reg.Steps.cons ?_ (Reg.Steps.cons ?_ (Reg.Steps.cons ?_ (Reg.Steps.cons ?_ (Reg.Steps.cons ?_ (Reg.Steps.cons ?_ (Reg.Steps.cons ?_ (Reg.Steps.cons ?_ (Reg.Steps.cons ?_ (Reg.Steps.cons ?_ (Reg.Steps.cons ?_ (Reg.Steps.cons ?_ (Reg.Steps.cons ?_ (Reg.Steps.cons ?_ (Reg.Steps.cons ?_ (Reg.Steps.cons ?_ (Reg.Steps.cons ?_ (Reg.Steps.cons ?_ (Reg.Steps.cons ?_ (Reg.Steps.cons ?_ (Reg.Steps.cons ?_ (Reg.Steps.cons ?_ (Reg.Steps.cons ?_ (Reg.Steps.cons ?_ (Reg.Steps.cons ?_ (Reg.Steps.cons ?_ (Reg.Steps.cons ?_ (Reg.Steps.cons ?_ (Reg.Steps.cons ?_ (Reg.Steps.cons ?_ (Reg.Steps.cons ?_ (Reg.Steps.cons ?_ (Reg.Steps.cons ?_ (Reg.Steps.cons ?_ (Reg.Steps.nil _))))))))))))))))))))))))))))))))))))))))
        · intro val ac u hR hp ha K hK      -- 0: t62 := Op.move t9
          have e9 : (ac.tmps[9]?).getD undef = .slice A4 nb c4 := ha 9 (by decide)
          clear ha hp
          refine Reg.Op1.plain rfl ?_
          go_wp2
          exact ⟨rfl, hK _ _ rfl (Reg.Wr.same _)⟩
        · intro val ac u hR hp ha K hK      -- 1: t63 := Op.convert 24 9 t62
          obtain ⟨w62, h62, r62⟩ := hp 0 (by decide)
          have e62 : (ac.tmps[62]?).getD undef = .slice A4 nb c4 := (ha 62 (by decide)).trans h62
          clear h62
          clear ha hp
          refine Reg.Op1.plain rfl ?_
          have hk0 : Mem.Keeps (fun _ => False) w11 u := (Mem.Keeps.refl (fun _ => False) w11).drew.trans (Reg.Wr.all hR) (fun _ h _ => h.elim id (fun h => h.elim id id))
          have hv := Dk.conv_bytes (W := u) c4 (HA11.out.keeps hk0 (fun _ _ h => h)).rd
          rw [HNB.out] at hv
          go_wp2
          exact ⟨rfl, hK _ _ rfl (Reg.Wr.same _)⟩
        · intro val ac u hR hp ha K hK      -- 2: t64 := Op.move t11
          have e11 : (ac.tmps[11]?).getD undef = .slice A5 nb c5 := ha 11 (by decide)
          clear ha hp
          refine Reg.Op1.plain rfl ?_
          go_wp2
          exact ⟨rfl, hK _ _ rfl (Reg.Wr.same _)⟩
        · intro val ac u hR hp ha K hK      -- 3: t65 := Op.convert 24 9 t64
          obtain ⟨w64, h64, r64⟩ := hp 2 (by decide)
          have e64 : (ac.tmps[64]?).getD undef = .slice A5 nb c5 := (ha 64 (by decide)).trans h64
          clear h64
          clear ha hp
          refine Reg.Op1.plain rfl ?_
          have hk0 : Mem.Keeps (fun _ => False) w11 u := (Mem.Keeps.refl (fun _ => False) w11).drew.trans (Reg.Wr.all hR) (fun _ h _ => h.elim id (fun h => h.elim id id))
          have hv := Dk.conv_bytes (W := u) c5 (HS11.out.keeps hk0 (fun _ h => h.elim) HZ11.out)
          rw [HNB.out] at hv
          go_wp2
          exact ⟨rfl, hK _ _ rfl (Reg.Wr.same _)⟩
        · intro val ac u hR hp ha K hK      -- 4: t66 := Op.binOp BinOp.neq 9 t63 t65 9
          obtain ⟨w63, h63, r63⟩ := hp 1 (by decide)
          have e63 : (ac.tmps[63]?).getD undef = .string ⟨bs.toArray⟩ := (ha 63 (by decide)).trans h63
          clear h63
          obtain ⟨w65, h65, r65⟩ := hp 3 (by decide)
          have e65 : (ac.tmps[65]?).getD undef = .string ⟨bs.toArray⟩ := (ha 65 (by decide)).trans h65
          clear h65
          clear ha hp
          refine Reg.Op1.plain rfl ?_
          go_wp2
          exact ⟨rfl, hK _ _ (by simp) (Reg.Wr.same _)⟩
        · intro val ac u hR hp ha K hK      -- 5: t67 := Op.move t66
          obtain ⟨w66, h66, r66⟩ := hp 4 (by decide)
          have e66 : (ac.tmps[66]?).getD undef = .bool false := (ha 66 (by decide)).trans h66
          clear h66
          clear ha hp
          refine Reg.Op1.plain rfl ?_
          go_wp2
          exact ⟨rfl, hK _ _ rfl (Reg.Wr.same _)⟩
        · intro val ac u hR hp ha K hK      -- 6: t68 := Op.move t10
          have e10 : (ac.tmps[10]?).getD undef = .int .i64 er := ha 10 (by decide)
          obtain ⟨w67, h67, r67⟩ := hp 5 (by decide)
          have e67 : (ac.tmps[67]?).getD undef = .bool false := (ha 67 (by decide)).trans h67
          clear h67
          clear ha hp
          refine Reg.Op1.guarded rfl rfl e67 (fun _ => Reg.Op1.plain rfl ?_) (fun h => absurd rfl h)
          go_wp2
          exact ⟨rfl, hK _ _ rfl (Reg.Wr.same _)⟩
        · intro val ac u hR hp ha K hK      -- 7: t69 := Op.move t12
          have e12 : (ac.tmps[12]?).getD undef = .int .i64 er := ha 12 (by decide)
          obtain ⟨w67, h67, r67⟩ := hp 5 (by decide)
          have e67 : (ac.tmps[67]?).getD undef = .bool false := (ha 67 (by decide)).trans h67
          clear h67
          clear ha hp
          refine Reg.Op1.guarded rfl rfl e67 (fun _ => Reg.Op1.plain rfl ?_) (fun h => absurd rfl h)
          go_wp2
          exact ⟨rfl, hK _ _ rfl (Reg.Wr.same _)⟩
        · intro val ac u hR hp ha K hK      -- 8: t70 := Op.binOp BinOp.neq 3 t68 t69 3
          obtain ⟨w68, h68, r68⟩ := hp 6 (by decide)
          have e68 : (ac.tmps[68]?).getD undef = .int .i64 er := (ha 68 (by decide)).trans h68
          clear h68
          obtain ⟨w69, h69, r69⟩ := hp 7 (by decide)
          have e69 : (ac.tmps[69]?).getD undef = .int .i64 er := (ha 69 (by decide)).trans h69
          clear h69
          obtain ⟨w67, h67, r67⟩ := hp 5 (by decide)
          have e67 : (ac.tmps[67]?).getD undef = .bool false := (ha 67 (by decide)).trans h67
          clear h67
          clear ha hp
          refine Reg.Op1.guarded rfl rfl e67 (fun _ => Reg.Op1.plain rfl ?_) (fun h => absurd rfl h)
          go_wp2
          exact ⟨rfl, hK _ _ rfl (Reg.Wr.same _)⟩
        · intro val ac u hR hp ha K hK      -- 9: t71 := Op.pick t67 (const (Value.bool true)) t70
          obtain ⟨w67, h67, r67⟩ := hp 5 (by decide)
          have e67 : (ac.tmps[67]?).getD undef = .bool false := (ha 67 (by decide)).trans h67
          clear h67
          obtain ⟨w70, h70, r70⟩ := hp 8 (by decide)
          have e70 : (ac.tmps[70]?).getD undef = .bool false := (ha 70 (by decide)).trans h70
          clear h70
          clear ha hp
          refine Reg.Op1.plain rfl ?_
          go_wp2
          exact ⟨rfl, hK _ _ rfl (Reg.Wr.same _)⟩
        · intro val ac u hR hp ha K hK      -- 10: t72 := Op.move t71
          obtain ⟨w71, h71, r71⟩ := hp 9 (by decide)
          have e71 : (ac.tmps[71]?).getD undef = .bool false := (ha 71 (by decide)).trans h71
          clear h71
          clear ha hp
          refine Reg.Op1.plain rfl ?_
          go_wp2
          exact ⟨rfl, hK _ _ rfl (Reg.Wr.same _)⟩
        · intro val ac u hR hp ha K hK      -- 11: t73 := Op.move t0
          have e0 : (ac.tmps[0]?).getD undef = .pointer (some ⟨gd, 0, none⟩) := ha 0 (by decide)
          obtain ⟨w72, h72, r72⟩ := hp 10 (by decide)
          have e72 : (ac.tmps[72]?).getD undef = .bool false := (ha 72 (by decide)).trans h72
          clear h72
          clear ha hp
          refine Reg.Op1.guarded rfl rfl e72 (fun _ => Reg.Op1.plain rfl ?_) (fun h => absurd rfl h)
          go_wp2
          exact ⟨rfl, hK _ _ rfl (Reg.Wr.same _)⟩
        · intro val ac u hR hp ha K hK      -- 12: t74 := Op.move t7
          have e7 : (ac.tmps[7]?).getD undef = .slice (some ⟨bL, oL, none⟩) xs.length c8 := ha 7 (by decide)
          obtain ⟨w72, h72, r72⟩ := hp 10 (by decide)
          have e72 : (ac.tmps[72]?).getD undef = .bool false := (ha 72 (by decide)).trans h72
          clear h72
          clear ha hp
          refine Reg.Op1.guarded rfl rfl e72 (fun _ => Reg.Op1.plain rfl ?_) (fun h => absurd rfl h)
          go_wp2
          exact ⟨rfl, hK _ _ rfl (Reg.Wr.same _)⟩
        · intro val ac u hR hp ha K hK      -- 13: t75 := Op.move t8
          have e8 : (ac.tmps[8]?).getD undef = .int .i64 (k : Int) := ha 8 (by decide)
          obtain ⟨w72, h72, r72⟩ := hp 10 (by decide)
          have e72 : (ac.tmps[72]?).getD undef = .bool false := (ha 72 (by decide)).trans h72
          clear h72
          clear ha hp
          refine Reg.Op1.guarded rfl rfl e72 (fun _ => Reg.Op1.plain rfl ?_) (fun h => absurd rfl h)
          go_wp2
          exact ⟨rfl, hK _ _ rfl (Reg.Wr.same _)⟩
        · intro val ac u hR hp ha K hK      -- 14: t76 := Op.indexAddr 33 t74 t75
          obtain ⟨w74, h74, r74⟩ := hp 12 (by decide)
          have e74 : (ac.tmps[74]?).getD undef = .slice (some ⟨bL, oL, none⟩) xs.length c8 := (ha 74 (by decide)).trans h74
          clear h74
          obtain ⟨w75, h75, r75⟩ := hp 13 (by decide)
          have e75 : (ac.tmps[75]?).getD undef = .int .i64 (k : Int) := (ha 75 (by decide)).trans h75
          clear h75
          obtain ⟨w72, h72, r72⟩ := hp 10 (by decide)
          have e72 : (ac.tmps[72]?).getD undef = .bool false := (ha 72 (by decide)).trans h72
          clear h72
          clear ha hp
          refine Reg.Op1.guarded rfl rfl e72 (fun _ => Reg.Op1.plain rfl ?_) (fun h => absurd rfl h)
          go_wp2
          exact ⟨rfl, hK _ _ rfl (Reg.Wr.same _)⟩
        · intro val ac u hR hp ha K hK      -- 15: t77 := Op.load 3 t76
          obtain ⟨w76, h76, r76⟩ := hp 14 (by decide)
          have e76 : (ac.tmps[76]?).getD undef = .pointer (some ⟨bL, oL + k, none⟩) := (ha 76 (by decide)).trans h76
          clear h76
          obtain ⟨w72, h72, r72⟩ := hp 10 (by decide)
          have e72 : (ac.tmps[72]?).getD undef = .bool false := (ha 72 (by decide)).trans h72
          clear h72
          clear ha hp
          refine Reg.Op1.guarded rfl rfl e72 (fun _ => Reg.Op1.plain rfl ?_) (fun h => absurd rfl h)
          have x0 := (((Reg.Wr.all hR)).cell (p := ⟨bL, oL + k, none⟩) (hbl11) ((fun h => h.elim id (fun h => h.elim id id)))).trans (y0)
          go_wp2
          exact ⟨rfl, hK _ _ rfl (Reg.Wr.same _)⟩
        · intro val ac u hR hp ha K hK      -- 16: t78 := Op.call { value (Operand.func 25), args := #[t73, t77], argTypes := #[25, 3] }
          obtain ⟨w73, h73, r73⟩ := hp 11 (by decide)
          have e73 : (ac.tmps[73]?).getD undef = .pointer (some ⟨gd, 0, none⟩) := (ha 73 (by decide)).trans h73
          clear h73
          obtain ⟨w77, h77, r77⟩ := hp 15 (by decide)
          have e77 : (ac.tmps[77]?).getD undef = .int .i64 x := (ha 77 (by decide)).trans h77
          clear h77
          obtain ⟨w72, h72, r72⟩ := hp 10 (by decide)
          have e72 : (ac.tmps[72]?).getD undef = .bool false := (ha 72 (by decide)).trans h72
          clear h72
          clear ha hp
          refine Reg.Op1.guarded rfl rfl e72 (fun _ => Reg.Op1.plain rfl ?_) (fun h => absurd rfl h)
          have hk0 : Mem.Keeps (fun _ => False) w11 u := (Mem.Keeps.refl (fun _ => False) w11).drew.trans (Reg.Wr.all hR) (fun _ h _ => h.elim id (fun h => h.elim id id))
          have hM := HM11.out.keeps standsB hk0 (fun _ h _ => h.elim)
          have hp := size_d hM (i := 0) rfl hxi 0
          go_wp2_with fail
          refine hp.mono ?_
          rintro y w' ⟨rfl, m', hw'⟩
          have hkq : Mem.Keeps (fun _ => False) u w' := by rw [hw']; exact (Mem.Keeps.refl _ u).drewN m'
          clear hw'
          go_wp2_with fail
          exact ⟨rfl, hK _ _ rfl (Reg.Wr.quiet hkq)⟩
        · intro val ac u hR hp ha K hK      -- 17: t79 := Op.move t1
          have e1 : (ac.tmps[1]?).getD undef = .pointer (some ⟨gm, 0, none⟩) := ha 1 (by decide)
          obtain ⟨w72, h72, r72⟩ := hp 10 (by decide)
          have e72 : (ac.tmps[72]?).getD undef = .bool false := (ha 72 (by decide)).trans h72
          clear h72
          clear ha hp
          refine Reg.Op1.guarded rfl rfl e72 (fun _ => Reg.Op1.plain rfl ?_) (fun h => absurd rfl h)
          go_wp2
          exact ⟨rfl, hK _ _ rfl (Reg.Wr.same _)⟩
        · intro val ac u hR hp ha K hK      -- 18: t80 := Op.move t7
          have e7 : (ac.tmps[7]?).getD undef = .slice (some ⟨bL, oL, none⟩) xs.length c8 := ha 7 (by decide)
          obtain ⟨w72, h72, r72⟩ := hp 10 (by decide)
          have e72 : (ac.tmps[72]?).getD undef = .bool false := (ha 72 (by decide)).trans h72
          clear h72
          clear ha hp
          refine Reg.Op1.guarded rfl rfl e72 (fun _ => Reg.Op1.plain rfl ?_) (fun h => absurd rfl h)
          go_wp2
          exact ⟨rfl, hK _ _ rfl (Reg.Wr.same _)⟩
        · intro val ac u hR hp ha K hK      -- 19: t81 := Op.move t8
          have e8 : (ac.tmps[8]?).getD undef = .int .i64 (k : Int) := ha 8 (by decide)
          obtain ⟨w72, h72, r72⟩ := hp 10 (by decide)
          have e72 : (ac.tmps[72]?).getD undef = .bool false := (ha 72 (by decide)).trans h72
          clear h72
          clear ha hp
          refine Reg.Op1.guarded rfl rfl e72 (fun _ => Reg.Op1.plain rfl ?_) (fun h => absurd rfl h)
          go_wp2
          exact ⟨rfl, hK _ _ rfl (Reg.Wr.same _)⟩
        · intro val ac u hR hp ha K hK      -- 20: t82 := Op.indexAddr 33 t80 t81
          obtain ⟨w80, h80, r80⟩ := hp 18 (by decide)
          have e80 : (ac.tmps[80]?).getD undef = .slice (some ⟨bL, oL, none⟩) xs.length c8 := (ha 80 (by decide)).trans h80
          clear h80
          obtain ⟨w81, h81, r81⟩ := hp 19 (by decide)
          have e81 : (ac.tmps[81]?).getD undef = .int .i64 (k : Int) := (ha 81 (by decide)).trans h81
          clear h81
          obtain ⟨w72, h72, r72⟩ := hp 10 (by decide)
          have e72 : (ac.tmps[72]?).getD undef = .bool false := (ha 72 (by decide)).trans h72
          clear h72
          clear ha hp
          refine Reg.Op1.guarded rfl rfl e72 (fun _ => Reg.Op1.plain rfl ?_) (fun h => absurd rfl h)
          go_wp2
          exact ⟨rfl, hK _ _ rfl (Reg.Wr.same _)⟩
        · intro val ac u hR hp ha K hK      -- 21: t83 := Op.load 3 t82
          obtain ⟨w82, h82, r82⟩ := hp 20 (by decide)
          have e82 : (ac.tmps[82]?).getD undef = .pointer (some ⟨bL, oL + k, none⟩) := (ha 82 (by decide)).trans h82
          clear h82
          obtain ⟨w72, h72, r72⟩ := hp 10 (by decide)
          have e72 : (ac.tmps[72]?).getD undef = .bool false := (ha 72 (by decide)).trans h72
          clear h72
          clear ha hp
          refine Reg.Op1.guarded rfl rfl e72 (fun _ => Reg.Op1.plain rfl ?_) (fun h => absurd rfl h)
          have x0 := (((Reg.Wr.all hR)).cell (p := ⟨bL, oL + k, none⟩) (hbl11) ((fun h => h.elim id (fun h => h.elim id id)))).trans (y0)
          go_wp2
          exact ⟨rfl, hK _ _ rfl (Reg.Wr.same _)⟩
        · intro val ac u hR hp ha K hK      -- 22: t84 := Op.call { value (Operand.func 40), args := #[t79, t83], argTypes := #[43, 3] }
          obtain ⟨w79, h79, r79⟩ := hp 17 (by decide)
          have e79 : (ac.tmps[79]?).getD undef = .pointer (some ⟨gm, 0, none⟩) := (ha 79 (by decide)).trans h79
          clear h79
          obtain ⟨w83, h83, r83⟩ := hp 21 (by decide)
          have e83 : (ac.tmps[83]?).getD undef = .int .i64 x := (ha 83 (by decide)).trans h83
          clear h83
          obtain ⟨w72, h72, r72⟩ := hp 10 (by decide)
          have e72 : (ac.tmps[72]?).getD undef = .bool false := (ha 72 (by decide)).trans h72
          clear h72
          clear ha hp
          refine Reg.Op1.guarded rfl rfl e72 (fun _ => Reg.Op1.plain rfl ?_) (fun h => absurd rfl h)
          have hk0 : Mem.Keeps (fun _ => False) w11 u := (Mem.Keeps.refl (fun _ => False) w11).drew.trans (Reg.Wr.all hR) (fun _ h _ => h.elim id (fun h => h.elim id id))
          have hM := HM11.out.keeps standsB hk0 (fun _ h _ => h.elim)
          have hp := size_q hM (i := 1) rfl HREL.out HOK.out x 0
          go_wp2_with fail
          refine hp.mono ?_
          rintro y w' ⟨rfl, m', hw'⟩
          have hkq : Mem.Keeps (fun _ => False) u w' := by rw [hw']; exact (Mem.Keeps.refl _ u).drewN m'
          clear hw'
          go_wp2_with fail
          exact ⟨rfl, hK _ _ rfl (Reg.Wr.quiet hkq)⟩
        · intro val ac u hR hp ha K hK      -- 23: t85 := Op.binOp BinOp.neq 3 t78 t84 3
          obtain ⟨w78, h78, r78⟩ := hp 16 (by decide)
          have e78 : (ac.tmps[78]?).getD undef = .int .i64 (Dk.lenF d.fs x) := (ha 78 (by decide)).trans h78
          clear h78
          obtain ⟨w84, h84, r84⟩ := hp 22 (by decide)
          have e84 : (ac.tmps[84]?).getD undef = .int .i64 (Dk.lenF d.fs x) := (ha 84 (by decide)).trans h84
          clear h84
          obtain ⟨w72, h72, r72⟩ := hp 10 (by decide)
          have e72 : (ac.tmps[72]?).getD undef = .bool false := (ha 72 (by decide)).trans h72
          clear h72
          clear ha hp
          refine Reg.Op1.guarded rfl rfl e72 (fun _ => Reg.Op1.plain rfl ?_) (fun h => absurd rfl h)
          go_wp2
          exact ⟨rfl, hK _ _ rfl (Reg.Wr.same _)⟩
        · intro val ac u hR hp ha K hK      -- 24: t86 := Op.pick t72 (const (Value.bool true)) t85
          obtain ⟨w72, h72, r72⟩ := hp 10 (by decide)
          have e72 : (ac.tmps[72]?).getD undef = .bool false := (ha 72 (by decide)).trans h72
          clear h72
          obtain ⟨w85, h85, r85⟩ := hp 23 (by decide)
          have e85 : (ac.tmps[85]?).getD undef = .bool false := (ha 85 (by decide)).trans h85
          clear h85
          clear ha hp
          refine Reg.Op1.plain rfl ?_
          go_wp2
          exact ⟨rfl, hK _ _ rfl (Reg.Wr.same _)⟩
        · intro val ac u hR hp ha K hK      -- 25: t87 := Op.move t86
          obtain ⟨w86, h86, r86⟩ := hp 24 (by decide)
          have e86 : (ac.tmps[86]?).getD undef = .bool false := (ha 86 (by decide)).trans h86
          clear h86
          clear ha hp
          refine Reg.Op1.plain rfl ?_
          go_wp2
          exact ⟨rfl, hK _ _ rfl (Reg.Wr.same _)⟩
        · intro val ac u hR hp ha K hK      -- 26: t88 := Op.move t0
          have e0 : (ac.tmps[0]?).getD undef = .pointer (some ⟨gd, 0, none⟩) := ha 0 (by decide)
          obtain ⟨w87, h87, r87⟩ := hp 25 (by decide)
          have e87 : (ac.tmps[87]?).getD undef = .bool false := (ha 87 (by decide)).trans h87
          clear h87
          clear ha hp
          refine Reg.Op1.guarded rfl rfl e87 (fun _ => Reg.Op1.plain rfl ?_) (fun h => absurd rfl h)
          go_wp2
          exact ⟨rfl, hK _ _ rfl (Reg.Wr.same _)⟩
        · intro val ac u hR hp ha K hK      -- 27: t89 := Op.move t7
          have e7 : (ac.tmps[7]?).getD undef = .slice (some ⟨bL, oL, none⟩) xs.length c8 := ha 7 (by decide)
          obtain ⟨w87, h87, r87⟩ := hp 25 (by decide)
          have e87 : (ac.tmps[87]?).getD undef = .bool false := (ha 87 (by decide)).trans h87
          clear h87
          clear ha hp
          refine Reg.Op1.guarded rfl rfl e87 (fun _ => Reg.Op1.plain rfl ?_) (fun h => absurd rfl h)
          go_wp2
          exact ⟨rfl, hK _ _ rfl (Reg.Wr.same _)⟩
        · intro val ac u hR hp ha K hK      -- 28: t90 := Op.move t8
          have e8 : (ac.tmps[8]?).getD undef = .int .i64 (k : Int) := ha 8 (by decide)
          obtain ⟨w87, h87, r87⟩ := hp 25 (by decide)
          have e87 : (ac.tmps[87]?).getD undef = .bool false := (ha 87 (by decide)).trans h87
          clear h87
          clear ha hp
          refine Reg.Op1.guarded rfl rfl e87 (fun _ => Reg.Op1.plain rfl ?_) (fun h => absurd rfl h)
          go_wp2
          exact ⟨rfl, hK _ _ rfl (Reg.Wr.same _)⟩
        · intro val ac u hR hp ha K hK      -- 29: t91 := Op.indexAddr 33 t89 t90
          obtain ⟨w89, h89, r89⟩ := hp 27 (by decide)
          have e89 : (ac.tmps[89]?).getD undef = .slice (some ⟨bL, oL, none⟩) xs.length c8 := (ha 89 (by decide)).trans h89
          clear h89
          obtain ⟨w90, h90, r90⟩ := hp 28 (by decide)
          have e90 : (ac.tmps[90]?).getD undef = .int .i64 (k : Int) := (ha 90 (by decide)).trans h90
          clear h90
          obtain ⟨w87, h87, r87⟩ := hp 25 (by decide)
          have e87 : (ac.tmps[87]?).getD undef = .bool false := (ha 87 (by decide)).trans h87
          clear h87
          clear ha hp
          refine Reg.Op1.guarded rfl rfl e87 (fun _ => Reg.Op1.plain rfl ?_) (fun h => absurd rfl h)
          go_wp2
          exact ⟨rfl, hK _ _ rfl (Reg.Wr.same _)⟩
        · intro val ac u hR hp ha K hK      -- 30: t92 := Op.load 3 t91
          obtain ⟨w91, h91, r91⟩ := hp 29 (by decide)
          have e91 : (ac.tmps[91]?).getD undef = .pointer (some ⟨bL, oL + k, none⟩) := (ha 91 (by decide)).trans h91
          clear h91
          obtain ⟨w87, h87, r87⟩ := hp 25 (by decide)
          have e87 : (ac.tmps[87]?).getD undef = .bool false := (ha 87 (by decide)).trans h87
          clear h87
          clear ha hp
          refine Reg.Op1.guarded rfl rfl e87 (fun _ => Reg.Op1.plain rfl ?_) (fun h => absurd rfl h)
          have x0 := (((Reg.Wr.all hR)).cell (p := ⟨bL, oL + k, none⟩) (hbl11) ((fun h => h.elim id (fun h => h.elim id id)))).trans (y0)
          go_wp2
          exact ⟨rfl, hK _ _ rfl (Reg.Wr.same _)⟩
        · intro val ac u hR hp ha K hK      -- 31: t93 := Op.call { value (Operand.func 20), args := #[t88, t92], argTypes := #[25, 3] }
          obtain ⟨w88, h88, r88⟩ := hp 26 (by decide)
          have e88 : (ac.tmps[88]?).getD undef = .pointer (some ⟨gd, 0, none⟩) := (ha 88 (by decide)).trans h88
          clear h88
          obtain ⟨w92, h92, r92⟩ := hp 30 (by decide)
          have e92 : (ac.tmps[92]?).getD undef = .int .i64 x := (ha 92 (by decide)).trans h92
          clear h92
          obtain ⟨w87, h87, r87⟩ := hp 25 (by decide)
          have e87 : (ac.tmps[87]?).getD undef = .bool false := (ha 87 (by decide)).trans h87
          clear h87
          clear ha hp
          refine Reg.Op1.guarded rfl rfl e87 (fun _ => Reg.Op1.plain rfl ?_) (fun h => absurd rfl h)
          have hk0 : Mem.Keeps (fun _ => False) w11 u := (Mem.Keeps.refl (fun _ => False) w11).drew.trans (Reg.Wr.all hR) (fun _ h _ => h.elim id (fun h => h.elim id id))
          have hM := HM11.out.keeps standsB hk0 (fun _ h _ => h.elim)
          have hp := synced_d hM (i := 0) rfl hxi 0
          go_wp2_with fail
          refine hp.mono ?_
          rintro y w' ⟨rfl, m', hw'⟩
          have hkq : Mem.Keeps (fun _ => False) u w' := by rw [hw']; exact (Mem.Keeps.refl _ u).drewN m'
          clear hw'
          go_wp2_with fail
          exact ⟨rfl, hK _ _ rfl (Reg.Wr.quiet hkq)⟩
        · intro val ac u hR hp ha K hK      -- 32: t94 := Op.move t1
          have e1 : (ac.tmps[1]?).getD undef = .pointer (some ⟨gm, 0, none⟩) := ha 1 (by decide)
          obtain ⟨w87, h87, r87⟩ := hp 25 (by decide)
          have e87 : (ac.tmps[87]?).getD undef = .bool false := (ha 87 (by decide)).trans h87
          clear h87
          clear ha hp
          refine Reg.Op1.guarded rfl rfl e87 (fun _ => Reg.Op1.plain rfl ?_) (fun h => absurd rfl h)
          go_wp2
          exact ⟨rfl, hK _ _ rfl (Reg.Wr.same _)⟩
        · intro val ac u hR hp ha K hK      -- 33: t95 := Op.move t7
          have e7 : (ac.tmps[7]?).getD undef = .slice (some ⟨bL, oL, none⟩) xs.length c8 := ha 7 (by decide)
          obtain ⟨w87, h87, r87⟩ := hp 25 (by decide)
          have e87 : (ac.tmps[87]?).getD undef = .bool false := (ha 87 (by decide)).trans h87
          clear h87
          clear ha hp
          refine Reg.Op1.guarded rfl rfl e87 (fun _ => Reg.Op1.plain rfl ?_) (fun h => absurd rfl h)
          go_wp2
          exact ⟨rfl, hK _ _ rfl (Reg.Wr.same _)⟩
        · intro val ac u hR hp ha K hK      -- 34: t96 := Op.move t8
          have e8 : (ac.tmps[8]?).getD undef = .int .i64 (k : Int) := ha 8 (by decide)
          obtain ⟨w87, h87, r87⟩ := hp 25 (by decide)
          have e87 : (ac.tmps[87]?).getD undef = .bool false := (ha 87 (by decide)).trans h87
          clear h87
          clear ha hp
          refine Reg.Op1.guarded rfl rfl e87 (fun _ => Reg.Op1.plain rfl ?_) (fun h => absurd rfl h)
          go_wp2
          exact ⟨rfl, hK _ _ rfl (Reg.Wr.same _)⟩
        · intro val ac u hR hp ha K hK      -- 35: t97 := Op.indexAddr 33 t95 t96
          obtain ⟨w95, h95, r95⟩ := hp 33 (by decide)
          have e95 : (ac.tmps[95]?).getD undef = .slice (some ⟨bL, oL, none⟩) xs.length c8 := (ha 95 (by decide)).trans h95
          clear h95
          obtain ⟨w96, h96, r96⟩ := hp 34 (by decide)
          have e96 : (ac.tmps[96]?).getD undef = .int .i64 (k : Int) := (ha 96 (by decide)).trans h96
          clear h96
          obtain ⟨w87, h87, r87⟩ := hp 25 (by decide)
          have e87 : (ac.tmps[87]?).getD undef = .bool false := (ha 87 (by decide)).trans h87
          clear h87
          clear ha hp
          refine Reg.Op1.guarded rfl rfl e87 (fun _ => Reg.Op1.plain rfl ?_) (fun h => absurd rfl h)
          go_wp2
          exact ⟨rfl, hK _ _ rfl (Reg.Wr.same _)⟩
        · intro val ac u hR hp ha K hK      -- 36: t98 := Op.load 3 t97
          obtain ⟨w97, h97, r97⟩ := hp 35 (by decide)
          have e97 : (ac.tmps[97]?).getD undef = .pointer (some ⟨bL, oL + k, none⟩) := (ha 97 (by decide)).trans h97
          clear h97
          obtain ⟨w87, h87, r87⟩ := hp 25 (by decide)
          have e87 : (ac.tmps[87]?).getD undef = .bool false := (ha 87 (by decide)).trans h87
          clear h87
          clear ha hp
          refine Reg.Op1.guarded rfl rfl e87 (fun _ => Reg.Op1.plain rfl ?_) (fun h => absurd rfl h)
          have x0 := (((Reg.Wr.all hR)).cell (p := ⟨bL, oL + k, none⟩) (hbl11) ((fun h => h.elim id (fun h => h.elim id id)))).trans (y0)
          go_wp2
          exact ⟨rfl, hK _ _ rfl (Reg.Wr.same _)⟩
        · intro val ac u hR hp ha K hK      -- 37: t99 := Op.call { value (Operand.func 41), args := #[t94, t98], argTypes := #[43, 3] }
          obtain ⟨w94, h94, r94⟩ := hp 32 (by decide)
          have e94 : (ac.tmps[94]?).getD undef = .pointer (some ⟨gm, 0, none⟩) := (ha 94 (by decide)).trans h94
          clear h94
          obtain ⟨w98, h98, r98⟩ := hp 36 (by decide)
          have e98 : (ac.tmps[98]?).getD undef = .int .i64 x := (ha 98 (by decide)).trans h98
          clear h98
          obtain ⟨w87, h87, r87⟩ := hp 25 (by decide)
          have e87 : (ac.tmps[87]?).getD undef = .bool false := (ha 87 (by decide)).trans h87
          clear h87
          clear ha hp
          refine Reg.Op1.guarded rfl rfl e87 (fun _ => Reg.Op1.plain rfl ?_) (fun h => absurd rfl h)
          have hk0 : Mem.Keeps (fun _ => False) w11 u := (Mem.Keeps.refl (fun _ => False) w11).drew.trans (Reg.Wr.all hR) (fun _ h _ => h.elim id (fun h => h.elim id id))
          have hM := HM11.out.keeps standsB hk0 (fun _ h _ => h.elim)
          have hp := synced_q hM (i := 1) rfl HREL.out HOK.out x 0
          go_wp2_with fail
          refine hp.mono ?_
          rintro y w' ⟨rfl, m', hw'⟩
          have hkq : Mem.Keeps (fun _ => False) u w' := by rw [hw']; exact (Mem.Keeps.refl _ u).drewN m'
          clear hw'
          go_wp2_with fail
          exact ⟨rfl, hK _ _ rfl (Reg.Wr.quiet hkq)⟩
        · intro val ac u hR hp ha K hK      -- 38: t100 := Op.binOp BinOp.neq 3 t93 t99 3
          obtain ⟨w93, h93, r93⟩ := hp 31 (by decide)
          have e93 : (ac.tmps[93]?).getD undef = .int .i64 (Dk.synF d.fs x) := (ha 93 (by decide)).trans h93
          clear h93
          obtain ⟨w99, h99, r99⟩ := hp 37 (by decide)
          have e99 : (ac.tmps[99]?).getD undef = .int .i64 (Dk.synF d.fs x) := (ha 99 (by decide)).trans h99
          clear h99
          obtain ⟨w87, h87, r87⟩ := hp 25 (by decide)
          have e87 : (ac.tmps[87]?).getD undef = .bool false := (ha 87 (by decide)).trans h87
          clear h87
          clear ha hp
          refine Reg.Op1.guarded rfl rfl e87 (fun _ => Reg.Op1.plain rfl ?_) (fun h => absurd rfl h)
          go_wp2
          exact ⟨rfl, hK _ _ rfl (Reg.Wr.same _)⟩
        · intro val ac u hR hp ha K hK      -- 39: t101 := Op.pick t87 (const (Value.bool true)) t100
          obtain ⟨w87, h87, r87⟩ := hp 25 (by decide)
          have e87 : (ac.tmps[87]?).getD undef = .bool false := (ha 87 (by decide)).trans h87
          clear h87
          obtain ⟨w100, h100, r100⟩ := hp 38 (by decide)
          have e100 : (ac.tmps[100]?).getD undef = .bool false := (ha 100 (by decide)).trans h100
          clear h100
          clear ha hp
          refine Reg.Op1.plain rfl ?_
          go_wp2
          exact ⟨rfl, hK _ _ rfl (Reg.Wr.same _)⟩
      intro val u hR H
      obtain ⟨_, hv9, _⟩ := H 39 (by decide)
      have hk8 : Mem.Keeps (fun _ => False) w11 u := ((Mem.Keeps.refl (fun _ => False) w11).drew.trans (Reg.Wr.all hR) (fun _ h _ => h.elim id (fun h => h.elim id id)))
      obtain ⟨w12, hw12⟩ : ∃ w12, u = w12 := ⟨_, rfl⟩
      rw [hw12] at hk8
      rw [hw12]
      simp only [List.map_cons, List.map_nil, Reg.lay, Act.put, List.setIfInBounds_toArray, List.set_cons_succ, List.set_cons_zero, Nat.reduceAdd]
      rw [hv9]
      clear hR H hv9 hw12
      have HM12 := Lib.hid (HM11.out.keeps standsB hk8 (fun _ h _ => h.elim))
      have HO12 := Lib.hid (HO11.out.keeps hk8 (fun _ _ h => h))
      have HB12 := Lib.hid (HB11.out.trans (hk8.belowAll.mono HB11.out.size))
      clear hk8
      go_wp2
      go_roundw
      case rel => exact ⟨⟨k + 1, by omega, by go_num, HM12, HO12, HB12⟩⟩
      case measure => simp [intOf]; omega
    · obtain rfl : k = xs.length := by omega
      have d0 : decide ((xs.length : Int) < (xs.length : Int)) = false := by simp
      go_wp2
      go_ret
      exact ⟨rfl, HB.out⟩
end Go.Proofs.Ytfpfpdhfnleebaa
