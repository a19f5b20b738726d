/- The walk of HoldAll. No conditions. -/
import Derived.Test.YtgdcfdjfoeoknaaHoldL
import Derived.Deep.QuietTactic
import Derived.BigQuiet
namespace Go.Proofs.Ytgdcfdjfoeoknaa
open Go.ChangeShapes Go.WideShapes Go.ChangeAt Go.RowKit
set_option linter.unusedVariables false
set_option linter.unusedSimpArgs false
namespace Mem
theorem Own.none0 {w : World} {e : TypeId} {sz : Nat} : Own w e sz none 0 0 [] := by
  refine ⟨?_, ?_⟩ <;> simp [maxLen]
end Mem
namespace Vec
abbrev intV (n : Int) : Value := .int .i64 n
theorem tmod3 (z : Int) : -3 < Int.tmod z 3 ∧ Int.tmod z 3 < 3 := by
  refine ⟨?_, Int.tmod_lt_of_pos _ (by decide)⟩
  rcases Int.le_total 0 z with h | h
  · have := Int.tmod_nonneg 3 h; omega
  · have h2 := Int.tmod_lt_of_pos (-z) (b := 3) (by decide)
    rw [Int.neg_tmod] at h2
    omega
def mkE2 (k : Nat) (d s : Int) (v : Vc) : Ent := ⟨d, 0, s, ⟨(k : Int) + 1, d, 0⟩, ⟨#[107]⟩, ⟨#[]⟩, false, v, 0, (k : Int) + 1⟩
theorem swap_perm (l : List Ent) {i k : Nat} {a b : Ent} (ha : l[i]? = some a) (hb : l[k]? = some b) : ((l.set i b).set k a).Perm l := by
  obtain ⟨hi, rfl⟩ := List.getElem?_eq_some_iff.1 ha
  obtain ⟨hk, rfl⟩ := List.getElem?_eq_some_iff.1 hb
  have h := Array.swap_perm (xs := l.toArray) (i := i) (j := k) (by simpa using hi) (by simpa using hk)
  have h2 := Array.perm_iff_toList_perm.1 h
  simpa [Array.swap] using h2
theorem flat_set (l : List Ent) (k : Nat) (hk : k < l.length) (e : Ent) : (l.flatMap entCells).take (k * 20) ++ entCells e ++ (l.flatMap entCells).drop (k * 20 + (entCells e).length) = (l.set k e).flatMap entCells := by
  rw [Mem.flat_take entCells_length, entCells_length, show k * 20 + 20 = (k + 1) * 20 by omega, Mem.flat_drop entCells_length, List.set_eq_take_append_cons_drop, if_pos hk]
  simp
theorem all_nums {k : Nat} (hk : k ≤ 16) {gq m1 : Int} (h1 : 0 ≤ gq ∧ gq ≤ k) (hm : -3 < m1 ∧ m1 < 3) :
    wrap64 (m1 + 3) = m1 + 3 ∧ wrap64 (gq + 1) = gq + 1 ∧ IntKind.i64.wrap (gq + 1) = gq + 1 ∧ wrap64 ((k : Int) + 1) = (k : Int) + 1 ∧ IntKind.i64.wrap ((k : Int) + 1) = (k : Int) + 1 :=
  ⟨IntWalk.wrap64_in _ (by omega), IntWalk.wrap64_in _ (by omega), IntWalk.i64_in _ (by omega), IntWalk.wrap64_in _ (by omega), IntWalk.i64_in _ (by omega)⟩
theorem dc_nat {m1 dc : Int} (h : Int.tmod (m1 + 3) 3 = dc) (hd : 0 ≤ dc ∧ dc < 3) : ∃ dn : Nat, dc = dn ∧ dn < 3 := ⟨dc.toNat, by omega, by omega⟩
theorem k1_num {k : Nat} (hk : k ≤ 16) : wrap64 ((k : Int) + 1) = (k : Int) + 1 := IntWalk.wrap64_in _ (by omega)
theorem small_len {n : Nat} (h : n ≤ 16) : n ≤ maxLen ∧ n * 176 ≤ 140737488355328 := by unfold maxLen; omega
theorem meas {k n : Nat} (h : k < n) : n - (intOf (.int .i64 ((k : Int) + 1))).toNat < n - (intOf (.int .i64 (k : Int))).toNat := by simp [intOf]; omega
theorem swap_nums {n : Nat} (hn : 0 < n) (h16 : n ≤ 16) (t : Int) : ∃ kk : Nat, kk < n ∧ (wrap64 (Int.tmod t n + n)).tmod n = kk := by
  have h1 : -(n : Int) < Int.tmod t n ∧ Int.tmod t n < n := by
    refine ⟨?_, Int.tmod_lt_of_pos _ (by omega)⟩
    rcases Int.le_total 0 t with h | h
    · have := Int.tmod_nonneg (n : Int) h; omega
    · have h2 := Int.tmod_lt_of_pos (-t) (b := (n : Int)) (by omega)
      rw [Int.neg_tmod] at h2
      omega
  rw [IntWalk.wrap64_in _ (by omega)]
  have h3 := Int.tmod_nonneg (a := Int.tmod t n + n) (n : Int) (by omega)
  have h4 := Int.tmod_lt_of_pos (Int.tmod t n + n) (b := (n : Int)) (by omega)
  exact ⟨(Int.tmod (Int.tmod t n + n) n).toNat, by omega, by omega⟩
structure AllRel (w : World) (gv : Nat) (z : Nat → Int) (n : Nat) (v5 v7 : Value) (wr : World) : Prop where
  out : ∃ (k : Nat) (A : Option Addr) (c : Nat), k ≤ n ∧ v5 = .slice A k c ∧ v7 = .int .i64 k ∧ Hid (EOwn wr A c (Ls z 0 k)) ∧ Hid (VBx wr gv (Vn z k)) ∧ Hid (Below w.heap.size w wr) ∧ Hid (∀ q, Mem.blk A = some q → w.heap.size ≤ q ∧ q ≠ gv)
structure MixRel (wq : World) (B : Option Addr) (c : Nat) (es : List Ent) (n : Nat) (v11 : Value) (wr : World) : Prop where
  out : ∃ (k : Nat) (l : List Ent), k ≤ n ∧ v11 = .int .i64 k ∧ l.Perm es ∧ Hid (EOwn wr B c l) ∧ Hid (Mem.Keeps (fun q => Mem.blk B = some q) wq wr)
structure OutRel (wq : World) (gh g14 : Nat) (A : Option Addr) (c : Nat) (z : Nat → Int) (n : Nat) (v15 : Value) (wr : World) : Prop where
  out : ∃ (i : Nat) (hs : List Ent), i ≤ n ∧ v15 = .int .i64 i ∧ hs.Perm (Ls z i (n - i)) ∧ Hid (HAt 61 wr gh A c 0 hs) ∧ Hid (VBx wr g14 (Vn z i)) ∧ Hid (Mem.Keeps (fun k => HB gh A k ∨ k = g14) wq wr)
end Vec
section
open Vec
theorem open_intsR {H : Type} {enc : TypeId × Value → H} {W : World} {base : Nat} {v : Value} {d : DataW H} {p : List MemPlace} (o : Value.okWide Try.prog W .any base 22 v) (k : DataW.Trod enc Try.prog W 0 (fun _ => true) true 22 v d p) :
    ∃ A c, ∃ zs : List Int, v = .slice A zs.length c ∧ zs.length ≤ c ∧ c ≤ maxLen ∧ Mem.Rd W W.heap.size A (zs.map intV) := by
  obtain ⟨a0, len0, cap0, rfl⟩ := okWide_slice Try.underlying22 o
  obtain ⟨fuel, hf⟩ := k
  rcases open_ints Try.underlying22 Try.underlying3 (by kernel_rfl) hf with ⟨hcs, _⟩ | ⟨x, l, c, zs, hcs, _, hl, hm, hz, _, hcell, hwz⟩
  · simp [Value.cells] at hcs
    obtain ⟨rfl, rfl, rfl⟩ := hcs
    exact ⟨none, 0, [], rfl, by simp, by simp [maxLen], .inl rfl⟩
  · simp [Value.cells] at hcs
    obtain ⟨rfl, rfl, rfl⟩ := hcs
    have hzl : zs.length = cap0 := by simpa using hz
    have hlen : (zs.take len0).length = len0 := by simp; omega
    refine ⟨some x, cap0, zs.take len0, by rw [hlen], by omega, hm, ?_⟩
    by_cases h0 : len0 = 0
    · subst h0; exact .inl rfl
    · obtain ⟨b, off, spot⟩ := x
      have hc0 := hcell 0 (by omega)
      have hspot : spot = none := by simpa [Addr.add] using World.cell?_spot hc0
      subst hspot
      refine .inr ⟨b, off, rfl, by simpa [Addr.add] using World.block_lt_of_cell? W _ hc0, fun j u hu => ?_⟩
      simp only [List.getElem?_map, Option.map_eq_some_iff] at hu
      obtain ⟨z, hz1, rfl⟩ := hu
      rw [List.getElem?_take] at hz1
      split at hz1
      · have hj2 : j < zs.length := (List.getElem?_eq_some_iff.1 hz1).1
        have hc := hcell j hj2
        rw [Mem.add_flat] at hc
        rw [hc, List.getD_eq_getElem?_getD, hz1]
        rfl
      · cases hz1
end
namespace holdAllOpen
open Vec
set_option maxRecDepth 20000 in
set_option maxHeartbeats 8000000 in
theorem walk (A0 A1 : Option Addr) (c0 c1 : Nat) (cs ts : List Int) (w : World) (hr0 : Mem.Rd w w.heap.size A0 (cs.map intV)) (hr1 : Mem.Rd w w.heap.size A1 (ts.map intV)) (ht : ts.length ≤ 9223372036854775807) (hc : cs.length ≤ 9223372036854775807) :
    Calls Try.prog 3 #[.slice A0 cs.length c0, .slice A1 ts.length c1] w fun e w' => e = .returned (.bool true) ∧ Below w.heap.size w w' := by
  have HR0 := Lib.hid hr0
  have HR1 := Lib.hid hr1
  clear hr0 hr1
  go_enter Try.func3, Try.ntmps3
  go_wp2_with fail
  refine (holdAble_any w).mono ?_
  rintro x w1 ⟨rfl, hb1⟩
  have HB1 := Lib.hid hb1
  clear hb1
  by_cases h16 : cs.length ≤ 16
  case neg =>
    have d0 : decide ((16 : Int) < (cs.length : Int)) = true := by simp; omega
    go_wp2
    go_ret
    exact ⟨rfl, HB1.out⟩
  have d0 : decide ((16 : Int) < (cs.length : Int)) = false := by simp; omega
  go_upto_region 7 with fail
  obtain ⟨w2, hw2⟩ : ∃ w2, w1.alloc (.cells (vcCells vc0).toArray 27) = w2 := ⟨_, rfl⟩
  have HV2 : Hid (VBx w2 w1.heap.size vc0) := by show VBx _ _ _; rw [← hw2]; exact Mem.Bx.new w1 27 (vcCells vc0).toArray rfl rfl
  have HB2 : Hid (Below w.heap.size w w2) := HB1.out.trans (by rw [← hw2]; exact (Reg.below_new _ _).mono HB1.out.size)
  have hgv : w.heap.size ≤ w1.heap.size := HB1.out.size
  obtain ⟨gv, hgv1⟩ : ∃ gv, w1.heap.size = gv := ⟨_, rfl⟩
  change Code.wp _ _ _ _ (w1.alloc (.cells (vcCells vc0).toArray 27))
  rw [hw2]
  rw [hgv1] at HV2 hgv ⊢
  clear hw2 HB1 hgv1
  obtain ⟨z, hz⟩ : ∃ z : Nat → Int, z = fun i => cs.getD i 0 := ⟨_, rfl⟩
  have HZ := Lib.hid hz
  clear hz
  go_wp2
  go_loopw [5, 7] (AllRel w gv z cs.length) (fun _ t _ => cs.length - (intOf t).toNat)
  case atStart => exact ⟨⟨0, none, 0, by omega, rfl, rfl, Mem.Own.none0, HV2, HB2, fun q h => by cases h⟩⟩
  case round =>
    obtain ⟨k, A, c, hk, rfl, rfl, HO, HV, HB, HQ⟩ := hrel.out
    by_cases hlt : k < cs.length
    · obtain ⟨b, o, rfl, hbb, hcc⟩ := HR0.out.at (k := k) (by simpa using hlt)
      have x0 := (HB.out.cell (p := ⟨b, o + k, none⟩) hbb).trans hcc
      have hzk : cs[k] = z k := by rw [HZ.out]; simp [List.getD_eq_getElem?_getD, hlt]
      rw [List.getElem_map, hzk] at x0
      obtain ⟨zk, hzk1⟩ : ∃ zk, z k = zk := ⟨_, rfl⟩
      rw [hzk1] at x0
      obtain ⟨m1, hm1⟩ : ∃ m1, Int.tmod zk 3 = m1 := ⟨_, rfl⟩
      obtain ⟨dc, hdc⟩ : ∃ dc, Int.tmod (m1 + 3) 3 = dc := ⟨_, rfl⟩
      have hdcz : dc3 (z k) = dc := by unfold dc3; rw [hzk1, hm1, hdc]
      have hm3 : -3 < m1 ∧ m1 < 3 := by rw [← hm1]; exact tmod3 zk
      have hdn := dc3_in (z k)
      rw [hdcz] at hdn
      obtain ⟨dn, rfl, hd3⟩ := dc_nat hdc hdn
      obtain ⟨vk, hvk⟩ : ∃ vk, Vn z k = vk := ⟨_, rfl⟩
      obtain ⟨gq, hgq⟩ : ∃ gq, vk.get dn 0 = gq := ⟨_, rfl⟩
      have hgi := Vn_in z k hd3 (r := 0) (by omega)
      rw [hvk, hgq] at hgi
      have HEq : Hid (En z k = mkE2 k (dn : Int) (gq + 1) vk) := by show mkE k (dc3 (z k)) (Vn z k) = _; rw [hdcz, hvk]; unfold mkE mkE2; rw [Int.toNat_natCast, hgq]
      have HVn : Hid (Vn z (k + 1) = withL vk [⟨(dn : Int), 0, gq + 1⟩]) := by show withL (Vn z k) [dotI (dc3 (z k)) (Vn z k)] = _; rw [hdcz, hvk]; unfold dotI; rw [Int.toNat_natCast, hgq]
      rw [hvk] at HV
      have HG2 := Lib.hid hgi.2.1
      obtain ⟨hw0, hw1, hw2, hw3, hw4⟩ := all_nums (by omega : k ≤ 16) ⟨hgi.1, hgi.2.1⟩ hm3
      have HOk : Hid (Mem.Own wr 33 20 A k c ((Ls z 0 k).flatMap entCells)) := by have h9 : Mem.Own _ _ _ _ _ _ _ := HO.out; rw [Ls_length] at h9; exact h9
      have hgvl := HV.out.lt
      obtain ⟨e, he⟩ : ∃ e, mkE2 k (dn : Int) (gq + 1) vk = e := ⟨_, rfl⟩
      rw [he] at HEq
      have HE1 := Lib.hid he
      have hee := Lib.hid he
      clear hbb hcc hzk hdcz hm3 hgi hvk hzk1 HO he
      have hk16 : k + 1 ≤ 16 := Nat.le_trans hlt h16
      go_upto_region 11 with fail
      clear hdc hm1 hw0 x0
      refine Reg.wp_region_z (by kernel_rfl) 145 17 rfl rfl (by kernel_rfl) 90 91 (by decide) (16) (fun y => wr.heap.size ≤ y) (0) (fun _ => False) (0) (fun _ => False)
        (fun i f v u => match i with
          | 0 => v = .int .i64 (dn : Int)
          | 1 => v = .int .i64 (dn : Int)
          | 2 => v = .pointer (some ⟨gv, dn * 3, none⟩)
          | 3 => v = .pointer (some ⟨gv, dn * 3, none⟩)
          | 4 => v = .int .i64 gq
          | 5 => v = .int .i64 (gq + 1)
          | 6 => v = .agg #[.int .i64 (dn : Int), .int .i64 0, .int .i64 (gq + 1)]
          | 7 => v = .int .i64 k
          | 8 => v = .int .i64 ((k : Int) + 1)
          | 9 => v = .int .i64 (dn : Int)
          | 10 => v = .agg #[.int .i64 ((k : Int) + 1), .int .i64 (dn : Int), .int .i64 0]
          | 11 => v = .agg (vcCells vk).toArray
          | 12 => v = .int .i64 k
          | 13 => v = .int .i64 ((k : Int) + 1)
          | 14 => v = .agg (entCells e).toArray
          | 15 => ∃ s, v = .pointer (some ⟨s, 0, none⟩) ∧ wr.heap.size ≤ s ∧ EBx u s ent0
          | 16 => ∃ s, f 9 = .pointer (some ⟨s, 0, none⟩) ∧ wr.heap.size ≤ s ∧ EBx u s e
          | _ => True) ?_ ?_
      · refine Reg.StepsZ.cons ?_ (Reg.StepsZ.cons ?_ (Reg.StepsZ.cons ?_ (Reg.StepsZ.cons ?_ (Reg.StepsZ.cons ?_ (Reg.StepsZ.cons ?_ (Reg.StepsZ.cons ?_ (Reg.StepsZ.cons ?_ (Reg.StepsZ.cons ?_ (Reg.StepsZ.cons ?_ (Reg.StepsZ.cons ?_ (Reg.StepsZ.cons ?_ (Reg.StepsZ.cons ?_ (Reg.StepsZ.cons ?_ (Reg.StepsZ.cons ?_ (Reg.StepsZ.cons ?_ (Reg.StepsZ.cons ?_ (Reg.StepsZ.nil _)))))))))))))))))
        · intro val ac u hR hp hpq ha K hK0      -- 0: t36 := Op.move t8
          have hK := fun v w' h1 h2 => hK0 v w' h1 h2 (fun j f v' h _ => by omega)
          have e8 : (ac.tmps[8]?).getD undef = .int .i64 (dn : Int) := ha 8 (by decide)
          clear ha hp
          refine Reg.Op1.plain rfl ?_
          go_wp2
          exact ⟨rfl, hK _ _ rfl (Reg.Wr.same _)⟩
        · intro val ac u hR hp hpq ha K hK0      -- 1: t37 := Op.move t8
          have hK := fun v w' h1 h2 => hK0 v w' h1 h2 (fun j f v' h _ => by omega)
          have e8 : (ac.tmps[8]?).getD undef = .int .i64 (dn : Int) := ha 8 (by decide)
          clear ha hp
          refine Reg.Op1.plain rfl ?_
          go_wp2
          exact ⟨rfl, hK _ _ rfl (Reg.Wr.same _)⟩
        · intro val ac u hR hp hpq ha K hK0      -- 2: t38 := Op.indexAddr 27 t6 t37
          have hK := fun v w' h1 h2 => hK0 v w' h1 h2 (fun j f v' h _ => by omega)
          have e6 : (ac.tmps[6]?).getD undef = .pointer (some ⟨gv, 0, none⟩) := ha 6 (by decide)
          obtain ⟨w37, h37, r37⟩ := hp 1 (by decide)
          have e37 : (ac.tmps[37]?).getD undef = .int .i64 (dn : Int) := (ha 37 (by decide)).trans h37
          clear h37
          clear ha hp
          refine Reg.Op1.plain rfl ?_
          go_wp2
          exact ⟨rfl, hK _ _ rfl (Reg.Wr.same _)⟩
        · intro val ac u hR hp hpq ha K hK0      -- 3: t39 := Op.indexAddr 25 t38 (const (0:i64))
          have hK := fun v w' h1 h2 => hK0 v w' h1 h2 (fun j f v' h _ => by omega)
          obtain ⟨w38, h38, r38⟩ := hp 2 (by decide)
          have e38 : (ac.tmps[38]?).getD undef = .pointer (some ⟨gv, dn * 3, none⟩) := (ha 38 (by decide)).trans h38
          clear h38
          clear ha hp
          refine Reg.Op1.plain rfl ?_
          go_wp2
          exact ⟨rfl, hK _ _ rfl (Reg.Wr.same _)⟩
        · intro val ac u hR hp hpq ha K hK0      -- 4: t40 := Op.load 3 t39
          have hK := fun v w' h1 h2 => hK0 v w' h1 h2 (fun j f v' h _ => by omega)
          obtain ⟨w39, h39, r39⟩ := hp 3 (by decide)
          have e39 : (ac.tmps[39]?).getD undef = .pointer (some ⟨gv, dn * 3, none⟩) := (ha 39 (by decide)).trans h39
          clear h39
          clear ha hp
          refine Reg.Op1.plain rfl ?_
          have hq : Mem.Keeps (fun _ => False ∨ False) wr u := (Mem.Keeps.refl (fun _ => False ∨ False) wr).drew.trans (Reg.Wr.not1 hR (by decide +kernel)) (fun _ h _ => h)
          have x0 := (HV.out.keeps hq (fun h => h.elim id id)).cell (j := dn * 3) (vc_cell vk hd3 (r := 0) (by omega))
          rw [hgq] at x0
          go_wp2
          exact ⟨rfl, hK _ _ rfl (Reg.Wr.same _)⟩
        · intro val ac u hR hp hpq ha K hK0      -- 5: t41 := Op.binOp BinOp.add 3 t40 (const (1:i64)) 3
          have hK := fun v w' h1 h2 => hK0 v w' h1 h2 (fun j f v' h _ => by omega)
          obtain ⟨w40, h40, r40⟩ := hp 4 (by decide)
          have e40 : (ac.tmps[40]?).getD undef = .int .i64 gq := (ha 40 (by decide)).trans h40
          clear h40
          clear ha hp
          refine Reg.Op1.plain rfl ?_
          go_wp2
          exact ⟨rfl, hK _ _ rfl (Reg.Wr.same _)⟩
        · intro val ac u hR hp hpq ha K hK0      -- 6: t42 := Op.build 29 #[(0, t36), (2, t41)]
          have hK := fun v w' h1 h2 => hK0 v w' h1 h2 (fun j f v' h _ => by omega)
          obtain ⟨w36, h36, r36⟩ := hp 0 (by decide)
          have e36 : (ac.tmps[36]?).getD undef = .int .i64 (dn : Int) := (ha 36 (by decide)).trans h36
          clear h36
          obtain ⟨w41, h41, r41⟩ := hp 5 (by decide)
          have e41 : (ac.tmps[41]?).getD undef = .int .i64 (gq + 1) := (ha 41 (by decide)).trans h41
          clear h41
          clear ha hp
          refine Reg.Op1.plain rfl ?_
          go_wp2
          exact ⟨rfl, hK _ _ rfl (Reg.Wr.same _)⟩
        · intro val ac u hR hp hpq ha K hK0      -- 7: t43 := Op.move t7
          have hK := fun v w' h1 h2 => hK0 v w' h1 h2 (fun j f v' h _ => by omega)
          have e7 : (ac.tmps[7]?).getD undef = .int .i64 k := ha 7 (by decide)
          clear ha hp
          refine Reg.Op1.plain rfl ?_
          go_wp2
          exact ⟨rfl, hK _ _ rfl (Reg.Wr.same _)⟩
        · intro val ac u hR hp hpq ha K hK0      -- 8: t44 := Op.binOp BinOp.add 3 t43 (const (1:i64)) 3
          have hK := fun v w' h1 h2 => hK0 v w' h1 h2 (fun j f v' h _ => by omega)
          obtain ⟨w43, h43, r43⟩ := hp 7 (by decide)
          have e43 : (ac.tmps[43]?).getD undef = .int .i64 k := (ha 43 (by decide)).trans h43
          clear h43
          clear ha hp
          refine Reg.Op1.plain rfl ?_
          go_wp2
          exact ⟨rfl, hK _ _ rfl (Reg.Wr.same _)⟩
        · intro val ac u hR hp hpq ha K hK0      -- 9: t45 := Op.move t8
          have hK := fun v w' h1 h2 => hK0 v w' h1 h2 (fun j f v' h _ => by omega)
          have e8 : (ac.tmps[8]?).getD undef = .int .i64 (dn : Int) := ha 8 (by decide)
          clear ha hp
          refine Reg.Op1.plain rfl ?_
          go_wp2
          exact ⟨rfl, hK _ _ rfl (Reg.Wr.same _)⟩
        · intro val ac u hR hp hpq ha K hK0      -- 10: t46 := Op.build 31 #[(0, t44), (1, t45)]
          have hK := fun v w' h1 h2 => hK0 v w' h1 h2 (fun j f v' h _ => by omega)
          obtain ⟨w44, h44, r44⟩ := hp 8 (by decide)
          have e44 : (ac.tmps[44]?).getD undef = .int .i64 ((k : Int) + 1) := (ha 44 (by decide)).trans h44
          clear h44
          obtain ⟨w45, h45, r45⟩ := hp 9 (by decide)
          have e45 : (ac.tmps[45]?).getD undef = .int .i64 (dn : Int) := (ha 45 (by decide)).trans h45
          clear h45
          clear ha hp
          refine Reg.Op1.plain rfl ?_
          go_wp2
          exact ⟨rfl, hK _ _ rfl (Reg.Wr.same _)⟩
        · intro val ac u hR hp hpq ha K hK0      -- 11: t47 := Op.load 27 t6
          have hK := fun v w' h1 h2 => hK0 v w' h1 h2 (fun j f v' h _ => by omega)
          have e6 : (ac.tmps[6]?).getD undef = .pointer (some ⟨gv, 0, none⟩) := ha 6 (by decide)
          clear ha hp
          refine Reg.Op1.plain rfl ?_
          have hq : Mem.Keeps (fun _ => False ∨ False) wr u := (Mem.Keeps.refl (fun _ => False ∨ False) wr).drew.trans (Reg.Wr.not1 hR (by decide +kernel)) (fun _ h _ => h)
          have hVu := HV.out.keeps hq (fun h => h.elim id id)
          refine Mem.load_agg _ _ vec_agg gv 0 (vcCells vk) (Reg.eval_of e6) (vcCells_length _) (fun j u' hu => by rw [Nat.zero_add]; exact hVu.cell hu) ?_
          exact ⟨rfl, hK _ _ rfl (Reg.Wr.same _)⟩
        · intro val ac u hR hp hpq ha K hK0      -- 12: t48 := Op.move t7
          have hK := fun v w' h1 h2 => hK0 v w' h1 h2 (fun j f v' h _ => by omega)
          have e7 : (ac.tmps[7]?).getD undef = .int .i64 k := ha 7 (by decide)
          clear ha hp
          refine Reg.Op1.plain rfl ?_
          go_wp2
          exact ⟨rfl, hK _ _ rfl (Reg.Wr.same _)⟩
        · intro val ac u hR hp hpq ha K hK0      -- 13: t49 := Op.binOp BinOp.add 3 t48 (const (1:i64)) 3
          have hK := fun v w' h1 h2 => hK0 v w' h1 h2 (fun j f v' h _ => by omega)
          obtain ⟨w48, h48, r48⟩ := hp 12 (by decide)
          have e48 : (ac.tmps[48]?).getD undef = .int .i64 k := (ha 48 (by decide)).trans h48
          clear h48
          clear ha hp
          refine Reg.Op1.plain rfl ?_
          go_wp2
          exact ⟨rfl, hK _ _ rfl (Reg.Wr.same _)⟩
        · intro val ac u hR hp hpq ha K hK0      -- 14: t50 := Op.build 33 #[(0, t42), (1, t46), (2, const (Value.string { data := #[107] })), (5, t47), (7, t49)]
          have hK := fun v w' h1 h2 => hK0 v w' h1 h2 (fun j f v' h _ => by omega)
          obtain ⟨w42, h42, r42⟩ := hp 6 (by decide)
          have e42 : (ac.tmps[42]?).getD undef = .agg #[.int .i64 (dn : Int), .int .i64 0, .int .i64 (gq + 1)] := (ha 42 (by decide)).trans h42
          clear h42
          obtain ⟨w46, h46, r46⟩ := hp 10 (by decide)
          have e46 : (ac.tmps[46]?).getD undef = .agg #[.int .i64 ((k : Int) + 1), .int .i64 (dn : Int), .int .i64 0] := (ha 46 (by decide)).trans h46
          clear h46
          obtain ⟨w47, h47, r47⟩ := hp 11 (by decide)
          have e47 : (ac.tmps[47]?).getD undef = .agg (vcCells vk).toArray := (ha 47 (by decide)).trans h47
          clear h47
          obtain ⟨w49, h49, r49⟩ := hp 13 (by decide)
          have e49 : (ac.tmps[49]?).getD undef = .int .i64 ((k : Int) + 1) := (ha 49 (by decide)).trans h49
          clear h49
          clear ha hp
          refine Reg.Op1.plain rfl ?_
          go_wp2
          exact ⟨rfl, hK _ _ (show _ = Value.agg (entCells e).toArray by rw [← HE1.out]; rfl) (Reg.Wr.same _)⟩
        · intro val ac u hR hp hpq ha K hK0      -- 15: t9 := Op.alloc 33
          have hK := fun v w' h1 h2 => hK0 v w' h1 h2 (fun j f v' h _ => by omega)
          clear ha hp
          refine Reg.Op1.plain rfl ?_
          have hbu : wr.heap.size ≤ u.heap.size := (Reg.Wr.all hR).size
          go_wp2
          exact ⟨rfl, hK _ _ ⟨u.heap.size, rfl, hbu, Mem.Bx.new u 33 (entCells ent0).toArray rfl rfl⟩ (Reg.Wr.quiet ((Mem.Keeps.refl _ u).alloc _))⟩
        · intro val ac u hR hp hpq ha K hK0      -- 16: Op.store 33 t9 t50
          have hK := fun v w' h1 h2 => hK0 v w' h1 h2 (fun j f v' h _ => by omega)
          obtain ⟨w9, h9, r9⟩ := hp 15 (by decide)
          have e9 : (ac.tmps[9]?).getD undef = val 15 := ha 9 (by decide)
          obtain ⟨w50, h50, r50⟩ := hp 14 (by decide)
          have e50 : (ac.tmps[50]?).getD undef = .agg (entCells e).toArray := (ha 50 (by decide)).trans h50
          clear h50
          clear ha hp
          refine Reg.Op1.plain rfl ?_
          obtain ⟨s, hv, hs, hbx⟩ := h9
          have hv7 := hv
          rw [hv] at e9
          have hbx' : EBx u s ent0 := hbx.keeps (Reg.Wr.not1 r9 (by decide +kernel)) (fun h => h.elim id id)
          refine Mem.store_agg _ _ entry_agg s (entCells ent0) (entCells e) (Reg.eval_of e9) (Reg.eval_of e50) hbx' (entCells_length _) (ent_one _) ?_
          intro w' hb hk hs'
          exact ⟨rfl, hK undef _ ⟨s, hv7, hs, hb⟩ (Reg.Wr.does1 (hk.mono (fun i h _ => by show wr.heap.size ≤ i; omega)))⟩
      · intro val u hR H hZ
        obtain ⟨wA, ⟨s, hv7, hs, hb⟩, rA⟩ := H 16 (by decide)
        have hv7 : val 15 = .pointer (some ⟨s, 0, none⟩) := hv7
        have hq : Mem.Keeps (fun y => wr.heap.size ≤ y ∨ False ∨ False) wr u := (Mem.Keeps.refl (fun y => wr.heap.size ≤ y ∨ False ∨ False) wr).drew.trans (Reg.Wr.all hR) (fun _ h _ => h)
        have hne : ∀ y, y < wr.heap.size → ¬ (wr.heap.size ≤ y ∨ False ∨ False) := fun y hy h => by rcases h with h | h | h <;> first | omega | exact h
        have HE11 : Hid (EBx u s e) := hb.keeps (Reg.Wr.not1 rA (by decide +kernel)) (fun h => h.elim id id)
        have HV11 : Hid (VBx u gv vk) := HV.out.keeps hq (hne _ hgvl)
        have HO11 := Lib.hid (HOk.out.keeps hq (fun y h => hne _ (HOk.out.lt h)))
        have HB11 : Hid (Below w.heap.size w u) := HB.out.trans (hq.below (B := w.heap.size) (fun y h => by have := HB.out.size; rcases h with h | h | h <;> first | omega | exact h.elim) HB.out.size)
        have hAs : Hid (∀ q, Mem.blk A = some q → q ≠ s) := fun q h => by have := HOk.out.lt h; omega
        have hgs : gv ≠ s := by omega
        have hgu : gv < u.heap.size := HV11.out.lt
        simp only [List.map_cons, List.map_nil, Reg.lay, Act.put, List.setIfInBounds_toArray, List.set_cons_succ, List.set_cons_zero, Nat.reduceAdd, hv7]
        clear hR H hZ hq hb rA hv7 hne HV HOk HB hs hgvl
        obtain ⟨w11, hw11⟩ : ∃ w11, w11 = u := ⟨_, rfl⟩
        subst hw11
        have hrd9 := Mem.Rd.alloc_new w11 (entCells e).toArray 33 (0, 0) rfl
        have HRD9 := Lib.hid hrd9
        have HO9 := Lib.hid (HO11.out.keeps ((Mem.Keeps.refl (fun _ => False) w11).alloc (.cells (entCells e).toArray 33)) (fun _ _ h => h))
        clear hrd9
        go_upto_region 13 with (first | ((with_reducible refine Mem.load_agg _ _ entry_agg (s) 0 (entCells e) ?hxea (entCells_length _) (fun j u hu => by rw [Nat.zero_add]; exact HE11.out.cell hu) ?_); (case hxea => exact rfl)) | ((with_reducible refine Mem.build1_agg _ _ 20 _ Try.underlying24 entry_zero (by decide) (by decide) (entCells e) ?hra (entCells_length _) ?_); (case hra => exact rfl)) | (at_builtin; refine Mem.wpList_app _ rfl (.tmp 51) (.tmp 53) _ rfl entries_elem A k c _ rfl (w11.heap.size + 1) (some ⟨w11.heap.size, 0, none⟩) 1 1 (entCells e) rfl ?_ HO9.out HRD9.out rfl (ent_one e) (small_len hk16).1 (small_len hk16).2; intro A2 c2 w12 hown hgr hat; have HOwn := Lib.hid hown; have HGr := Lib.hid hgr; have HAt := Lib.hid hat; clear hown hgr hat))
        have HK12 : Hid (Mem.Keeps (fun y => Mem.blk A = some y) w11 w12) := (((Mem.Keeps.refl (fun y => Mem.blk A = some y) w11).alloc _).grown HGr.out (fun k h _ => h))
        have HV12 : Hid (VBx w12 gv vk) := HV11.out.keeps HK12.out (fun h => (HQ.out _ h).2 rfl)
        have HE12 : Hid (EBx w12 s e) := HE11.out.keeps HK12.out (fun h => hAs.out _ h rfl)
        have HB12 : Hid (Below w.heap.size w w12) := HB11.out.trans (HK12.out.below (fun q h => (HQ.out q h).1) HB11.out.size)
        have HO12 : Hid (EOwn w12 A2 c2 (Ls z 0 (k + 1))) := by show Mem.Own _ _ _ _ _ _ _; rw [Ls_length, Ls_snoc, HEq.out, List.flatMap_append]; simpa using HOwn.out
        have HQ12 : Hid (∀ q, Mem.blk A2 = some q → w.heap.size ≤ q ∧ q ≠ gv) := fun q h => by
          rcases HAt.out with rfl | rfl
          · exact HQ.out q h
          · have h8 := HB11.out.size
            simp [Mem.blk] at h
            omega
        clear HOwn HGr HAt HO9 HRD9 HO11 HV11 HE11 HB11 HK12 hAs HE1 HEq
        have hev : (⟨e.dc, e.rng, e.seq⟩ : Dt) = ⟨(dn : Int), 0, gq + 1⟩ := by rw [← hee.out]; rfl
        have hrd : Mem.Rd (w12.alloc (.cells (dtCells ⟨e.dc, e.rng, e.seq⟩).toArray 29)) (w12.alloc (.cells (dtCells ⟨e.dc, e.rng, e.seq⟩).toArray 29)).heap.size (some ⟨w12.heap.size, 0, none⟩) ([(⟨e.dc, e.rng, e.seq⟩ : Dt)].flatMap dtCells) := by
          have h9 := Mem.Rd.alloc_new w12 (dtCells ⟨e.dc, e.rng, e.seq⟩).toArray 29 (0, 0) rfl
          simpa using h9
        have HRD := Lib.hid hrd
        rw [← hev] at HVn
        obtain ⟨vn, hvn⟩ : ∃ vn, withL vk [⟨e.dc, e.rng, e.seq⟩] = vn := ⟨_, rfl⟩
        rw [hvn] at HVn
        have HVV := Lib.hid hvn
        have hov := vc_one vn
        clear hrd hvn hev hee
        go_wp2_with (first | ((with_reducible refine Mem.load_agg _ _ vec_agg (gv) 0 (vcCells vk) ?hxeb (vcCells_length _) (fun j u hu => by rw [Nat.zero_add]; exact HV12.out.cell hu) ?_); (case hxeb => exact rfl)) | ((with_reducible refine Mem.load_agg _ _ dot_agg (s) 0 (dtCells ⟨e.dc, e.rng, e.seq⟩) ?hxec (dtCells_length _) (HE12.out.part 0 rfl) ?_); (case hxec => exact rfl)) | ((with_reducible refine Mem.build1_agg _ _ 3 _ Try.underlying58 dot_zero (by decide) (by decide) (dtCells ⟨e.dc, e.rng, e.seq⟩) ?hrb (dtCells_length _) ?_); (case hrb => exact rfl)) | (go_at_call 8; refine (with_any vk (some ⟨w12.heap.size, 0, none⟩) 1 [⟨e.dc, e.rng, e.seq⟩] _ _ HRD.out (Nat.le_refl _) (by simp [maxLen])).mono ?_; rintro x9 w13 ⟨rfl, hb13⟩; rw [HVV.out]; have HK13 : Hid (Below w12.heap.size w12 w13) := (Reg.below_new _ _).trans (hb13.mono (by simp)); clear hb13) | ((with_reducible refine Mem.store_agg _ _ vec_agg (gv) (vcCells vk) (vcCells vn) ?hxed ?hyed ?hbed (vcCells_length _) hov ?_); ((case hxed => exact rfl); (case hyed => exact rfl); (case hbed => exact HV12.out.below HK13.out HV12.out.lt); intro w14 hbq hkq hsq; have Hb14 := Lib.hid hbq; have Hk14 := Lib.hid hkq; clear hbq hkq hsq)))
        have HO13 : Hid (EOwn w13 A2 c2 (Ls z 0 (k + 1))) := HO12.out.keeps (Mem.Keeps.of_below HK13.out) (fun _ _ h => h)
        have HO14 : Hid (EOwn w14 A2 c2 (Ls z 0 (k + 1))) := HO13.out.keeps Hk14.out (fun q h1 h2 => (HQ12.out q h1).2 h2)
        have HV14 : Hid (VBx w14 gv (Vn z (k + 1))) := by show VBx _ _ _; rw [HVn.out]; exact Hb14.out
        have HB13 := HB12.out.trans (HK13.out.mono HB12.out.size)
        have HB14 : Hid (Below w.heap.size w w14) := HB13.trans (Hk14.out.below (fun q h => by rw [h]; exact hgv) HB13.size)
        go_roundw
        case rel => exact ⟨⟨k + 1, A2, c2, hlt, rfl, rfl, HO14, HV14, HB14, HQ12⟩⟩
        case measure => exact meas hlt
    · obtain ⟨wo, rfl⟩ : ∃ wo : World, wo = wr := ⟨_, rfl⟩
      obtain rfl : k = cs.length := by omega
      obtain ⟨n, hn⟩ : ∃ n, cs.length = n := ⟨_, rfl⟩
      rw [hn] at h16 HO HV hlt hk ⊢
      have hol : ((Ls z 0 n).flatMap entCells).length = n * 20 := by rw [ents_len, Ls_length]
      have hoo := ents_one (Ls z 0 n)
      have HRDx := Lib.hid (HO.out.rd.alloc (Nat.le_refl _) (.cells #[] 33))
      have hcs := Lib.hid hrel
      clear hrel d0 HZ
      go_upto_region 15 with (at_builtin; refine Mem.wpList_app0 _ rfl (.tmp 60) (.tmp 61) _ rfl entries_elem (some ⟨wo.heap.size, 0, none⟩) rfl wo.heap.size A n c ((Ls z 0 n).flatMap entCells) rfl ?_ (Mem.Own.lit wo _ 20 #[] 0 rfl rfl (by simp [maxLen])) HRDx.out hol hoo (small_len h16).1 (small_len h16).2; intro B cB w3 hown hb hat; have HO3 := Lib.hid hown; have HB3 : Hid (Below wo.heap.size wo w3) := (Reg.below_new _ _).trans (hb.mono (by simp)); have HF3 : Hid (Mem.From wo.heap.size B) := hat.elim (fun h => by rw [h]; exact Mem.From.some_ (Nat.le_refl _)) (fun h => by rw [h]; exact Mem.From.some_ (by simp)); clear hown hb hat)
      have HL3 : Hid (EOwn w3 B cB (Ls z 0 n)) := by show Mem.Own _ _ _ _ _ _ _; rw [Ls_length]; exact HO3.out
      have HE3 : Hid (EOwn w3 A c (Ls z 0 n)) := HO.out.keeps (Mem.Keeps.of_below HB3.out) (fun _ _ h => h)
      have HV3 : Hid (VBx w3 gv (Vn z n)) := HV.out.below HB3.out HV.out.lt
      have HBw : Hid (Below w.heap.size w w3) := HB.out.trans (HB3.out.mono HB.out.size)
      have hbo : w.heap.size ≤ wo.heap.size := HB.out.size
      have hgo : gv < wo.heap.size := HV.out.lt
      have hszo : wo.heap.size ≤ w3.heap.size := HB3.out.size
      have HAo : Hid (∀ q, Mem.blk A = some q → q < wo.heap.size) := fun q h => HO.out.lt h
      clear HRDx HO HV HB HO3 HB3 hol hoo
      go_wp2
      go_loopw [11] (MixRel w3 B cB (Ls z 0 n) n) (fun t _ => n - (intOf t).toNat)
      case atStart => exact ⟨⟨0, Ls z 0 n, Nat.zero_le _, rfl, List.Perm.refl _, HL3, Mem.Keeps.refl _ _⟩⟩
      case round =>
        obtain ⟨k, l, hk2, rfl, hp, HOl, HKl⟩ := hrel.out
        have hll : l.length = n := by rw [hp.length_eq, Ls_length]
        have HPm := Lib.hid hp
        have HBr : Hid (Below w.heap.size w wr) := HBw.out.trans (HKl.out.below (fun q h => by have := HF3.out.blk q h; omega) HBw.out.size)
        clear hp hrel
        go_upto_region 16 with fail
        go_cut [72] (fun v wx => v = .bool (decide (k < n) && decide (k < ts.length)) ∧ wx = wr)
        case first =>
          by_cases h1 : k < n
          · have d1 : decide ((k : Int) < (n : Int)) = true := by simp; omega
            by_cases h2 : k < ts.length
            · have d2 : decide ((k : Int) < (ts.length : Int)) = true := by simp; omega
              go_wp2
              go_meet
              case rel => exact ⟨by simp [h1, h2], rfl⟩
            · have d2 : decide ((k : Int) < (ts.length : Int)) = false := by simp; omega
              go_wp2
              go_meet
              case rel => exact ⟨by simp [h1, h2], rfl⟩
          · have d1 : decide ((k : Int) < (n : Int)) = false := by simp; omega
            go_wp2
            go_meet
            case rel => exact ⟨by simp [h1], rfl⟩
        case rest =>
          obtain ⟨rfl, rfl⟩ := hcut
          by_cases h12 : k < n ∧ k < ts.length
          · have hbt : (decide (k < n) && decide (k < ts.length)) = true := by simp [h12.1, h12.2]
            rw [hbt]
            clear hbt
            obtain ⟨b1, o1, rfl, hbb, hcc⟩ := HR1.out.at (k := k) (by simpa using h12.2)
            have x0 := (HBr.out.cell (p := ⟨b1, o1 + k, none⟩) hbb).trans hcc
            rw [List.getElem_map] at x0
            obtain ⟨tk, htk⟩ : ∃ tk, ts[k]'h12.2 = tk := ⟨_, rfl⟩
            rw [htk] at x0
            obtain ⟨kk, hkn, hkk⟩ := swap_nums (n := n) (by omega) h16 tk
            have hz1 : ((n : Int) == 0) = false := by simp; omega
            have hz2 : decide ((n : Int) = 0) = false := by simp; omega
            have hz3 : ¬ (n : Int) = 0 := by omega
            clear hbb hcc htk
            go_upto_region 19 with fail
            clear hkk hz1 hz2 hz3 x0
            rename World => wq
            obtain ⟨b, o, ei, rfl, hbl, hei, hati⟩ := ent_elem HOl.out.rd (k := k) (by omega)
            obtain ⟨b2, o2, ek, hbo2, _, hek, hatk⟩ := ent_elem HOl.out.rd (k := kk) (by omega)
            cases hbo2
            have HATi := Lib.hid hati
            have HATk := Lib.hid hatk
            have HOn : Hid (Mem.Own wq 33 20 (some ⟨b, o, none⟩) n cB (l.flatMap entCells)) := by have h9 : Mem.Own _ _ _ _ _ _ _ := HOl.out; rw [hll] at h9; exact h9
            have hkn2 := h12.1
            have hls1 : k < l.length := by omega
            have hls2 : kk < (l.set k ek).length := by rw [List.length_set]; omega
            clear hati hatk
            refine Reg.wp_region_w (by kernel_rfl) 145 16 rfl rfl (by kernel_rfl) (13) (fun y => y = b) (15) (fun y => y = b) (13) (fun _ => False)
              (fun i v u => match i with
                | 0 => v = .slice (some ⟨b, o, none⟩) n cB
                | 1 => v = .int .i64 k
                | 2 => v = .slice (some ⟨b, o, none⟩) n cB
                | 3 => v = .int .i64 kk
                | 4 => v = .slice (some ⟨b, o, none⟩) n cB
                | 5 => v = .int .i64 kk
                | 6 => v = .pointer (some ⟨b, o + kk * 20, none⟩)
                | 7 => v = .agg (entCells ek).toArray
                | 8 => v = .slice (some ⟨b, o, none⟩) n cB
                | 9 => v = .int .i64 k
                | 10 => v = .pointer (some ⟨b, o + k * 20, none⟩)
                | 11 => v = .agg (entCells ei).toArray
                | 12 => v = .pointer (some ⟨b, o + k * 20, none⟩)
                | 13 => Mem.Own u 33 20 (some ⟨b, o, none⟩) n cB ((l.set k ek).flatMap entCells)
                | 14 => v = .pointer (some ⟨b, o + kk * 20, none⟩)
                | 15 => Mem.Own u 33 20 (some ⟨b, o, none⟩) n cB (((l.set k ek).set kk ei).flatMap entCells)
                | _ => True) ?_ ?_
            · refine Reg.Steps.cons ?_ (Reg.Steps.cons ?_ (Reg.Steps.cons ?_ (Reg.Steps.cons ?_ (Reg.Steps.cons ?_ (Reg.Steps.cons ?_ (Reg.Steps.cons ?_ (Reg.Steps.cons ?_ (Reg.Steps.cons ?_ (Reg.Steps.cons ?_ (Reg.Steps.cons ?_ (Reg.Steps.cons ?_ (Reg.Steps.cons ?_ (Reg.Steps.cons ?_ (Reg.Steps.cons ?_ (Reg.Steps.cons ?_ (Reg.Steps.nil _))))))))))))))))
              · intro val ac u hR hp ha K hK      -- 0: t88 := Op.move t10
                have e10 : (ac.tmps[10]?).getD undef = .slice (some ⟨b, o, none⟩) n cB := ha 10 (by decide)
                clear ha hp
                refine Reg.Op1.plain rfl ?_
                go_wp2
                exact ⟨rfl, hK _ _ rfl (Reg.Wr.same _)⟩
              · intro val ac u hR hp ha K hK      -- 1: t89 := Op.move t11
                have e11 : (ac.tmps[11]?).getD undef = .int .i64 k := ha 11 (by decide)
                clear ha hp
                refine Reg.Op1.plain rfl ?_
                go_wp2
                exact ⟨rfl, hK _ _ rfl (Reg.Wr.same _)⟩
              · intro val ac u hR hp ha K hK      -- 2: t90 := Op.move t10
                have e10 : (ac.tmps[10]?).getD undef = .slice (some ⟨b, o, none⟩) n cB := ha 10 (by decide)
                clear ha hp
                refine Reg.Op1.plain rfl ?_
                go_wp2
                exact ⟨rfl, hK _ _ rfl (Reg.Wr.same _)⟩
              · intro val ac u hR hp ha K hK      -- 3: t91 := Op.move t12
                have e12 : (ac.tmps[12]?).getD undef = .int .i64 kk := ha 12 (by decide)
                clear ha hp
                refine Reg.Op1.plain rfl ?_
                go_wp2
                exact ⟨rfl, hK _ _ rfl (Reg.Wr.same _)⟩
              · intro val ac u hR hp ha K hK      -- 4: t92 := Op.move t10
                have e10 : (ac.tmps[10]?).getD undef = .slice (some ⟨b, o, none⟩) n cB := ha 10 (by decide)
                clear ha hp
                refine Reg.Op1.plain rfl ?_
                go_wp2
                exact ⟨rfl, hK _ _ rfl (Reg.Wr.same _)⟩
              · intro val ac u hR hp ha K hK      -- 5: t93 := Op.move t12
                have e12 : (ac.tmps[12]?).getD undef = .int .i64 kk := ha 12 (by decide)
                clear ha hp
                refine Reg.Op1.plain rfl ?_
                go_wp2
                exact ⟨rfl, hK _ _ rfl (Reg.Wr.same _)⟩
              · intro val ac u hR hp ha K hK      -- 6: t94 := Op.indexAddr 24 t92 t93
                obtain ⟨w92, h92, r92⟩ := hp 4 (by decide)
                have e92 : (ac.tmps[92]?).getD undef = .slice (some ⟨b, o, none⟩) n cB := (ha 92 (by decide)).trans h92
                clear h92
                obtain ⟨w93, h93, r93⟩ := hp 5 (by decide)
                have e93 : (ac.tmps[93]?).getD undef = .int .i64 kk := (ha 93 (by decide)).trans h93
                clear h93
                clear ha hp
                refine Reg.Op1.plain rfl ?_
                go_wp2
                exact ⟨rfl, hK _ _ rfl (Reg.Wr.same _)⟩
              · intro val ac u hR hp ha K hK      -- 7: t95 := Op.load 33 t94
                obtain ⟨w94, h94, r94⟩ := hp 6 (by decide)
                have e94 : (ac.tmps[94]?).getD undef = .pointer (some ⟨b, o + kk * 20, none⟩) := (ha 94 (by decide)).trans h94
                clear h94
                clear ha hp
                refine Reg.Op1.plain rfl ?_
                have hq : Mem.Keeps (fun _ => False) wq u := (Mem.Keeps.refl (fun _ => False) wq).drew.trans (Reg.Wr.none hR (by decide +kernel) (by decide +kernel) (by decide +kernel)) (fun _ h _ => h)
                refine Mem.load_agg _ _ entry_agg b (o + kk * 20) (entCells ek) (Reg.eval_of e94) (entCells_length _) (fun q u' hu => (hq.cell (p := ⟨b, o + kk * 20 + q, none⟩) hbl id).trans (HATk.out.c q u' hu)) ?_
                exact ⟨rfl, hK _ _ rfl (Reg.Wr.same _)⟩
              · intro val ac u hR hp ha K hK      -- 8: t96 := Op.move t10
                have e10 : (ac.tmps[10]?).getD undef = .slice (some ⟨b, o, none⟩) n cB := ha 10 (by decide)
                clear ha hp
                refine Reg.Op1.plain rfl ?_
                go_wp2
                exact ⟨rfl, hK _ _ rfl (Reg.Wr.same _)⟩
              · intro val ac u hR hp ha K hK      -- 9: t97 := Op.move t11
                have e11 : (ac.tmps[11]?).getD undef = .int .i64 k := ha 11 (by decide)
                clear ha hp
                refine Reg.Op1.plain rfl ?_
                go_wp2
                exact ⟨rfl, hK _ _ rfl (Reg.Wr.same _)⟩
              · intro val ac u hR hp ha K hK      -- 10: t98 := Op.indexAddr 24 t96 t97
                obtain ⟨w96, h96, r96⟩ := hp 8 (by decide)
                have e96 : (ac.tmps[96]?).getD undef = .slice (some ⟨b, o, none⟩) n cB := (ha 96 (by decide)).trans h96
                clear h96
                obtain ⟨w97, h97, r97⟩ := hp 9 (by decide)
                have e97 : (ac.tmps[97]?).getD undef = .int .i64 k := (ha 97 (by decide)).trans h97
                clear h97
                clear ha hp
                refine Reg.Op1.plain rfl ?_
                go_wp2
                exact ⟨rfl, hK _ _ rfl (Reg.Wr.same _)⟩
              · intro val ac u hR hp ha K hK      -- 11: t99 := Op.load 33 t98
                obtain ⟨w98, h98, r98⟩ := hp 10 (by decide)
                have e98 : (ac.tmps[98]?).getD undef = .pointer (some ⟨b, o + k * 20, none⟩) := (ha 98 (by decide)).trans h98
                clear h98
                clear ha hp
                refine Reg.Op1.plain rfl ?_
                have hq : Mem.Keeps (fun _ => False) wq u := (Mem.Keeps.refl (fun _ => False) wq).drew.trans (Reg.Wr.none hR (by decide +kernel) (by decide +kernel) (by decide +kernel)) (fun _ h _ => h)
                refine Mem.load_agg _ _ entry_agg b (o + k * 20) (entCells ei) (Reg.eval_of e98) (entCells_length _) (fun q u' hu => (hq.cell (p := ⟨b, o + k * 20 + q, none⟩) hbl id).trans (HATi.out.c q u' hu)) ?_
                exact ⟨rfl, hK _ _ rfl (Reg.Wr.same _)⟩
              · intro val ac u hR hp ha K hK      -- 12: t100 := Op.indexAddr 24 t88 t89
                obtain ⟨w88, h88, r88⟩ := hp 0 (by decide)
                have e88 : (ac.tmps[88]?).getD undef = .slice (some ⟨b, o, none⟩) n cB := (ha 88 (by decide)).trans h88
                clear h88
                obtain ⟨w89, h89, r89⟩ := hp 1 (by decide)
                have e89 : (ac.tmps[89]?).getD undef = .int .i64 k := (ha 89 (by decide)).trans h89
                clear h89
                clear ha hp
                refine Reg.Op1.plain rfl ?_
                go_wp2
                exact ⟨rfl, hK _ _ rfl (Reg.Wr.same _)⟩
              · intro val ac u hR hp ha K hK      -- 13: Op.store 33 t100 t95
                obtain ⟨w100, h100, r100⟩ := hp 12 (by decide)
                have e100 : (ac.tmps[100]?).getD undef = .pointer (some ⟨b, o + k * 20, none⟩) := (ha 100 (by decide)).trans h100
                clear h100
                obtain ⟨w95, h95, r95⟩ := hp 7 (by decide)
                have e95 : (ac.tmps[95]?).getD undef = .agg (entCells ek).toArray := (ha 95 (by decide)).trans h95
                clear h95
                clear ha hp
                refine Reg.Op1.plain rfl ?_
                have hq : Mem.Keeps (fun _ => False) wq u := (Mem.Keeps.refl (fun _ => False) wq).drew.trans (Reg.Wr.none hR (by decide +kernel) (by decide +kernel) (by decide +kernel)) (fun _ h _ => h)
                refine Mem.store_elem _ 20 entry_agg _ n cB b o k _ (entCells ek) (Reg.eval_of e100) (Reg.eval_of e95) (HOn.out.keeps hq (fun _ _ h => h)) (entCells_length _) hkn2 (ent_one _) ?_
                intro w' hb hk hs'
                rw [flat_set l k hls1] at hb
                exact ⟨rfl, hK undef _ hb (Reg.Wr.does1 hk)⟩
              · intro val ac u hR hp ha K hK      -- 14: t101 := Op.indexAddr 24 t90 t91
                obtain ⟨w90, h90, r90⟩ := hp 2 (by decide)
                have e90 : (ac.tmps[90]?).getD undef = .slice (some ⟨b, o, none⟩) n cB := (ha 90 (by decide)).trans h90
                clear h90
                obtain ⟨w91, h91, r91⟩ := hp 3 (by decide)
                have e91 : (ac.tmps[91]?).getD undef = .int .i64 kk := (ha 91 (by decide)).trans h91
                clear h91
                clear ha hp
                refine Reg.Op1.plain rfl ?_
                go_wp2
                exact ⟨rfl, hK _ _ rfl (Reg.Wr.same _)⟩
              · intro val ac u hR hp ha K hK      -- 15: Op.store 33 t101 t99
                obtain ⟨w101, h101, r101⟩ := hp 14 (by decide)
                have e101 : (ac.tmps[101]?).getD undef = .pointer (some ⟨b, o + kk * 20, none⟩) := (ha 101 (by decide)).trans h101
                clear h101
                obtain ⟨w99, h99, r99⟩ := hp 11 (by decide)
                have e99 : (ac.tmps[99]?).getD undef = .agg (entCells ei).toArray := (ha 99 (by decide)).trans h99
                clear h99
                obtain ⟨w_13, h_13, r_13⟩ := hp 13 (by decide)
                clear ha hp
                refine Reg.Op1.plain rfl ?_
                refine Mem.store_elem _ 20 entry_agg _ n cB b o kk _ (entCells ei) (Reg.eval_of e101) (Reg.eval_of e99) (h_13.keeps (Reg.Wr.none r_13 (by decide +kernel) (by decide +kernel) (by decide +kernel)) (fun _ _ h => h)) (entCells_length _) hkn (ent_one _) ?_
                intro w' hb hk hs'
                rw [flat_set (l.set k ek) kk hls2] at hb
                exact ⟨rfl, hK undef _ hb (Reg.Wr.does2 hk)⟩
            · intro val u hR H
              obtain ⟨wA, hA, rA⟩ := H 15 (by decide)
              have HOu : Hid (EOwn u (some ⟨b, o, none⟩) cB ((l.set k ek).set kk ei)) := by
                have h9 := (show Mem.Own wA _ _ _ _ _ _ from hA).keeps (Reg.Wr.none rA (by decide +kernel) (by decide +kernel) (by decide +kernel)) (fun _ _ h => h)
                show Mem.Own _ _ _ _ _ _ _
                rw [List.length_set, List.length_set, hll]
                exact h9
              have hq : Mem.Keeps (fun y => y = b ∨ y = b ∨ False) wq u := (Mem.Keeps.refl (fun y => y = b ∨ y = b ∨ False) wq).drew.trans (Reg.Wr.all hR) (fun _ h _ => h)
              have HKu : Hid (Mem.Keeps (fun q => Mem.blk (some (⟨b, o, none⟩ : Addr)) = some q) w3 u) := HKl.out.trans (hq.mono (fun y h _ => by rcases h with h | h | h; (subst h; rfl); (subst h; rfl); exact h.elim)) (fun _ h _ => h)
              have HPu := Lib.hid ((swap_perm l hei hek).trans HPm.out)
              clear h12
              simp only [List.map_cons, List.map_nil, Reg.lay, Act.put, List.setIfInBounds_toArray, List.set_cons_succ, List.set_cons_zero, Nat.reduceAdd]
              clear hR H hq hA rA hei hek hls1 hls2 hll hkn HATi HATk HOn hbl
              go_wp2
              go_roundw
              case rel => exact ⟨⟨k + 1, (l.set k ek).set kk ei, hkn2, rfl, HPu.out, HOu, HKu⟩⟩
              case measure => exact meas hkn2
          · have hbt : (decide (k < n) && decide (k < ts.length)) = false := by
              rw [Bool.eq_false_iff]; intro h; simp at h; exact h12 h
            rw [hbt]
            rename World => wq
            have HPA := Lib.hid (put_all z h16 HPm.out)
            have hgB : Hid (∀ q, Mem.blk B = some q → q < wq.heap.size ∧ wo.heap.size ≤ q) := fun q h => ⟨HOl.out.lt h, HF3.out.blk q h⟩
            have hoq : wo.heap.size ≤ wq.heap.size := Nat.le_trans (Mem.Keeps.size (Mem.Keeps.refl (fun _ => False) wo)) (Nat.le_trans hszo HKl.out.size)
            have HEq : Hid (EOwn wq A c (Ls z 0 n)) := HE3.out.keeps HKl.out (fun q h1 h2 => by have := HAo.out q h1; have := HF3.out.blk q h2; omega)
            have HVq : Hid (VBx wq gv (Vn z n)) := HV3.out.keeps HKl.out (fun h2 => by have := HF3.out.blk _ h2; omega)
            clear hbt h12 HE3 HV3 HKl HL3 HBw hcs
            have hn1 := HPA.out
            have hp1 : (putL 0 [] l).1 = l := by rw [hn1]
            have hp2 : (putL 0 [] l).2 = n := by rw [hn1]
            have HP1 := Lib.hid hp1
            have HP2 := Lib.hid hp2
            clear hn1 hp1 hp2
            go_upto_region 21 with (go_at_call 9; refine (holdNew_any 0 wq).mono ?_; rintro x w4 ⟨rfl, hA4, hb4⟩; have HA4 := Lib.hid hA4; have HB4 := Lib.hid hb4; clear hA4 hb4)
            have HN4 : Hid (EOwn w4 B cB l) := HOl.out.keeps (Mem.Keeps.of_below HB4.out) (fun _ _ h => h)
            have hput := put_any 0 wq.heap.size none 0 [] B cB l w4 HA4.out HN4.out (fun q hq h => by rcases h with h | h; (have := (hgB.out q hq).1; omega); cases h)
            rw [hll] at hput
            have HPut := Lib.hid hput
            have dnn : ((n : Int) != (n : Int)) = false := by simp
            clear hput
            go_upto_region 23 with (go_at_call 10; refine HPut.out.mono ?_; rintro x w5 ⟨A5, c5, rfl, hA5, hk5, hq5⟩; rw [HP1.out] at hA5; rw [HP2.out]; have HA5 := Lib.hid hA5; have HK5 := Lib.hid hk5; have HQ5 := Lib.hid hq5; clear hA5 hk5 hq5)
            have HK45 : Hid (Mem.Keeps (fun k => k = wq.heap.size) wq w5) := by
              have h1 : Mem.Keeps (fun k => k = wq.heap.size) wq w4 := (Mem.Keeps.of_below HB4.out).mono (fun _ h _ => h.elim)
              exact h1.trans HK5.out (fun k h _ => by rcases h with h | h; exact h; cases h)
            have HS5 : Hid (∀ k, HB wq.heap.size A5 k → wq.heap.size ≤ k) := fun k h => by
              rcases h with h | h
              · omega
              · rcases HQ5.out k h with h9 | h9
                · cases h9
                · have := HB4.out.size; omega
            have hg5 : wq.heap.size < w5.heap.size := by have := HK5.out.size; have := HA4.out.B.lt; omega
            have hwq : w.heap.size ≤ wq.heap.size := HBr.out.size
            have HQq : Hid (wo.heap.size ≤ wq.heap.size) := hoq
            obtain ⟨gh, hgh⟩ : ∃ gh, wq.heap.size = gh := ⟨_, rfl⟩
            rw [hgh] at HA5 HK45 HS5 hg5 hwq HQq ⊢
            have hogh : wo.heap.size ≤ gh := HQq.out
            clear hgh hoq HQq
            have hov0 := vc_one vc0
            clear HA4 HN4 HPut HQ5 HB4 HK5
            go_upto_region 24 with ((with_reducible refine Mem.store_agg _ _ vec_agg (w5.heap.size) (vcCells vc0) (vcCells vc0) ?hxza ?hyza ?hbza (vcCells_length _) hov0 ?_); ((case hxza => exact rfl); (case hyza => exact rfl); (case hbza => exact Mem.Bx.new w5 _ (vcCells vc0).toArray rfl rfl); intro w6 hbq hkq hsq; have Hb6 := Lib.hid hbq; have Hk6 := Lib.hid hkq; clear hbq hkq hsq))
            have HK56 : Hid (Below w5.heap.size w5 w6) := (Hk6.out.newBox rfl).belowAll
            have HH6 := Lib.hid (HA5.out.below HK56.out)
            have HE6 : Hid (EOwn w6 A c (Ls z 0 n)) := (HEq.out.keeps HK45.out (fun q h1 h2 => by have := HAo.out q h1; omega)).keeps (Mem.Keeps.of_below HK56.out) (fun _ _ h => h)
            have hV5 : VBx w5 gv (Vn z n) := HVq.out.keeps HK45.out (fun h2 => by omega)
            have HV6 : Hid (VBx w6 gv (Vn z n)) := hV5.below HK56.out hV5.lt
            have hBq5 : Below w.heap.size w w5 := HBr.out.trans (HK45.out.below (fun k h => by omega) HBr.out.size)
            have HB6 : Hid (Below w.heap.size w w6) := hBq5.trans (HK56.out.mono hBq5.size)
            obtain ⟨g4, hg4⟩ : ∃ g4, w5.heap.size = g4 := ⟨_, rfl⟩
            have hAg0 : ∀ k, HB gh A5 k → k < w5.heap.size := HA5.out.lt
            rw [hg4] at Hb6 hg5 hAg0 ⊢
            have HAg : Hid (∀ k, HB gh A5 k → k ≠ g4) := fun k h => by have := hAg0 k h; omega
            clear HA5 HK45 HK56 hV5 hBq5 HEq HVq hov0 hg4 HOl hgB HP1 HP2 HBr Hk6 hszo HF3 HPA dnn hAg0
            go_wp2
            go_loopw [15] (OutRel w6 gh g4 A5 c5 z n) (fun t _ => n - (intOf t).toNat)
            case atStart => exact ⟨⟨0, l, Nat.zero_le _, rfl, HPm.out, HH6, Hb6, Mem.Keeps.refl _ _⟩⟩
            case round =>
              obtain ⟨ix, hs, hi, rfl, hp, HH, HVi, HKi⟩ := hrel.out
              have HEr : Hid (EOwn wr A c (Ls z 0 n)) := HE6.out.keeps HKi.out (fun q h1 h2 => by have := HAo.out q h1; rcases h2 with h2 | h2; (have := HS5.out q h2; omega); omega)
              have HVr : Hid (VBx wr gv (Vn z n)) := HV6.out.keeps HKi.out (fun h2 => by rcases h2 with h2 | h2; (have := HS5.out _ h2; omega); omega)
              have HB9 : Hid (Below w.heap.size w wr) := HB6.out.trans (HKi.out.below (fun q h2 => by rcases h2 with h2 | h2; (have := HS5.out _ h2; omega); omega) HB6.out.size)
              clear hrel
              by_cases hlt3 : ix < n
              · have hi16 : ix < 16 := Nat.lt_of_lt_of_le hlt3 h16
                obtain ⟨m, hm⟩ : ∃ m, n - ix = m + 1 := ⟨n - ix - 1, by omega⟩
                rw [hm] at hp
                have hm2 : n - (ix + 1) = m := by omega
                obtain ⟨f1, f2⟩ := next_all z hi16 hp
                have hsl : hs.length ≤ 300 := by rw [hp.length_eq, Ls_length]; omega
                have hsr : ∀ e ∈ hs, rightE e = true := fun e he => by
                  obtain ⟨q, h1, h2, rfl⟩ := Ls_mem (hp.mem_iff.1 he)
                  exact En_right z (by omega)
                obtain ⟨b, o, e, rfl, hbl, he, hat⟩ := ent_elem HEr.out.rd (k := ix) (by rw [Ls_length]; exact hlt3)
                rw [Ls_at z 0 n ix hlt3, Nat.zero_add] at he
                have hee : En z ix = e := Option.some.inj he
                have HVn : Hid (Vn z (ix + 1) = withL (Vn z ix) [⟨e.dc, e.rng, e.seq⟩]) := by show withL (Vn z ix) [dotI (dc3 (z ix)) (Vn z ix)] = _; rw [← hee]; rfl
                obtain ⟨vi, hvi⟩ : ∃ vi, Vn z ix = vi := ⟨_, rfl⟩
                rw [hvi] at HVi HVn f1 f2
                rw [hee] at f1
                have HX1 := Lib.hid (next_any vi 0 gh A5 c5 hs wr HH.out hsl hsr)
                have HF1 := Lib.hid f1
                have HF2 := Lib.hid f2
                have HAT := Lib.hid hat
                have ho1 := ent_one e
                clear hat he hee hsr hp f1 f2 hvi
                go_upto_region 28 with (first | ((with_reducible refine Mem.load_agg _ _ vec_agg (g4) 0 (vcCells vi) ?hxzb (vcCells_length _) (fun j u hu => by rw [Nat.zero_add]; exact HVi.out.cell hu) ?_); (case hxzb => exact rfl)) | (go_at_call 11; refine HX1.out.mono ?_; rintro x9 w25 ⟨rfl, hA25, hk25⟩; rw [HF1.out]; have HA25 := Lib.hid hA25; have HK25 := Lib.hid hk25; clear hA25 hk25) | ((with_reducible refine Mem.store_agg _ _ entry_agg (w25.heap.size) (entCells ent0) (entCells e) ?hxzc ?hyzc ?hbzc (entCells_length _) ho1 ?_); ((case hxzc => exact rfl); (case hyzc => exact rfl); (case hbzc => exact Mem.Bx.new w25 _ (entCells ent0).toArray rfl rfl); intro w26 hbq hkq hsq; have Hb26 := Lib.hid hbq; have Hk26 := Lib.hid hkq; clear hbq hkq hsq)))
                have HK26 : Hid (Below w25.heap.size w25 w26) := (Hk26.out.newBox rfl).belowAll
                have HH26 := Lib.hid (HA25.out.below HK26.out)
                have hV25 : VBx w25 g4 vi := HVi.out.keeps HK25.out (fun h => HAg.out _ h rfl)
                have HV26 : Hid (VBx w26 g4 vi) := hV25.below HK26.out hV25.lt
                have HK9 : Hid (Mem.Keeps (fun k => HB gh A5 k ∨ k = g4) w6 w26) := (HKi.out.trans HK25.out (fun k h _ => .inl h)).trans (Mem.Keeps.of_below HK26.out) (fun k h _ => h.elim)
                have HAT9 : Hid (EntAt w26 b (o + ix * 20) e) := by
                  have hgb : ¬ HB gh (A5) b := fun h => by have := HS5.out b h; have := HAo.out b rfl; omega
                  have h1 : EntAt w25 b (o + ix * 20) e := ⟨fun j u hu => (HK25.out.cell (p := ⟨b, o + ix * 20 + j, none⟩) hbl hgb).trans (HAT.out.c j u hu)⟩
                  exact h1.below HK26.out (Nat.lt_of_lt_of_le hbl HK25.out.size)
                have hbl9 : b < w26.heap.size := Nat.lt_of_lt_of_le (Nat.lt_of_lt_of_le hbl HK25.out.size) HK26.out.size
                obtain ⟨ge, hge⟩ : ∃ ge, w25.heap.size = ge := ⟨_, rfl⟩
                rw [hge] at Hb26 ⊢
                have e1 : ∀ W, (binOp .neq 33 (.agg (entCells e).toArray) (.agg (entCells e).toArray)).run Try.prog W = .ok (.bool false) W := fun W => by rw [neq_ent, eqEnt_iff.2 rfl]; rfl
                have E1 := Lib.hid e1
                clear e1 hV25 HAT HX1 HA25 HK25 HK26 Hk26 hge ho1 HF1 HH HVi HKi HEr HVr HB9 hbl hsl
                rename World => wx
                refine Reg.wp_region_rel (by kernel_rfl) 145 10 rfl rfl (by kernel_rfl) (Reg.Adds) (Reg.Adds.refl) (Reg.Adds.trans)
                  (fun i v u => match i with
                    | 0 => v = .bool true
                    | 1 => v = .bool false
                    | 2 => v = .bool false
                    | 3 => v = .agg (entCells e).toArray
                    | 4 => v = .slice (some ⟨b, o, none⟩) n c
                    | 5 => v = .int .i64 ix
                    | 6 => v = .pointer (some ⟨b, o + ix * 20, none⟩)
                    | 7 => v = .agg (entCells e).toArray
                    | 8 => v = .bool false
                    | 9 => v = .bool false
                    | _ => True) ?_ ?_
                · refine Reg.Steps.cons ?_ (Reg.Steps.cons ?_ (Reg.Steps.cons ?_ (Reg.Steps.cons ?_ (Reg.Steps.cons ?_ (Reg.Steps.cons ?_ (Reg.Steps.cons ?_ (Reg.Steps.cons ?_ (Reg.Steps.cons ?_ (Reg.Steps.cons ?_ (Reg.Steps.nil _))))))))))
                  · intro val ac u hR hp ha K hK      -- 0: t122 := Op.move t17
                    have e17 : (ac.tmps[17]?).getD undef = .bool true := ha 17 (by decide)
                    clear ha hp
                    refine Reg.Op1.plain rfl ?_
                    go_wp2
                    exact ⟨rfl, hK _ _ rfl (fun j k _ _ => Reg.Adds.refl _ _ _)⟩
                  · intro val ac u hR hp ha K hK      -- 1: t123 := Op.unOp UnOp.not 4 t122
                    obtain ⟨w122, h122, r122⟩ := hp 0 (by decide)
                    have e122 : (ac.tmps[122]?).getD undef = .bool true := (ha 122 (by decide)).trans h122
                    clear h122
                    clear ha hp
                    refine Reg.Op1.plain rfl ?_
                    go_wp2
                    exact ⟨rfl, hK _ _ rfl (fun j k _ _ => Reg.Adds.refl _ _ _)⟩
                  · intro val ac u hR hp ha K hK      -- 2: t124 := Op.move t123
                    obtain ⟨w123, h123, r123⟩ := hp 1 (by decide)
                    have e123 : (ac.tmps[123]?).getD undef = .bool false := (ha 123 (by decide)).trans h123
                    clear h123
                    clear ha hp
                    refine Reg.Op1.plain rfl ?_
                    go_wp2
                    exact ⟨rfl, hK _ _ rfl (fun j k _ _ => Reg.Adds.refl _ _ _)⟩
                  · intro val ac u hR hp ha K hK      -- 3: t125 := Op.load 33 t16
                    have e16 : (ac.tmps[16]?).getD undef = .pointer (some ⟨ge, 0, none⟩) := ha 16 (by decide)
                    obtain ⟨w124, h124, r124⟩ := hp 2 (by decide)
                    have e124 : (ac.tmps[124]?).getD undef = .bool false := (ha 124 (by decide)).trans h124
                    clear h124
                    clear ha hp
                    refine Reg.Op1.guarded rfl rfl e124 (fun _ => Reg.Op1.plain rfl ?_) (fun h => absurd rfl h)
                    have hEu : EBx u ge e := Mem.Bx.below (w := wx.drew) Hb26.out hR Hb26.out.lt
                    refine Mem.load_aggG _ _ entry_agg ge 0 (entCells e) (by simp [Region.wanted]) (Reg.eval_of e16) (entCells_length _) (fun j u' hu => by rw [Nat.zero_add]; exact hEu.cell hu) ?_
                    exact ⟨rfl, hK _ _ rfl (fun j k _ _ => Reg.Adds.refl _ _ _)⟩
                  · intro val ac u hR hp ha K hK      -- 4: t126 := Op.move t5
                    have e5 : (ac.tmps[5]?).getD undef = .slice (some ⟨b, o, none⟩) n c := ha 5 (by decide)
                    obtain ⟨w124, h124, r124⟩ := hp 2 (by decide)
                    have e124 : (ac.tmps[124]?).getD undef = .bool false := (ha 124 (by decide)).trans h124
                    clear h124
                    clear ha hp
                    refine Reg.Op1.guarded rfl rfl e124 (fun _ => Reg.Op1.plain rfl ?_) (fun h => absurd rfl h)
                    go_wp2
                    exact ⟨rfl, hK _ _ rfl (fun j k _ _ => Reg.Adds.refl _ _ _)⟩
                  · intro val ac u hR hp ha K hK      -- 5: t127 := Op.move t15
                    have e15 : (ac.tmps[15]?).getD undef = .int .i64 ix := ha 15 (by decide)
                    obtain ⟨w124, h124, r124⟩ := hp 2 (by decide)
                    have e124 : (ac.tmps[124]?).getD undef = .bool false := (ha 124 (by decide)).trans h124
                    clear h124
                    clear ha hp
                    refine Reg.Op1.guarded rfl rfl e124 (fun _ => Reg.Op1.plain rfl ?_) (fun h => absurd rfl h)
                    go_wp2
                    exact ⟨rfl, hK _ _ rfl (fun j k _ _ => Reg.Adds.refl _ _ _)⟩
                  · intro val ac u hR hp ha K hK      -- 6: t128 := Op.indexAddr 24 t126 t127
                    obtain ⟨w126, h126, r126⟩ := hp 4 (by decide)
                    have e126 : (ac.tmps[126]?).getD undef = .slice (some ⟨b, o, none⟩) n c := (ha 126 (by decide)).trans h126
                    clear h126
                    obtain ⟨w127, h127, r127⟩ := hp 5 (by decide)
                    have e127 : (ac.tmps[127]?).getD undef = .int .i64 ix := (ha 127 (by decide)).trans h127
                    clear h127
                    obtain ⟨w124, h124, r124⟩ := hp 2 (by decide)
                    have e124 : (ac.tmps[124]?).getD undef = .bool false := (ha 124 (by decide)).trans h124
                    clear h124
                    clear ha hp
                    refine Reg.Op1.guarded rfl rfl e124 (fun _ => Reg.Op1.plain rfl ?_) (fun h => absurd rfl h)
                    go_wp2
                    exact ⟨rfl, hK _ _ rfl (fun j k _ _ => Reg.Adds.refl _ _ _)⟩
                  · intro val ac u hR hp ha K hK      -- 7: t129 := Op.load 33 t128
                    obtain ⟨w128, h128, r128⟩ := hp 6 (by decide)
                    have e128 : (ac.tmps[128]?).getD undef = .pointer (some ⟨b, o + ix * 20, none⟩) := (ha 128 (by decide)).trans h128
                    clear h128
                    obtain ⟨w124, h124, r124⟩ := hp 2 (by decide)
                    have e124 : (ac.tmps[124]?).getD undef = .bool false := (ha 124 (by decide)).trans h124
                    clear h124
                    clear ha hp
                    refine Reg.Op1.guarded rfl rfl e124 (fun _ => Reg.Op1.plain rfl ?_) (fun h => absurd rfl h)
                    refine Mem.load_aggG _ _ entry_agg b (o + ix * 20) (entCells e) (by simp [Region.wanted]) (Reg.eval_of e128) (entCells_length _) (fun q u' hu => (hR.cell (p := ⟨b, o + ix * 20 + q, none⟩) hbl9).trans (HAT9.out.c q u' hu)) ?_
                    exact ⟨rfl, hK _ _ rfl (fun j k _ _ => Reg.Adds.refl _ _ _)⟩
                  · intro val ac u hR hp ha K hK      -- 8: t130 := Op.binOp BinOp.neq 33 t125 t129 33
                    obtain ⟨w125, h125, r125⟩ := hp 3 (by decide)
                    have e125 : (ac.tmps[125]?).getD undef = .agg (entCells e).toArray := (ha 125 (by decide)).trans h125
                    clear h125
                    obtain ⟨w129, h129, r129⟩ := hp 7 (by decide)
                    have e129 : (ac.tmps[129]?).getD undef = .agg (entCells e).toArray := (ha 129 (by decide)).trans h129
                    clear h129
                    obtain ⟨w124, h124, r124⟩ := hp 2 (by decide)
                    have e124 : (ac.tmps[124]?).getD undef = .bool false := (ha 124 (by decide)).trans h124
                    clear h124
                    clear ha hp
                    refine Reg.Op1.guarded rfl rfl e124 (fun _ => Reg.Op1.plain rfl ?_) (fun h => absurd rfl h)
                    have e1 := E1.out
                    go_wp2
                    exact ⟨rfl, hK _ _ rfl (fun j k _ _ => Reg.Adds.refl _ _ _)⟩
                  · intro val ac u hR hp ha K hK      -- 9: t131 := Op.pick t124 (const (Value.bool true)) t130
                    obtain ⟨w124, h124, r124⟩ := hp 2 (by decide)
                    have e124 : (ac.tmps[124]?).getD undef = .bool false := (ha 124 (by decide)).trans h124
                    clear h124
                    obtain ⟨w130, h130, r130⟩ := hp 8 (by decide)
                    have e130 : (ac.tmps[130]?).getD undef = .bool false := (ha 130 (by decide)).trans h130
                    clear h130
                    clear ha hp
                    refine Reg.Op1.plain rfl ?_
                    go_wp2
                    exact ⟨rfl, hK _ _ rfl (fun j k _ _ => Reg.Adds.refl _ _ _)⟩
                · intro val u hR H
                  obtain ⟨_, hv, _⟩ := H 9 (by decide)
                  have hv : val 9 = .bool false := hv
                  have HKu : Hid (Below wx.heap.size wx u) := (Below.refl _ wx).drew.trans hR
                  have HHu := Lib.hid (HH26.out.below HKu.out)
                  have HVu : Hid (VBx u g4 vi) := HV26.out.below HKu.out HV26.out.lt
                  have HEu : Hid (EBx u ge e) := Mem.Bx.below Hb26.out HKu.out Hb26.out.lt
                  have HK28 : Hid (Mem.Keeps (fun k => HB gh A5 k ∨ k = g4) w6 u) := HK9.out.trans (Mem.Keeps.of_below HKu.out) (fun k h _ => h.elim)
                  simp only [List.map_cons, List.map_nil, Reg.lay, Act.put, List.setIfInBounds_toArray, List.set_cons_succ, List.set_cons_zero, Nat.reduceAdd, hv]
                  clear hR H hv HKu HK9 HV26 HH26 Hb26 HAT9 E1 hbl9
                  obtain ⟨w28, hw28⟩ : ∃ w28, w28 = u := ⟨_, rfl⟩
                  subst hw28
                  have hrd : Mem.Rd (w28.alloc (.cells (dtCells ⟨e.dc, e.rng, e.seq⟩).toArray 29)) (w28.alloc (.cells (dtCells ⟨e.dc, e.rng, e.seq⟩).toArray 29)).heap.size (some ⟨w28.heap.size, 0, none⟩) ([(⟨e.dc, e.rng, e.seq⟩ : Dt)].flatMap dtCells) := by
                    have h9 := Mem.Rd.alloc_new w28 (dtCells ⟨e.dc, e.rng, e.seq⟩).toArray 29 (0, 0) rfl
                    simpa using h9
                  have HRD := Lib.hid hrd
                  obtain ⟨vn, hvn⟩ : ∃ vn, withL vi [⟨e.dc, e.rng, e.seq⟩] = vn := ⟨_, rfl⟩
                  rw [hvn] at HVn
                  have HVV := Lib.hid hvn
                  have hov := vc_one vn
                  clear hrd hvn
                  go_wp2_with (first | ((with_reducible refine Mem.load_agg _ _ vec_agg (g4) 0 (vcCells vi) ?hxzd (vcCells_length _) (fun j u hu => by rw [Nat.zero_add]; exact HVu.out.cell hu) ?_); (case hxzd => exact rfl)) | ((with_reducible refine Mem.load_agg _ _ dot_agg (ge) 0 (dtCells ⟨e.dc, e.rng, e.seq⟩) ?hxzx (dtCells_length _) (HEu.out.part 0 rfl) ?_); (case hxzx => exact rfl)) | ((with_reducible refine Mem.build1_agg _ _ 3 _ Try.underlying58 dot_zero (by decide) (by decide) (dtCells ⟨e.dc, e.rng, e.seq⟩) ?hrb (dtCells_length _) ?_); (case hrb => exact rfl)) | (go_at_call 8; refine (with_any vi (some ⟨w28.heap.size, 0, none⟩) 1 [⟨e.dc, e.rng, e.seq⟩] _ _ HRD.out (Nat.le_refl _) (by simp [maxLen])).mono ?_; rintro x9 w29 ⟨rfl, hb29⟩; rw [HVV.out]; have HK29 : Hid (Below w28.heap.size w28 w29) := (Reg.below_new _ _).trans (hb29.mono (by simp)); clear hb29) | ((with_reducible refine Mem.store_agg _ _ vec_agg (g4) (vcCells vi) (vcCells vn) ?hxzf ?hyzf ?hbzf (vcCells_length _) hov ?_); ((case hxzf => exact rfl); (case hyzf => exact rfl); (case hbzf => exact HVu.out.below HK29.out HVu.out.lt); intro w30 hbq hkq hsq; have Hb30 := Lib.hid hbq; have Hk30 := Lib.hid hkq; clear hbq hkq hsq)))
                  have hH29 := HHu.out.below HK29.out
                  have HH30 : Hid (HAt 61 w30 gh A5 c5 0 (nextL vi hs)) := hH29.keeps Hk30.out (fun k h1 h2 => HAg.out k h1 h2)
                  have HV30 : Hid (VBx w30 g4 (Vn z (ix + 1))) := by show VBx _ _ _; rw [HVn.out]; exact Hb30.out
                  have HK30 : Hid (Mem.Keeps (fun k => HB gh A5 k ∨ k = g4) w6 w30) := (HK28.out.trans (Mem.Keeps.of_below HK29.out) (fun k h _ => h.elim)).trans Hk30.out (fun k h _ => .inr h)
                  have HP30 : Hid ((nextL vi hs).Perm (Ls z (ix + 1) (n - (ix + 1)))) := by show List.Perm _ _; rw [hm2]; exact HF2.out
                  go_roundw
                  case rel => exact ⟨⟨ix + 1, nextL vi hs, hlt3, rfl, HP30.out, HH30, HV30, HK30⟩⟩
                  case measure => exact meas hlt3
              · obtain rfl : ix = n := by omega
                have hs0 : hs = [] := by
                  have h1 := hp.length_eq
                  rw [Ls_length, Nat.sub_self] at h1
                  exact List.length_eq_zero_iff.1 h1
                subst hs0
                have HL := Lib.hid (holdLen_any HH.out)
                have e1 : ∀ W, (binOp .eql 27 (.agg (vcCells (Vn z ix)).toArray) (.agg (vcCells (Vn z ix)).toArray)).run Try.prog W = .ok (.bool true) W := fun W => by rw [eql_vec, eqVc_iff.2 rfl]
                clear hp hn hlt hlt3 hk
                go_wp2_with (first | ((with_reducible refine Mem.load_aggG _ _ vec_agg (g4) 0 (vcCells (Vn z ix)) ?hwzg ?hxzg (vcCells_length _) (fun j u hu => by rw [Nat.zero_add]; exact HVi.out.cell hu) ?_); ((case hwzg => rfl); (case hxzg => exact rfl))) | ((with_reducible refine Mem.load_aggG _ _ vec_agg (gv) 0 (vcCells (Vn z ix)) ?hwzh ?hxzh (vcCells_length _) (fun j u hu => by rw [Nat.zero_add]; exact HVr.out.cell hu) ?_); ((case hwzh => rfl); (case hxzh => exact rfl))) | (go_at_call 12; refine HL.out.mono ?_; rintro x9 w33 ⟨rfl, rfl⟩))
                go_ret
                exact ⟨rfl, HB9.out⟩
set_option maxRecDepth 20000 in
theorem opened {H : Type} (enc : TypeId × Value → H) (W : World) (base : Nat) (v0 v1 : Value) {d0 d1 : DataW H} {p0 p1 : List MemPlace}
    (o0 : Value.okWide Try.prog W .any base 22 v0) (o1 : Value.okWide Try.prog W .any base 22 v1)
    (k0 : DataW.Trod enc Try.prog W 0 (fun _ => true) true 22 v0 d0 p0) (k1 : DataW.Trod enc Try.prog W 0 (fun _ => true) true 22 v1 d1 p1) :
    Calls Try.prog 3 #[v0, v1] W fun e w' => e = .returned (.bool true) ∧ Below W.heap.size W w' := by
  obtain ⟨A0, c0, cs, rfl, h1, h2, h3⟩ := open_intsR o0 k0
  obtain ⟨A1, c1, ts, rfl, h4, h5, h6⟩ := open_intsR o1 k1
  unfold maxLen at h2 h5
  exact walk A0 A1 c0 c1 cs ts W h3 h6 (by omega) (by omega)
end holdAllOpen
end Go.Proofs.Ytgdcfdjfoeoknaa
