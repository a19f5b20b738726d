/- The walks of the document's Out: member, addr, vec, config, entry, message. PRINTED by wip/mkout.py. Cells of the right kinds, short texts. -/
import Derived.Test.YtkfgedgjpgehoaaOut1
import Derived.Test.YtkfgedgjpgehoaaWire22
namespace Go.Proofs.Ytkfgedgjpgehoaa
open Go.ChangeShapes Go.WideShapes Go.ChangeAt Go.RowKit
set_option linter.unusedVariables false
set_option linter.unusedSimpArgs false
namespace Cells
theorem Ok.take : ∀ {ks : List Kd} {xs : List Value} (n : Nat), Ok ks xs → Ok (ks.take n) (xs.take n)
  | _, _, 0, _ => trivial
  | [], [], n + 1, _ => trivial
  | k :: ks, x :: xs, n + 1, h => ⟨h.1, Ok.take n h.2⟩
theorem Ok.drop : ∀ {ks : List Kd} {xs : List Value} (n : Nat), Ok ks xs → Ok (ks.drop n) (xs.drop n)
  | _, _, 0, h => h
  | [], [], n + 1, _ => trivial
  | k :: ks, x :: xs, n + 1, h => Ok.drop n h.2
theorem Ok.part {ks : List Kd} {xs : List Value} (h : Ok ks xs) (off n : Nat) : Ok ((ks.drop off).take n) ((xs.drop off).take n) := (h.drop off).take n
end Cells
namespace Wi
theorem bx_part {w : World} {t : TypeId} {n gm : Nat} {ys : List Value} (h : Mem.Bx w t n gm ys) (off m : Nat) : ∀ j u, ((ys.drop off).take m)[j]? = some u → w.cell? ⟨gm, off + j, none⟩ = some u := fun j u hu => by
  by_cases hj : j < m
  · rw [part_get hj] at hu; exact h.cell hu
  · rw [List.getElem?_take, if_neg hj] at hu; cases hu
theorem ns_snoc (off m : Nat) : ns off (m + 1) = ns off m ++ [.n (off + m)] := by
  unfold ns
  rw [List.range'_concat, List.map_append, Nat.one_mul]; rfl
theorem outL_snoc (off m : Nat) (ys : List Value) (o : Od) : outL (ns off (m + 1)) ys o = outL [.n (off + m)] ys (outL (ns off m) ys o) := by rw [ns_snoc, outL_app]
structure VoRel (w1 : World) (g : Nat) (A : Option Addr) (o : Od) (ys : List Value) (v4 : Value) (wr : World) : Prop where
  out : ∃ d : Nat, d ≤ 3 ∧ v4 = .int .i64 d ∧ Hid (OP w1 g A (outL (ns 0 (3 * d)) ys o) wr)
structure ViRel (w1 : World) (g : Nat) (A : Option Addr) (o : Od) (ys : List Value) (d : Nat) (v5 : Value) (wr : World) : Prop where
  out : ∃ r : Nat, r ≤ 3 ∧ v5 = .int .i64 r ∧ Hid (OP w1 g A (outL (ns 0 (3 * d + r)) ys o) wr)
structure CoRel (w1 : World) (g : Nat) (A : Option Addr) (o : Od) (ys : List Value) (v4 : Value) (wr : World) : Prop where
  out : ∃ i : Nat, i ≤ 4 ∧ v4 = .int .i64 i ∧ Hid (OP w1 g A (outL (ns 0 (2 + 2 * i)) ys o) wr)
def noK : Mo → Bool
  | .k _ _ _ => false
  | _ => true
theorem outL_noK (ys : List Value) : ∀ (ops : List Mo) (o : Od), outL ops ys o = outL (ops.filter noK) ys o
  | [], o => rfl
  | op :: ops, o => by
    have e : ∀ (p : Mo) (l : List Mo), outL (p :: l) ys o = outL l ys (outL [p] ys o) := fun p l => outL_app [p] l ys o
    cases op with
    | k k lo hi =>
      rw [e, show outL [.k k lo hi] ys o = o by simp [outL, encL, encM, badN], outL_noK ys ops o]; rfl
    | n k => rw [e, outL_noK ys ops]; exact (e (.n k) (ops.filter noK)).symm
    | b k => rw [e, outL_noK ys ops]; exact (e (.b k) (ops.filter noK)).symm
    | t k m => rw [e, outL_noK ys ops]; exact (e (.t k m) (ops.filter noK)).symm
theorem msgM_out (ys : List Value) (o : Od) : outL msgM ys o = outL (msgM.filter noK) ys o := outL_noK ys msgM o
end Wi
theorem mem_agg : Mem.Agg Try.prog 32 2 := Mem.agg_of Try.underlying32 rfl (by kernel_rfl)
theorem addr_agg : Mem.Agg Try.prog 52 4 := Mem.agg_of Try.underlying52 rfl (by kernel_rfl)
theorem vec_agg9 : Mem.Agg Try.prog 28 9 := Mem.agg_of Try.underlying28 rfl (by kernel_rfl)
open Wi in
set_option maxRecDepth 100000 in
set_option maxHeartbeats 4000000 in
theorem oMember_any {w : World} {g : Nat} {A : Option Addr} {cap : Nat} {o : Wi.Od} {ys : List Value} (hk : Cells.Ok [.i, .i] ys) (hs : Wi.Sm ys) (h : Wi.OAt w g A cap o) (hb : o.bs.length ≤ 890000000) :
    Calls Try.prog 51 #[.pointer (some ⟨g, 0, none⟩), .agg ys.toArray] w (Wi.OEnd w g A (Wi.outL (Wi.ns 0 2) ys o)) := by
  have HK := Lib.hid hk
  have HS := Lib.hid hs
  have hly : Hid (ys.length = 2) := hk.len
  obtain ⟨w1, hw1⟩ : ∃ w1, w.alloc (.cells ys.toArray 32) = w1 := ⟨_, rfl⟩
  have hz1 : Mem.Bx w1 32 2 w.heap.size ys := by rw [← hw1]; exact Mem.Bx.new w 32 ys.toArray (by rw [List.size_toArray, hly.out]) rfl
  have hb1 : Below w.heap.size w w1 := by rw [← hw1]; exact Reg.below_new _ _
  have HB := Lib.hid hb1
  have HP0 : Hid (OP w1 g A o w1) := OP.refl (h.keeps (Mem.Keeps.of_below hb1) (fun _ _ h => h))
  have hgm : w.heap.size ≠ g := by have := h.B.lt; omega
  have hga : Mem.blk A ≠ some w.heap.size := fun e => by have := h.O.lt e; omega
  obtain ⟨gm, hg⟩ : ∃ gm, w.heap.size = gm := ⟨_, rfl⟩
  rw [hg] at hz1 hgm hga
  have HX1 := Lib.hid hz1
  have HW1 := Lib.hid hw1
  have HG := Lib.hid hg
  have HGM := Lib.hid hgm
  have HGA := Lib.hid hga
  have HE0 : Hid (outL [] ys o = o) := outL_nil ys o
  have HBO := Lib.hid hb
  clear hk hs h hw1 hz1 hb1 hgm hga hg hb
  go_enter Try.func51, Try.ntmps51
  go_upto_region 1 with fail
  rw [HW1.out, HG.out]
  clear HW1
  have HXC0 : Hid (Mem.Bx w1 32 2 gm ys) := HP0.out.box HX1.out HGM.out HGA.out
  have hL0 : Hid (o.bs.length ≤ 1000000000) := by show _ ≤ _; rw [← HE0.out]; exact Nat.le_trans (outL_len HS.out o _) (by have := HBO.out; show _ + 100009 * 0 ≤ _; omega)
  obtain ⟨_, e0, v0, rfl⟩ := HK.out.get (k := 0) (kd := .i) rfl
  have x0 : w1.cell? ⟨gm, 0, none⟩ = some (.int .i64 v0) := HXC0.out.cell e0
  have EV0 := Lib.hid e0
  clear e0
  go_upto_region 2 with (go_at_call 27; refine (HP0.out.lift fun A1 c1 hA => oNumber_any v0 hA hL0.out).mono ?_; rintro x9 w2 ⟨rfl, hp⟩; rw [outL_n EV0.out o] at hp; have HQ0 := Lib.hid hp; clear hp)
  obtain ⟨o1, ho0⟩ : ∃ z, outL [.n 0] ys o = z := ⟨_, rfl⟩
  have HE1 : Hid (outL ([] ++ [.n 0]) ys o = o1) := by show _ = _; rw [outL_app, HE0.out]; exact ho0
  rw [ho0] at HQ0
  have HP1 : Hid (OP w1 g A o1 w2) := HQ0
  clear HQ0 HP0 HE0 hL0 HXC0 ho0 x0 EV0
  have HXC1 : Hid (Mem.Bx w2 32 2 gm ys) := HP1.out.box HX1.out HGM.out HGA.out
  have hL1 : Hid (o1.bs.length ≤ 1000000000) := by show _ ≤ _; rw [← HE1.out]; exact Nat.le_trans (outL_len HS.out o _) (by have := HBO.out; show _ + 100009 * 1 ≤ _; omega)
  obtain ⟨_, e1, v1, rfl⟩ := HK.out.get (k := 1) (kd := .i) rfl
  have x1 : w2.cell? ⟨gm, 1, none⟩ = some (.int .i64 v1) := HXC1.out.cell e1
  have EV1 := Lib.hid e1
  clear e1
  go_wp2_with (go_at_call 27; refine (HP1.out.lift fun A1 c1 hA => oNumber_any v1 hA hL1.out).mono ?_; rintro x9 w3 ⟨rfl, hp⟩; rw [outL_n EV1.out o1] at hp; have HQ1 := Lib.hid hp; clear hp)
  obtain ⟨o2, ho1⟩ : ∃ z, outL [.n 1] ys o1 = z := ⟨_, rfl⟩
  have HE2 : Hid (outL (([] ++ [.n 0]) ++ [.n 1]) ys o = o2) := by show _ = _; rw [outL_app, HE1.out]; exact ho1
  rw [ho1] at HQ1
  have HP2 : Hid (OP w1 g A o2 w3) := HQ1
  clear HQ1 HP1 HE1 hL1 HXC1 ho1 x1 EV1
  first | go_end0 | ((try simp only [Exit.inBlock, Exit.then]); refine bodyPost_ret (results_none rfl _ _ _) rfl ?_)
  refine ⟨rfl, ?_⟩
  have he := HE2.out
  have hq : outL (ns 0 2) ys o = o2 := he
  rw [hq]
  exact OP.base HB.out HP2.out
open Wi in
set_option maxRecDepth 100000 in
set_option maxHeartbeats 4000000 in
theorem oAddr_any {w : World} {g : Nat} {A : Option Addr} {cap : Nat} {o : Wi.Od} {ys : List Value} (hk : Cells.Ok [.i, .i, .i, .i] ys) (hs : Wi.Sm ys) (h : Wi.OAt w g A cap o) (hb : o.bs.length ≤ 890000000) :
    Calls Try.prog 60 #[.pointer (some ⟨g, 0, none⟩), .agg ys.toArray] w (Wi.OEnd w g A (Wi.outL (Wi.ns 0 4) ys o)) := by
  have HK := Lib.hid hk
  have HS := Lib.hid hs
  have hly : Hid (ys.length = 4) := hk.len
  obtain ⟨w1, hw1⟩ : ∃ w1, w.alloc (.cells ys.toArray 52) = w1 := ⟨_, rfl⟩
  have hz1 : Mem.Bx w1 52 4 w.heap.size ys := by rw [← hw1]; exact Mem.Bx.new w 52 ys.toArray (by rw [List.size_toArray, hly.out]) rfl
  have hb1 : Below w.heap.size w w1 := by rw [← hw1]; exact Reg.below_new _ _
  have HB := Lib.hid hb1
  have HP0 : Hid (OP w1 g A o w1) := OP.refl (h.keeps (Mem.Keeps.of_below hb1) (fun _ _ h => h))
  have hgm : w.heap.size ≠ g := by have := h.B.lt; omega
  have hga : Mem.blk A ≠ some w.heap.size := fun e => by have := h.O.lt e; omega
  obtain ⟨gm, hg⟩ : ∃ gm, w.heap.size = gm := ⟨_, rfl⟩
  rw [hg] at hz1 hgm hga
  have HX1 := Lib.hid hz1
  have HW1 := Lib.hid hw1
  have HG := Lib.hid hg
  have HGM := Lib.hid hgm
  have HGA := Lib.hid hga
  have HE0 : Hid (outL [] ys o = o) := outL_nil ys o
  have HBO := Lib.hid hb
  clear hk hs h hw1 hz1 hb1 hgm hga hg hb
  go_enter Try.func60, Try.ntmps60
  go_upto_region 1 with fail
  rw [HW1.out, HG.out]
  clear HW1
  have HXC0 : Hid (Mem.Bx w1 52 4 gm ys) := HP0.out.box HX1.out HGM.out HGA.out
  have hL0 : Hid (o.bs.length ≤ 1000000000) := by show _ ≤ _; rw [← HE0.out]; exact Nat.le_trans (outL_len HS.out o _) (by have := HBO.out; show _ + 100009 * 0 ≤ _; omega)
  obtain ⟨_, e0, v0, rfl⟩ := HK.out.get (k := 0) (kd := .i) rfl
  have x0 : w1.cell? ⟨gm, 0, none⟩ = some (.int .i64 v0) := HXC0.out.cell e0
  have EV0 := Lib.hid e0
  clear e0
  go_upto_region 2 with (go_at_call 27; refine (HP0.out.lift fun A1 c1 hA => oNumber_any v0 hA hL0.out).mono ?_; rintro x9 w2 ⟨rfl, hp⟩; rw [outL_n EV0.out o] at hp; have HQ0 := Lib.hid hp; clear hp)
  obtain ⟨o1, ho0⟩ : ∃ z, outL [.n 0] ys o = z := ⟨_, rfl⟩
  have HE1 : Hid (outL ([] ++ [.n 0]) ys o = o1) := by show _ = _; rw [outL_app, HE0.out]; exact ho0
  rw [ho0] at HQ0
  have HP1 : Hid (OP w1 g A o1 w2) := HQ0
  clear HQ0 HP0 HE0 hL0 HXC0 ho0 x0 EV0
  have HXC1 : Hid (Mem.Bx w2 52 4 gm ys) := HP1.out.box HX1.out HGM.out HGA.out
  have hL1 : Hid (o1.bs.length ≤ 1000000000) := by show _ ≤ _; rw [← HE1.out]; exact Nat.le_trans (outL_len HS.out o _) (by have := HBO.out; show _ + 100009 * 1 ≤ _; omega)
  obtain ⟨_, e1, v1, rfl⟩ := HK.out.get (k := 1) (kd := .i) rfl
  have x1 : w2.cell? ⟨gm, 1, none⟩ = some (.int .i64 v1) := HXC1.out.cell e1
  have EV1 := Lib.hid e1
  clear e1
  go_upto_region 3 with (go_at_call 27; refine (HP1.out.lift fun A1 c1 hA => oNumber_any v1 hA hL1.out).mono ?_; rintro x9 w3 ⟨rfl, hp⟩; rw [outL_n EV1.out o1] at hp; have HQ1 := Lib.hid hp; clear hp)
  obtain ⟨o2, ho1⟩ : ∃ z, outL [.n 1] ys o1 = z := ⟨_, rfl⟩
  have HE2 : Hid (outL (([] ++ [.n 0]) ++ [.n 1]) ys o = o2) := by show _ = _; rw [outL_app, HE1.out]; exact ho1
  rw [ho1] at HQ1
  have HP2 : Hid (OP w1 g A o2 w3) := HQ1
  clear HQ1 HP1 HE1 hL1 HXC1 ho1 x1 EV1
  have HXC2 : Hid (Mem.Bx w3 52 4 gm ys) := HP2.out.box HX1.out HGM.out HGA.out
  have hL2 : Hid (o2.bs.length ≤ 1000000000) := by show _ ≤ _; rw [← HE2.out]; exact Nat.le_trans (outL_len HS.out o _) (by have := HBO.out; show _ + 100009 * 2 ≤ _; omega)
  obtain ⟨_, e2, v2, rfl⟩ := HK.out.get (k := 2) (kd := .i) rfl
  have x2 : w3.cell? ⟨gm, 2, none⟩ = some (.int .i64 v2) := HXC2.out.cell e2
  have EV2 := Lib.hid e2
  clear e2
  go_upto_region 4 with (go_at_call 27; refine (HP2.out.lift fun A1 c1 hA => oNumber_any v2 hA hL2.out).mono ?_; rintro x9 w4 ⟨rfl, hp⟩; rw [outL_n EV2.out o2] at hp; have HQ2 := Lib.hid hp; clear hp)
  obtain ⟨o3, ho2⟩ : ∃ z, outL [.n 2] ys o2 = z := ⟨_, rfl⟩
  have HE3 : Hid (outL ((([] ++ [.n 0]) ++ [.n 1]) ++ [.n 2]) ys o = o3) := by show _ = _; rw [outL_app, HE2.out]; exact ho2
  rw [ho2] at HQ2
  have HP3 : Hid (OP w1 g A o3 w4) := HQ2
  clear HQ2 HP2 HE2 hL2 HXC2 ho2 x2 EV2
  have HXC3 : Hid (Mem.Bx w4 52 4 gm ys) := HP3.out.box HX1.out HGM.out HGA.out
  have hL3 : Hid (o3.bs.length ≤ 1000000000) := by show _ ≤ _; rw [← HE3.out]; exact Nat.le_trans (outL_len HS.out o _) (by have := HBO.out; show _ + 100009 * 3 ≤ _; omega)
  obtain ⟨_, e3, v3, rfl⟩ := HK.out.get (k := 3) (kd := .i) rfl
  have x3 : w4.cell? ⟨gm, 3, none⟩ = some (.int .i64 v3) := HXC3.out.cell e3
  have EV3 := Lib.hid e3
  clear e3
  go_wp2_with (go_at_call 27; refine (HP3.out.lift fun A1 c1 hA => oNumber_any v3 hA hL3.out).mono ?_; rintro x9 w5 ⟨rfl, hp⟩; rw [outL_n EV3.out o3] at hp; have HQ3 := Lib.hid hp; clear hp)
  obtain ⟨o4, ho3⟩ : ∃ z, outL [.n 3] ys o3 = z := ⟨_, rfl⟩
  have HE4 : Hid (outL (((([] ++ [.n 0]) ++ [.n 1]) ++ [.n 2]) ++ [.n 3]) ys o = o4) := by show _ = _; rw [outL_app, HE3.out]; exact ho3
  rw [ho3] at HQ3
  have HP4 : Hid (OP w1 g A o4 w5) := HQ3
  clear HQ3 HP3 HE3 hL3 HXC3 ho3 x3 EV3
  first | go_end0 | ((try simp only [Exit.inBlock, Exit.then]); refine bodyPost_ret (results_none rfl _ _ _) rfl ?_)
  refine ⟨rfl, ?_⟩
  have he := HE4.out
  have hq : outL (ns 0 4) ys o = o4 := he
  rw [hq]
  exact OP.base HB.out HP4.out
open Wi in
set_option maxRecDepth 100000 in
set_option maxHeartbeats 4000000 in
theorem oVec_any {w : World} {g : Nat} {A : Option Addr} {cap : Nat} {o : Wi.Od} {ys : List Value} (hk : Cells.Ok [.i, .i, .i, .i, .i, .i, .i, .i, .i] ys) (hs : Wi.Sm ys) (h : Wi.OAt w g A cap o) (hb : o.bs.length ≤ 890000000) :
    Calls Try.prog 50 #[.pointer (some ⟨g, 0, none⟩), .agg ys.toArray] w (Wi.OEnd w g A (Wi.outL (Wi.ns 0 9) ys o)) := by
  have HK := Lib.hid hk
  have HS := Lib.hid hs
  have hly : Hid (ys.length = 9) := hk.len
  obtain ⟨w1, hw1⟩ : ∃ w1, w.alloc (.cells ys.toArray 28) = w1 := ⟨_, rfl⟩
  have hz1 : Mem.Bx w1 28 9 w.heap.size ys := by rw [← hw1]; exact Mem.Bx.new w 28 ys.toArray (by rw [List.size_toArray, hly.out]) rfl
  have hb1 : Below w.heap.size w w1 := by rw [← hw1]; exact Reg.below_new _ _
  have HB := Lib.hid hb1
  have HP0 : Hid (OP w1 g A o w1) := OP.refl (h.keeps (Mem.Keeps.of_below hb1) (fun _ _ h => h))
  have hgm : w.heap.size ≠ g := by have := h.B.lt; omega
  have hga : Mem.blk A ≠ some w.heap.size := fun e => by have := h.O.lt e; omega
  obtain ⟨gm, hg⟩ : ∃ gm, w.heap.size = gm := ⟨_, rfl⟩
  rw [hg] at hz1 hgm hga
  have HX1 := Lib.hid hz1
  have HW1 := Lib.hid hw1
  have HG := Lib.hid hg
  have HGM := Lib.hid hgm
  have HGA := Lib.hid hga
  have HE0 : Hid (outL [] ys o = o) := outL_nil ys o
  have HBO := Lib.hid hb
  clear hk hs h hw1 hz1 hb1 hgm hga hg hb
  go_enter Try.func50, Try.ntmps50
  go_upto_region 1 with fail
  rw [HW1.out, HG.out]
  clear HW1
  have HP : Hid (OP w1 g A (outL (ns 0 (3 * 0)) ys o) w1) := by show OP _ _ _ _ _; rw [show outL (ns 0 (3 * 0)) ys o = o from outL_nil ys o]; exact HP0.out
  clear HP0 HE0
  go_wp2
  go_loopw [4] (VoRel w1 g A o ys) (fun t _ => 3 - (intOf t).toNat)
  case atStart => exact ⟨⟨0, by omega, rfl, HP⟩⟩
  case round =>
    obtain ⟨d, hd, rfl, HPd⟩ := hrel.out
    clear hrel HP
    by_cases hlt : d < 3
    · have d1 : decide ((d : Int) < 3) = true := by simp; omega
      go_wp2
      rename World => wy
      go_loopw [5] (ViRel w1 g A o ys d) (fun t _ => 3 - (intOf t).toNat)
      case atStart => exact ⟨⟨0, by omega, rfl, HPd⟩⟩
      case round =>
        obtain ⟨r, hr, rfl, HPr⟩ := hrel.out
        clear hrel HPd
        by_cases hlr : r < 3
        · have d2 : decide ((r : Int) < 3) = true := by simp; omega
          have hkd : ([.i, .i, .i, .i, .i, .i, .i, .i, .i] : List Cells.Kd)[3 * d + r]? = some .i := by
            have : ∀ j, j < 9 → ([.i, .i, .i, .i, .i, .i, .i, .i, .i] : List Cells.Kd)[j]? = some .i := by decide
            exact this _ (by omega)
          obtain ⟨_, e0, v0, rfl⟩ := HK.out.get hkd
          have hx := (HPr.out.box HX1.out HGM.out HGA.out).cell e0
          rw [show 3 * d + r = d * 3 + r by omega] at hx
          have hL : Hid ((outL (ns 0 (3 * d + r)) ys o).bs.length ≤ 1000000000) := Nat.le_trans (outL_len HS.out o _) (by have := HBO.out; rw [ns_len]; omega)
          have E0 := Lib.hid e0
          clear e0 hkd
          go_wp2_with (go_at_call 27; refine (HPr.out.lift fun A1 c1 hA => oNumber_any v0 hA hL.out).mono ?_; rintro x9 w3 ⟨rfl, hp⟩; have hq : OP w1 g A (outL (ns 0 (3 * d + (r + 1))) ys o) w3 := (by rw [show 3 * d + (r + 1) = 3 * d + r + 1 by omega, outL_snoc, Nat.zero_add, ← outL_n E0.out]; exact hp); have HQ := Lib.hid hq; clear hp hq)
          go_roundw
          case rel => exact ⟨⟨r + 1, by omega, by go_num, HQ⟩⟩
          case measure => simp [intOf]; omega
        · obtain rfl : r = 3 := by omega
          have d2 : decide (((3 : Nat) : Int) < 3) = false := by decide
          go_wp2
          go_roundw
          case rel => exact ⟨⟨d + 1, by omega, by go_num, by rw [show 3 * (d + 1) = 3 * d + 3 by omega]; exact HPr⟩⟩
          case measure => simp [intOf]; omega
    · obtain rfl : d = 3 := by omega
      have d1 : decide (((3 : Nat) : Int) < 3) = false := by decide
      go_wp2
      first | go_end0 | ((try simp only [Exit.inBlock, Exit.then]); refine bodyPost_ret (results_none rfl _ _ _) rfl ?_)
      exact ⟨rfl, OP.base HB.out HPd.out⟩
open Wi in
set_option maxRecDepth 100000 in
set_option maxHeartbeats 4000000 in
theorem oConfig_any {w : World} {g : Nat} {A : Option Addr} {cap : Nat} {o : Wi.Od} {ys : List Value} (hk : Cells.Ok Wi.chainKd ys) (hs : Wi.Sm ys) (h : Wi.OAt w g A cap o) (hb : o.bs.length ≤ 880000000) :
    Calls Try.prog 29 #[.pointer (some ⟨g, 0, none⟩), .agg ys.toArray] w (Wi.OEnd w g A (Wi.outL (Wi.chainM 0) ys o)) := by
  have HK := Lib.hid hk
  have HS := Lib.hid hs
  have hly : Hid (ys.length = 13) := hk.len
  obtain ⟨w1, hw1⟩ : ∃ w1, w.alloc (.cells ys.toArray 35) = w1 := ⟨_, rfl⟩
  have hz1 : Mem.Bx w1 35 13 w.heap.size ys := by rw [← hw1]; exact Mem.Bx.new w 35 ys.toArray (by rw [List.size_toArray, hly.out]) rfl
  have hb1 : Below w.heap.size w w1 := by rw [← hw1]; exact Reg.below_new _ _
  have HB := Lib.hid hb1
  have HP0 : Hid (OP w1 g A o w1) := OP.refl (h.keeps (Mem.Keeps.of_below hb1) (fun _ _ h => h))
  have hgm : w.heap.size ≠ g := by have := h.B.lt; omega
  have hga : Mem.blk A ≠ some w.heap.size := fun e => by have := h.O.lt e; omega
  obtain ⟨gm, hg⟩ : ∃ gm, w.heap.size = gm := ⟨_, rfl⟩
  rw [hg] at hz1 hgm hga
  have HX1 := Lib.hid hz1
  have HW1 := Lib.hid hw1
  have HG := Lib.hid hg
  have HGM := Lib.hid hgm
  have HGA := Lib.hid hga
  have HE0 : Hid (outL [] ys o = o) := outL_nil ys o
  have HBO := Lib.hid hb
  clear hk hs h hw1 hz1 hb1 hgm hga hg hb
  go_enter Try.func29, Try.ntmps29
  go_upto_region 1 with fail
  rw [HW1.out, HG.out]
  clear HW1
  have HXC0 : Hid (Mem.Bx w1 35 13 gm ys) := HP0.out.box HX1.out HGM.out HGA.out
  have hL0 : Hid (o.bs.length ≤ 1000000000) := by show _ ≤ _; rw [← HE0.out]; exact Nat.le_trans (outL_len HS.out o _) (by have := HBO.out; show _ + 100009 * 0 ≤ _; omega)
  obtain ⟨_, e0, v0, rfl⟩ := HK.out.get (k := 0) (kd := .i) rfl
  have x0 : w1.cell? ⟨gm, 0, none⟩ = some (.int .i64 v0) := HXC0.out.cell e0
  have EV0 := Lib.hid e0
  clear e0
  go_upto_region 2 with (go_at_call 27; refine (HP0.out.lift fun A1 c1 hA => oNumber_any v0 hA hL0.out).mono ?_; rintro x9 w2 ⟨rfl, hp⟩; rw [outL_n EV0.out o] at hp; have HQ0 := Lib.hid hp; clear hp)
  obtain ⟨o1, ho0⟩ : ∃ z, outL [.n 0] ys o = z := ⟨_, rfl⟩
  have HE1 : Hid (outL ([] ++ [.n 0]) ys o = o1) := by show _ = _; rw [outL_app, HE0.out]; exact ho0
  rw [ho0] at HQ0
  have HP1 : Hid (OP w1 g A o1 w2) := HQ0
  clear HQ0 HP0 HE0 hL0 HXC0 ho0 x0 EV0
  have HXC1 : Hid (Mem.Bx w2 35 13 gm ys) := HP1.out.box HX1.out HGM.out HGA.out
  have hL1 : Hid (o1.bs.length ≤ 1000000000) := by show _ ≤ _; rw [← HE1.out]; exact Nat.le_trans (outL_len HS.out o _) (by have := HBO.out; show _ + 100009 * 1 ≤ _; omega)
  obtain ⟨_, e1, v1, rfl⟩ := HK.out.get (k := 1) (kd := .i) rfl
  have x1 : w2.cell? ⟨gm, 1, none⟩ = some (.int .i64 v1) := HXC1.out.cell e1
  have EV1 := Lib.hid e1
  clear e1
  go_upto_region 3 with (go_at_call 27; refine (HP1.out.lift fun A1 c1 hA => oNumber_any v1 hA hL1.out).mono ?_; rintro x9 w3 ⟨rfl, hp⟩; rw [outL_n EV1.out o1] at hp; have HQ1 := Lib.hid hp; clear hp)
  obtain ⟨o2, ho1⟩ : ∃ z, outL [.n 1] ys o1 = z := ⟨_, rfl⟩
  have HE2 : Hid (outL (([] ++ [.n 0]) ++ [.n 1]) ys o = o2) := by show _ = _; rw [outL_app, HE1.out]; exact ho1
  rw [ho1] at HQ1
  have HP2 : Hid (OP w1 g A o2 w3) := HQ1
  clear HQ1 HP1 HE1 hL1 HXC1 ho1 x1 EV1
  have HP : Hid (OP w1 g A (outL (ns 0 (2 + 2 * 0)) ys o) w3) := by
    show OP _ _ _ _ _
    have he := HE2.out
    have hq : outL (ns 0 (2 + 2 * 0)) ys o = o2 := he
    rw [hq]; exact HP2.out
  clear HP2 HE2
  go_wp2
  go_loopw [4] (CoRel w1 g A o ys) (fun t _ => 4 - (intOf t).toNat)
  case atStart => exact ⟨⟨0, by omega, rfl, HP⟩⟩
  case round =>
    obtain ⟨i, hi, rfl, HPi⟩ := hrel.out
    clear hrel HP
    by_cases hlt : i < 4
    · have d1 : decide ((i : Int) < 4) = true := by simp; omega
      have hkd : ((chainKd.drop (2 + 2 * i)).take 2) = [.i, .i] := by
        have : ∀ j, j < 4 → ((chainKd.drop (2 + 2 * j)).take 2) = [.i, .i] := by decide
        exact this _ hlt
      have HSi : Hid (Cells.Ok [.i, .i] ((ys.drop (2 + 2 * i)).take 2)) := by have := Cells.Ok.part HK.out (2 + 2 * i) 2; rw [hkd] at this; exact this
      have hli : Hid (((ys.drop (2 + 2 * i)).take 2).length = 2) := HSi.out.len
      have hci : Hid (∀ j u, ((ys.drop (2 + 2 * i)).take 2)[j]? = some u → wr.cell? ⟨gm, 2 + i * 2 + j, none⟩ = some u) := fun j u hu => by rw [Nat.mul_comm i 2]; exact bx_part (HPi.out.box HX1.out HGM.out HGA.out) _ 2 j u hu
      have hL : Hid ((outL (ns 0 (2 + 2 * i)) ys o).bs.length ≤ 890000000) := Nat.le_trans (outL_len HS.out o _) (by have := HBO.out; rw [ns_len]; omega)
      clear hkd
      go_wp2_with (first | ((with_reducible refine Mem.load_agg _ _ mem_agg gm (2 + i * 2) ((ys.drop (2 + 2 * i)).take 2) ?hxi hli.out hci.out ?_); case hxi => exact rfl) | (go_at_call 51; refine (HPi.out.lift fun A1 c1 hA => oMember_any HSi.out (sm_part HS.out (2 + 2 * i) 2) hA hL.out).mono ?_; rintro x9 w4 ⟨rfl, hp⟩; rw [← outL_sh (off := 2 + 2 * i) (n := 2) _ (by decide +kernel)] at hp; have hq : OP w1 g A (outL (ns 0 (2 + 2 * (i + 1))) ys o) w4 := (by rw [show 2 + 2 * (i + 1) = 2 + 2 * i + 1 + 1 by omega, outL_snoc, outL_snoc, ← outL_app, Nat.zero_add, Nat.zero_add]; exact hp); have HQ := Lib.hid hq; clear hp hq))
      go_roundw
      case rel => exact ⟨⟨i + 1, by omega, by go_num, HQ⟩⟩
      case measure => simp [intOf]; omega
    · obtain rfl : i = 4 := by omega
      have d1 : decide (((4 : Nat) : Int) < 4) = false := by decide
      obtain ⟨o4, ho4⟩ : ∃ z, outL (ns 0 (2 + 2 * 4)) ys o = z := ⟨_, rfl⟩
      have HE4 : Hid (outL (ns 0 10) ys o = o4) := ho4
      rw [ho4] at HPi
      have HP4 : Hid (OP w1 g A o4 wr) := HPi
      clear HPi ho4 hlt hi
      obtain ⟨w5, hw5⟩ : ∃ w5, wr = w5 := ⟨_, rfl⟩
      subst hw5
      have HXC4 : Hid (Mem.Bx wr 35 13 gm ys) := HP4.out.box HX1.out HGM.out HGA.out
      have hL4 : Hid (o4.bs.length ≤ 1000000000) := by show _ ≤ _; rw [← HE4.out]; exact Nat.le_trans (outL_len HS.out o _) (by have := HBO.out; show _ + 100009 * 10 ≤ _; omega)
      obtain ⟨_, e4, v4, rfl⟩ := HK.out.get (k := 10) (kd := .b) rfl
      have x4 : wr.cell? ⟨gm, 10, none⟩ = some (.bool v4) := HXC4.out.cell e4
      have EV4 := Lib.hid e4
      clear e4
      go_upto_region 8 with (go_at_call 49; refine (HP4.out.lift fun A1 c1 hA => oTruth_any v4 hA hL4.out).mono ?_; rintro x9 w6 ⟨rfl, hp⟩; rw [outL_b EV4.out o4] at hp; have HQ4 := Lib.hid hp; clear hp)
      obtain ⟨o5, ho4⟩ : ∃ z, outL [.b 10] ys o4 = z := ⟨_, rfl⟩
      have HE5 : Hid (outL ((ns 0 10) ++ [.b 10]) ys o = o5) := by show _ = _; rw [outL_app, HE4.out]; exact ho4
      rw [ho4] at HQ4
      have HP5 : Hid (OP w1 g A o5 w6) := HQ4
      clear HQ4 HP4 HE4 hL4 HXC4 ho4 x4 EV4
      have HXC5 : Hid (Mem.Bx w6 35 13 gm ys) := HP5.out.box HX1.out HGM.out HGA.out
      have hL5 : Hid (o5.bs.length ≤ 890000000) := by show _ ≤ _; rw [← HE5.out]; exact Nat.le_trans (outL_len HS.out o _) (by have := HBO.out; show _ + 100009 * 11 ≤ _; omega)
      obtain ⟨zs5, hzs5⟩ : ∃ z, (ys.drop 11).take 2 = z := ⟨_, rfl⟩
      have HS5 : Hid (Cells.Ok [.i, .i] zs5) := by show Cells.Ok _ _; rw [← hzs5]; exact Cells.Ok.part HK.out 11 2
      have hl5 : Hid (zs5.length = 2) := HS5.out.len
      have hc5 : Hid (∀ j u, zs5[j]? = some u → w6.cell? ⟨gm, 11 + j, none⟩ = some u) := by rw [← hzs5]; exact bx_part HXC5.out 11 2
      have hm5 : Hid (Sm zs5) := by show Sm _; rw [← hzs5]; exact sm_part HS.out 11 2
      have HZ5 := Lib.hid hzs5
      clear hzs5
      go_wp2_with (first | ((with_reducible refine Mem.load_agg _ _ mem_agg gm 11 zs5 ?hx5 hl5.out hc5.out ?_); case hx5 => exact rfl) | (go_at_call 51; refine (HP5.out.lift fun A1 c1 hA => oMember_any HS5.out hm5.out hA hL5.out).mono ?_; rintro x9 w7 ⟨rfl, hp⟩; rw [← HZ5.out, ← outL_sh (off := 11) (n := 2) o5 (by decide +kernel)] at hp; have HQ5 : Hid (OP w1 g A (outL (ns 11 2) ys o5) w7) := hp; clear hp))
      obtain ⟨o6, ho5⟩ : ∃ z, outL (ns 11 2) ys o5 = z := ⟨_, rfl⟩
      have HE6 : Hid (outL (((ns 0 10) ++ [.b 10]) ++ (ns 11 2)) ys o = o6) := by show _ = _; rw [outL_app, HE5.out]; exact ho5
      rw [ho5] at HQ5
      have HP6 : Hid (OP w1 g A o6 w7) := HQ5
      clear HQ5 HP5 HE5 hL5 HXC5 ho5 HS5 hl5 hc5 hm5 HZ5
      first | go_end0 | ((try simp only [Exit.inBlock, Exit.then]); refine bodyPost_ret (results_none rfl _ _ _) rfl ?_)
      refine ⟨rfl, ?_⟩
      have he := HE6.out
      have hq : outL (chainM 0) ys o = o6 := he
      rw [hq]
      exact OP.base HB.out HP6.out
open Wi in
set_option maxRecDepth 100000 in
set_option maxHeartbeats 4000000 in
theorem oEntry_any {w : World} {g : Nat} {A : Option Addr} {cap : Nat} {o : Wi.Od} {ys : List Value} (hk : Cells.Ok Wi.entryK ys) (hs : Wi.Sm ys) (h : Wi.OAt w g A cap o) (hb : o.bs.length ≤ 870000000) :
    Calls Try.prog 28 #[.pointer (some ⟨g, 0, none⟩), .agg ys.toArray] w (Wi.OEnd w g A (Wi.outL (Wi.writeM 0) ys o)) := by
  have HK := Lib.hid hk
  have HS := Lib.hid hs
  have hly : Hid (ys.length = 20) := hk.len
  obtain ⟨w1, hw1⟩ : ∃ w1, w.alloc (.cells ys.toArray 30) = w1 := ⟨_, rfl⟩
  have hz1 : Mem.Bx w1 30 20 w.heap.size ys := by rw [← hw1]; exact Mem.Bx.new w 30 ys.toArray (by rw [List.size_toArray, hly.out]) rfl
  have hb1 : Below w.heap.size w w1 := by rw [← hw1]; exact Reg.below_new _ _
  have HB := Lib.hid hb1
  have HP0 : Hid (OP w1 g A o w1) := OP.refl (h.keeps (Mem.Keeps.of_below hb1) (fun _ _ h => h))
  have hgm : w.heap.size ≠ g := by have := h.B.lt; omega
  have hga : Mem.blk A ≠ some w.heap.size := fun e => by have := h.O.lt e; omega
  obtain ⟨gm, hg⟩ : ∃ gm, w.heap.size = gm := ⟨_, rfl⟩
  rw [hg] at hz1 hgm hga
  have HX1 := Lib.hid hz1
  have HW1 := Lib.hid hw1
  have HG := Lib.hid hg
  have HGM := Lib.hid hgm
  have HGA := Lib.hid hga
  have HE0 : Hid (outL [] ys o = o) := outL_nil ys o
  have HBO := Lib.hid hb
  clear hk hs h hw1 hz1 hb1 hgm hga hg hb
  go_enter Try.func28, Try.ntmps28
  go_upto_region 1 with fail
  rw [HW1.out, HG.out]
  clear HW1
  have HXC0 : Hid (Mem.Bx w1 30 20 gm ys) := HP0.out.box HX1.out HGM.out HGA.out
  have hL0 : Hid (o.bs.length ≤ 1000000000) := by show _ ≤ _; rw [← HE0.out]; exact Nat.le_trans (outL_len HS.out o _) (by have := HBO.out; show _ + 100009 * 0 ≤ _; omega)
  obtain ⟨_, e0, v0, rfl⟩ := HK.out.get (k := 0) (kd := .i) rfl
  have x0 : w1.cell? ⟨gm, 0, none⟩ = some (.int .i64 v0) := HXC0.out.cell e0
  have EV0 := Lib.hid e0
  clear e0
  go_upto_region 2 with (go_at_call 27; refine (HP0.out.lift fun A1 c1 hA => oNumber_any v0 hA hL0.out).mono ?_; rintro x9 w2 ⟨rfl, hp⟩; rw [outL_n EV0.out o] at hp; have HQ0 := Lib.hid hp; clear hp)
  obtain ⟨o1, ho0⟩ : ∃ z, outL [.n 0] ys o = z := ⟨_, rfl⟩
  have HE1 : Hid (outL ([] ++ [.n 0]) ys o = o1) := by show _ = _; rw [outL_app, HE0.out]; exact ho0
  rw [ho0] at HQ0
  have HP1 : Hid (OP w1 g A o1 w2) := HQ0
  clear HQ0 HP0 HE0 hL0 HXC0 ho0 x0 EV0
  have HXC1 : Hid (Mem.Bx w2 30 20 gm ys) := HP1.out.box HX1.out HGM.out HGA.out
  have hL1 : Hid (o1.bs.length ≤ 1000000000) := by show _ ≤ _; rw [← HE1.out]; exact Nat.le_trans (outL_len HS.out o _) (by have := HBO.out; show _ + 100009 * 1 ≤ _; omega)
  obtain ⟨_, e1, v1, rfl⟩ := HK.out.get (k := 1) (kd := .i) rfl
  have x1 : w2.cell? ⟨gm, 1, none⟩ = some (.int .i64 v1) := HXC1.out.cell e1
  have EV1 := Lib.hid e1
  clear e1
  go_upto_region 3 with (go_at_call 27; refine (HP1.out.lift fun A1 c1 hA => oNumber_any v1 hA hL1.out).mono ?_; rintro x9 w3 ⟨rfl, hp⟩; rw [outL_n EV1.out o1] at hp; have HQ1 := Lib.hid hp; clear hp)
  obtain ⟨o2, ho1⟩ : ∃ z, outL [.n 1] ys o1 = z := ⟨_, rfl⟩
  have HE2 : Hid (outL (([] ++ [.n 0]) ++ [.n 1]) ys o = o2) := by show _ = _; rw [outL_app, HE1.out]; exact ho1
  rw [ho1] at HQ1
  have HP2 : Hid (OP w1 g A o2 w3) := HQ1
  clear HQ1 HP1 HE1 hL1 HXC1 ho1 x1 EV1
  have HXC2 : Hid (Mem.Bx w3 30 20 gm ys) := HP2.out.box HX1.out HGM.out HGA.out
  have hL2 : Hid (o2.bs.length ≤ 1000000000) := by show _ ≤ _; rw [← HE2.out]; exact Nat.le_trans (outL_len HS.out o _) (by have := HBO.out; show _ + 100009 * 2 ≤ _; omega)
  obtain ⟨_, e2, v2, rfl⟩ := HK.out.get (k := 2) (kd := .i) rfl
  have x2 : w3.cell? ⟨gm, 2, none⟩ = some (.int .i64 v2) := HXC2.out.cell e2
  have EV2 := Lib.hid e2
  clear e2
  go_upto_region 4 with (go_at_call 27; refine (HP2.out.lift fun A1 c1 hA => oNumber_any v2 hA hL2.out).mono ?_; rintro x9 w4 ⟨rfl, hp⟩; rw [outL_n EV2.out o2] at hp; have HQ2 := Lib.hid hp; clear hp)
  obtain ⟨o3, ho2⟩ : ∃ z, outL [.n 2] ys o2 = z := ⟨_, rfl⟩
  have HE3 : Hid (outL ((([] ++ [.n 0]) ++ [.n 1]) ++ [.n 2]) ys o = o3) := by show _ = _; rw [outL_app, HE2.out]; exact ho2
  rw [ho2] at HQ2
  have HP3 : Hid (OP w1 g A o3 w4) := HQ2
  clear HQ2 HP2 HE2 hL2 HXC2 ho2 x2 EV2
  have HXC3 : Hid (Mem.Bx w4 30 20 gm ys) := HP3.out.box HX1.out HGM.out HGA.out
  have hL3 : Hid (o3.bs.length ≤ 1000000000) := by show _ ≤ _; rw [← HE3.out]; exact Nat.le_trans (outL_len HS.out o _) (by have := HBO.out; show _ + 100009 * 3 ≤ _; omega)
  obtain ⟨_, e3, v3, rfl⟩ := HK.out.get (k := 3) (kd := .i) rfl
  have x3 : w4.cell? ⟨gm, 3, none⟩ = some (.int .i64 v3) := HXC3.out.cell e3
  have EV3 := Lib.hid e3
  clear e3
  go_upto_region 5 with (go_at_call 27; refine (HP3.out.lift fun A1 c1 hA => oNumber_any v3 hA hL3.out).mono ?_; rintro x9 w5 ⟨rfl, hp⟩; rw [outL_n EV3.out o3] at hp; have HQ3 := Lib.hid hp; clear hp)
  obtain ⟨o4, ho3⟩ : ∃ z, outL [.n 3] ys o3 = z := ⟨_, rfl⟩
  have HE4 : Hid (outL (((([] ++ [.n 0]) ++ [.n 1]) ++ [.n 2]) ++ [.n 3]) ys o = o4) := by show _ = _; rw [outL_app, HE3.out]; exact ho3
  rw [ho3] at HQ3
  have HP4 : Hid (OP w1 g A o4 w5) := HQ3
  clear HQ3 HP3 HE3 hL3 HXC3 ho3 x3 EV3
  have HXC4 : Hid (Mem.Bx w5 30 20 gm ys) := HP4.out.box HX1.out HGM.out HGA.out
  have hL4 : Hid (o4.bs.length ≤ 1000000000) := by show _ ≤ _; rw [← HE4.out]; exact Nat.le_trans (outL_len HS.out o _) (by have := HBO.out; show _ + 100009 * 4 ≤ _; omega)
  obtain ⟨_, e4, v4, rfl⟩ := HK.out.get (k := 4) (kd := .i) rfl
  have x4 : w5.cell? ⟨gm, 4, none⟩ = some (.int .i64 v4) := HXC4.out.cell e4
  have EV4 := Lib.hid e4
  clear e4
  go_upto_region 6 with (go_at_call 27; refine (HP4.out.lift fun A1 c1 hA => oNumber_any v4 hA hL4.out).mono ?_; rintro x9 w6 ⟨rfl, hp⟩; rw [outL_n EV4.out o4] at hp; have HQ4 := Lib.hid hp; clear hp)
  obtain ⟨o5, ho4⟩ : ∃ z, outL [.n 4] ys o4 = z := ⟨_, rfl⟩
  have HE5 : Hid (outL ((((([] ++ [.n 0]) ++ [.n 1]) ++ [.n 2]) ++ [.n 3]) ++ [.n 4]) ys o = o5) := by show _ = _; rw [outL_app, HE4.out]; exact ho4
  rw [ho4] at HQ4
  have HP5 : Hid (OP w1 g A o5 w6) := HQ4
  clear HQ4 HP4 HE4 hL4 HXC4 ho4 x4 EV4
  have HXC5 : Hid (Mem.Bx w6 30 20 gm ys) := HP5.out.box HX1.out HGM.out HGA.out
  have hL5 : Hid (o5.bs.length ≤ 1000000000) := by show _ ≤ _; rw [← HE5.out]; exact Nat.le_trans (outL_len HS.out o _) (by have := HBO.out; show _ + 100009 * 5 ≤ _; omega)
  obtain ⟨_, e5, v5, rfl⟩ := HK.out.get (k := 5) (kd := .i) rfl
  have x5 : w6.cell? ⟨gm, 5, none⟩ = some (.int .i64 v5) := HXC5.out.cell e5
  have EV5 := Lib.hid e5
  clear e5
  go_upto_region 7 with (go_at_call 27; refine (HP5.out.lift fun A1 c1 hA => oNumber_any v5 hA hL5.out).mono ?_; rintro x9 w7 ⟨rfl, hp⟩; rw [outL_n EV5.out o5] at hp; have HQ5 := Lib.hid hp; clear hp)
  obtain ⟨o6, ho5⟩ : ∃ z, outL [.n 5] ys o5 = z := ⟨_, rfl⟩
  have HE6 : Hid (outL (((((([] ++ [.n 0]) ++ [.n 1]) ++ [.n 2]) ++ [.n 3]) ++ [.n 4]) ++ [.n 5]) ys o = o6) := by show _ = _; rw [outL_app, HE5.out]; exact ho5
  rw [ho5] at HQ5
  have HP6 : Hid (OP w1 g A o6 w7) := HQ5
  clear HQ5 HP5 HE5 hL5 HXC5 ho5 x5 EV5
  have HXC6 : Hid (Mem.Bx w7 30 20 gm ys) := HP6.out.box HX1.out HGM.out HGA.out
  have hL6 : Hid (o6.bs.length ≤ 900000000) := by show _ ≤ _; rw [← HE6.out]; exact Nat.le_trans (outL_len HS.out o _) (by have := HBO.out; show _ + 100009 * 6 ≤ _; omega)
  obtain ⟨_, e6, v6, rfl⟩ := HK.out.get (k := 6) (kd := .s) rfl
  have x6 : w7.cell? ⟨gm, 6, none⟩ = some (.string v6) := HXC6.out.cell e6
  have EV6 := Lib.hid e6
  clear e6
  go_upto_region 8 with (go_at_call 48; refine (HP6.out.lift fun A1 c1 hA => oText_any v6 (HS.out _ _ EV6.out) hA hL6.out).mono ?_; rintro x9 w8 ⟨rfl, hp⟩; rw [outL_t (m := 16) EV6.out o6] at hp; have HQ6 := Lib.hid hp; clear hp)
  obtain ⟨o7, ho6⟩ : ∃ z, outL [.t 6 16] ys o6 = z := ⟨_, rfl⟩
  have HE7 : Hid (outL ((((((([] ++ [.n 0]) ++ [.n 1]) ++ [.n 2]) ++ [.n 3]) ++ [.n 4]) ++ [.n 5]) ++ [.t 6 16]) ys o = o7) := by show _ = _; rw [outL_app, HE6.out]; exact ho6
  rw [ho6] at HQ6
  have HP7 : Hid (OP w1 g A o7 w8) := HQ6
  clear HQ6 HP6 HE6 hL6 HXC6 ho6 x6 EV6
  have HXC7 : Hid (Mem.Bx w8 30 20 gm ys) := HP7.out.box HX1.out HGM.out HGA.out
  have hL7 : Hid (o7.bs.length ≤ 900000000) := by show _ ≤ _; rw [← HE7.out]; exact Nat.le_trans (outL_len HS.out o _) (by have := HBO.out; show _ + 100009 * 7 ≤ _; omega)
  obtain ⟨_, e7, v7, rfl⟩ := HK.out.get (k := 7) (kd := .s) rfl
  have x7 : w8.cell? ⟨gm, 7, none⟩ = some (.string v7) := HXC7.out.cell e7
  have EV7 := Lib.hid e7
  clear e7
  go_upto_region 9 with (go_at_call 48; refine (HP7.out.lift fun A1 c1 hA => oText_any v7 (HS.out _ _ EV7.out) hA hL7.out).mono ?_; rintro x9 w9 ⟨rfl, hp⟩; rw [outL_t (m := 32) EV7.out o7] at hp; have HQ7 := Lib.hid hp; clear hp)
  obtain ⟨o8, ho7⟩ : ∃ z, outL [.t 7 32] ys o7 = z := ⟨_, rfl⟩
  have HE8 : Hid (outL (((((((([] ++ [.n 0]) ++ [.n 1]) ++ [.n 2]) ++ [.n 3]) ++ [.n 4]) ++ [.n 5]) ++ [.t 6 16]) ++ [.t 7 32]) ys o = o8) := by show _ = _; rw [outL_app, HE7.out]; exact ho7
  rw [ho7] at HQ7
  have HP8 : Hid (OP w1 g A o8 w9) := HQ7
  clear HQ7 HP7 HE7 hL7 HXC7 ho7 x7 EV7
  have HXC8 : Hid (Mem.Bx w9 30 20 gm ys) := HP8.out.box HX1.out HGM.out HGA.out
  have hL8 : Hid (o8.bs.length ≤ 1000000000) := by show _ ≤ _; rw [← HE8.out]; exact Nat.le_trans (outL_len HS.out o _) (by have := HBO.out; show _ + 100009 * 8 ≤ _; omega)
  obtain ⟨_, e8, v8, rfl⟩ := HK.out.get (k := 8) (kd := .b) rfl
  have x8 : w9.cell? ⟨gm, 8, none⟩ = some (.bool v8) := HXC8.out.cell e8
  have EV8 := Lib.hid e8
  clear e8
  go_upto_region 10 with (go_at_call 49; refine (HP8.out.lift fun A1 c1 hA => oTruth_any v8 hA hL8.out).mono ?_; rintro x9 w10 ⟨rfl, hp⟩; rw [outL_b EV8.out o8] at hp; have HQ8 := Lib.hid hp; clear hp)
  obtain ⟨o9, ho8⟩ : ∃ z, outL [.b 8] ys o8 = z := ⟨_, rfl⟩
  have HE9 : Hid (outL ((((((((([] ++ [.n 0]) ++ [.n 1]) ++ [.n 2]) ++ [.n 3]) ++ [.n 4]) ++ [.n 5]) ++ [.t 6 16]) ++ [.t 7 32]) ++ [.b 8]) ys o = o9) := by show _ = _; rw [outL_app, HE8.out]; exact ho8
  rw [ho8] at HQ8
  have HP9 : Hid (OP w1 g A o9 w10) := HQ8
  clear HQ8 HP8 HE8 hL8 HXC8 ho8 x8 EV8
  have HXC9 : Hid (Mem.Bx w10 30 20 gm ys) := HP9.out.box HX1.out HGM.out HGA.out
  have hL9 : Hid (o9.bs.length ≤ 890000000) := by show _ ≤ _; rw [← HE9.out]; exact Nat.le_trans (outL_len HS.out o _) (by have := HBO.out; show _ + 100009 * 9 ≤ _; omega)
  obtain ⟨zs9, hzs9⟩ : ∃ z, (ys.drop 9).take 9 = z := ⟨_, rfl⟩
  have HS9 : Hid (Cells.Ok [.i, .i, .i, .i, .i, .i, .i, .i, .i] zs9) := by show Cells.Ok _ _; rw [← hzs9]; exact Cells.Ok.part HK.out 9 9
  have hl9 : Hid (zs9.length = 9) := HS9.out.len
  have hc9 : Hid (∀ j u, zs9[j]? = some u → w10.cell? ⟨gm, 9 + j, none⟩ = some u) := by rw [← hzs9]; exact bx_part HXC9.out 9 9
  have hm9 : Hid (Sm zs9) := by show Sm _; rw [← hzs9]; exact sm_part HS.out 9 9
  have HZ9 := Lib.hid hzs9
  clear hzs9
  go_upto_region 11 with (first | ((with_reducible refine Mem.load_agg _ _ vec_agg9 gm 9 zs9 ?hx9 hl9.out hc9.out ?_); case hx9 => exact rfl) | (go_at_call 50; refine (HP9.out.lift fun A1 c1 hA => oVec_any HS9.out hm9.out hA hL9.out).mono ?_; rintro x9 w11 ⟨rfl, hp⟩; rw [← HZ9.out, ← outL_sh (off := 9) (n := 9) o9 (by decide +kernel)] at hp; have HQ9 : Hid (OP w1 g A (outL (ns 9 9) ys o9) w11) := hp; clear hp))
  obtain ⟨o10, ho9⟩ : ∃ z, outL (ns 9 9) ys o9 = z := ⟨_, rfl⟩
  have HE10 : Hid (outL (((((((((([] ++ [.n 0]) ++ [.n 1]) ++ [.n 2]) ++ [.n 3]) ++ [.n 4]) ++ [.n 5]) ++ [.t 6 16]) ++ [.t 7 32]) ++ [.b 8]) ++ (ns 9 9)) ys o = o10) := by show _ = _; rw [outL_app, HE9.out]; exact ho9
  rw [ho9] at HQ9
  have HP10 : Hid (OP w1 g A o10 w11) := HQ9
  clear HQ9 HP9 HE9 hL9 HXC9 ho9 HS9 hl9 hc9 hm9 HZ9
  have HXC10 : Hid (Mem.Bx w11 30 20 gm ys) := HP10.out.box HX1.out HGM.out HGA.out
  have hL10 : Hid (o10.bs.length ≤ 1000000000) := by show _ ≤ _; rw [← HE10.out]; exact Nat.le_trans (outL_len HS.out o _) (by have := HBO.out; show _ + 100009 * 18 ≤ _; omega)
  obtain ⟨_, e10, v10, rfl⟩ := HK.out.get (k := 18) (kd := .i) rfl
  have x10 : w11.cell? ⟨gm, 18, none⟩ = some (.int .i64 v10) := HXC10.out.cell e10
  have EV10 := Lib.hid e10
  clear e10
  go_upto_region 12 with (go_at_call 27; refine (HP10.out.lift fun A1 c1 hA => oNumber_any v10 hA hL10.out).mono ?_; rintro x9 w12 ⟨rfl, hp⟩; rw [outL_n EV10.out o10] at hp; have HQ10 := Lib.hid hp; clear hp)
  obtain ⟨o11, ho10⟩ : ∃ z, outL [.n 18] ys o10 = z := ⟨_, rfl⟩
  have HE11 : Hid (outL ((((((((((([] ++ [.n 0]) ++ [.n 1]) ++ [.n 2]) ++ [.n 3]) ++ [.n 4]) ++ [.n 5]) ++ [.t 6 16]) ++ [.t 7 32]) ++ [.b 8]) ++ (ns 9 9)) ++ [.n 18]) ys o = o11) := by show _ = _; rw [outL_app, HE10.out]; exact ho10
  rw [ho10] at HQ10
  have HP11 : Hid (OP w1 g A o11 w12) := HQ10
  clear HQ10 HP10 HE10 hL10 HXC10 ho10 x10 EV10
  have HXC11 : Hid (Mem.Bx w12 30 20 gm ys) := HP11.out.box HX1.out HGM.out HGA.out
  have hL11 : Hid (o11.bs.length ≤ 1000000000) := by show _ ≤ _; rw [← HE11.out]; exact Nat.le_trans (outL_len HS.out o _) (by have := HBO.out; show _ + 100009 * 19 ≤ _; omega)
  obtain ⟨_, e11, v11, rfl⟩ := HK.out.get (k := 19) (kd := .i) rfl
  have x11 : w12.cell? ⟨gm, 19, none⟩ = some (.int .i64 v11) := HXC11.out.cell e11
  have EV11 := Lib.hid e11
  clear e11
  go_wp2_with (go_at_call 27; refine (HP11.out.lift fun A1 c1 hA => oNumber_any v11 hA hL11.out).mono ?_; rintro x9 w13 ⟨rfl, hp⟩; rw [outL_n EV11.out o11] at hp; have HQ11 := Lib.hid hp; clear hp)
  obtain ⟨o12, ho11⟩ : ∃ z, outL [.n 19] ys o11 = z := ⟨_, rfl⟩
  have HE12 : Hid (outL (((((((((((([] ++ [.n 0]) ++ [.n 1]) ++ [.n 2]) ++ [.n 3]) ++ [.n 4]) ++ [.n 5]) ++ [.t 6 16]) ++ [.t 7 32]) ++ [.b 8]) ++ (ns 9 9)) ++ [.n 18]) ++ [.n 19]) ys o = o12) := by show _ = _; rw [outL_app, HE11.out]; exact ho11
  rw [ho11] at HQ11
  have HP12 : Hid (OP w1 g A o12 w13) := HQ11
  clear HQ11 HP11 HE11 hL11 HXC11 ho11 x11 EV11
  first | go_end0 | ((try simp only [Exit.inBlock, Exit.then]); refine bodyPost_ret (results_none rfl _ _ _) rfl ?_)
  refine ⟨rfl, ?_⟩
  have he := HE12.out
  have hq : outL (writeM 0) ys o = o12 := he
  rw [hq]
  exact OP.base HB.out HP12.out
end Go.Proofs.Ytkfgedgjpgehoaa
