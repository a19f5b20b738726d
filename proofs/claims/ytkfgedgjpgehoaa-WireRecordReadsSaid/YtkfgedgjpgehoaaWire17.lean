/- The walk of record, both ways. -/
import Derived.Test.YtkfgedgjpgehoaaWire15
import Derived.Deep.DeepCutAuto
import Derived.Deep.CutBlock
import Derived.Test.YtkfgedgjpgehoaaBin
namespace Go.Proofs.Ytkfgedgjpgehoaa
open Go.ChangeShapes Go.WideShapes Go.ChangeAt Go.RowKit
set_option linter.unusedVariables false
set_option linter.unusedSimpArgs false
namespace Wi
def recK : List Cells.Kd := [.i] ++ entryK ++ chainKd ++ [.i]
def recB (r : Cd × List Value) : Cd × List Value := match r.2[0]? with
  | some (Value.int .i64 k) => if k = 1 then runM (writeM 1) r else if k = 2 then runM (chainM 21 ++ [.n 34]) r else if k = 3 then r else ({ r.1 with arg := true }, r.2)
  | _ => r
def z0 : Value := .int .i64 0
def entZ : List Value := [z0, z0, z0, z0, z0, z0, .string ⟨#[]⟩, .string ⟨#[]⟩, .bool false, z0, z0, z0, z0, z0, z0, z0, z0, z0, z0, z0]
def chZ : List Value := [z0, z0, z0, z0, z0, z0, z0, z0, z0, z0, .bool false, z0, z0]
def bareL (zs : List Value) : List Value := match zs[0]? with
  | some (Value.int .i64 k) => [.int .i64 k] ++ (if k = 1 then (zs.drop 1).take 20 else entZ) ++ (if k = 2 then (zs.drop 21).take 13 else chZ) ++ (if k = 2 then (zs.drop 34).take 1 else [z0])
  | _ => zs
def recF (r : Cd × List Value) : Cd × List Value :=
  ({ (recB (stepN r 0)).1 with arg := (recB (stepN r 0)).1.arg || !Cells.eqL (bareL (recB (stepN r 0)).2) (recB (stepN r 0)).2 }, (recB (stepN r 0)).2)
theorem recB_1 {r : Cd × List Value} (h : r.2[0]? = some (Value.int .i64 1)) : recB r = runM (writeM 1) r := by unfold recB; rw [h]; simp
theorem recB_2 {r : Cd × List Value} (h : r.2[0]? = some (Value.int .i64 2)) : recB r = stepN (chainK r 21) 34 := by unfold recB; rw [h]; simp only [if_pos]; rw [if_neg (by decide), runM_app, runM_chain, runM_n]
theorem recB_3 {r : Cd × List Value} (h : r.2[0]? = some (Value.int .i64 3)) : recB r = r := by unfold recB; rw [h]; simp
theorem recB_x {r : Cd × List Value} {k : Int} (h : r.2[0]? = some (Value.int .i64 k)) (h1 : k ≠ 1) (h2 : k ≠ 2) (h3 : k ≠ 3) : recB r = ({ r.1 with arg := true }, r.2) := by unfold recB; rw [h]; simp [h1, h2, h3]
theorem bareL_1 {zs : List Value} (h : zs[0]? = some (Value.int .i64 1)) : bareL zs = [.int .i64 1] ++ (zs.drop 1).take 20 ++ chZ ++ [z0] := by unfold bareL; rw [h]; simp
theorem bareL_2 {zs : List Value} (h : zs[0]? = some (Value.int .i64 2)) : bareL zs = [.int .i64 2] ++ entZ ++ (zs.drop 21).take 13 ++ (zs.drop 34).take 1 := by unfold bareL; rw [h]; simp
theorem bareL_x {zs : List Value} {k : Int} (h : zs[0]? = some (Value.int .i64 k)) (h1 : k ≠ 1) (h2 : k ≠ 2) : bareL zs = [.int .i64 k] ++ entZ ++ chZ ++ [z0] := by unfold bareL; rw [h]; simp [h1, h2]
theorem stepM_get {r : Cd × List Value} {j : Nat} {op : Mo} (h : match op with | .n k => k ≠ j | .b k => k ≠ j | .t k _ => k ≠ j | .k _ _ _ => True) : (stepM r op).2[j]? = r.2[j]? := by
  cases op with
  | n k =>
    show (stepN r k).2[j]? = _
    unfold stepN
    split
    · exact List.getElem?_set_ne h
    · rfl
  | b k =>
    show (stepB r k).2[j]? = _
    unfold stepB
    split
    · exact List.getElem?_set_ne h
    · rfl
  | t k m =>
    show (stepTx r k m).2[j]? = _
    unfold stepTx
    split
    · split
      · exact List.getElem?_set_ne h
      · rfl
    · rfl
  | k k lo hi =>
    show (stepK r k lo hi).2[j]? = _
    unfold stepK
    split <;> rfl
def far (j : Nat) : Mo → Bool
  | .n k => k != j
  | .b k => k != j
  | .t k _ => k != j
  | .k _ _ _ => true
theorem runM_get (j : Nat) : ∀ (ops : List Mo) (r : Cd × List Value), ops.all (far j) = true → (runM ops r).2[j]? = r.2[j]?
  | [], r, _ => rfl
  | op :: ops, r, h => by
    simp only [List.all_cons, Bool.and_eq_true] at h
    refine (runM_get j ops (stepM r op) h.2).trans (stepM_get ?_)
    have h1 := h.1
    cases op <;> simp_all [far]
theorem ents_ok : Cells.Ok entryK entZ := by simp [entryK, entZ, z0, Cells.Ok, Cells.ok]
theorem ch_ok : Cells.Ok chainKd chZ := by simp [chainKd, chZ, z0, Cells.Ok, Cells.ok]
theorem bareL_ok {zs : List Value} (h : Cells.Ok recK zs) : Cells.Ok recK (bareL zs) := by
  unfold bareL
  split
  · rename_i k hk
    have h0 := h
    unfold recK at h ⊢
    obtain ⟨a1, a2⟩ := h.split
    obtain ⟨b1, b2⟩ := a1.split
    obtain ⟨c1, c2⟩ := b1.split
    have e1 : ((List.take ([Cells.Kd.i] ++ entryK).length (List.take ([Cells.Kd.i] ++ entryK ++ chainKd).length zs)).drop [Cells.Kd.i].length) = (zs.drop 1).take 20 := by
      rw [List.take_take, List.drop_take]; rfl
    have e2 : ((List.take ([Cells.Kd.i] ++ entryK ++ chainKd).length zs).drop ([Cells.Kd.i] ++ entryK).length) = (zs.drop 21).take 13 := by
      rw [List.drop_take]; rfl
    have e3 : zs.drop ([Cells.Kd.i] ++ entryK ++ chainKd).length = zs.drop 34 := rfl
    rw [e1] at c2
    rw [e2] at b2
    rw [e3] at a2
    have hl := h0.len
    have a3 : Cells.Ok [Cells.Kd.i] ((zs.drop 34).take 1) := by rw [List.take_of_length_le (by rw [List.length_drop, hl]; decide)]; exact a2
    have k1 : Cells.Ok [Cells.Kd.i] [Value.int .i64 k] := ⟨⟨k, rfl⟩, trivial⟩
    have k2 : Cells.Ok [Cells.Kd.i] [z0] := ⟨⟨0, rfl⟩, trivial⟩
    refine Cells.Ok.app (Cells.Ok.app (k1.app ?_) ?_) ?_
    · split
      · exact c2
      · exact ents_ok
    · split
      · exact b2
      · exact ch_ok
    · split
      · exact a3
      · exact k2
  · exact h
theorem okL_one : ∀ {ks : List Cells.Kd} {xs : List Value}, Cells.Ok ks xs → ∀ y ∈ xs, y.oneCell' = true
  | [], [], _, y, hy => by simp at hy
  | k :: ks, x :: xs, h, y, hy => by
    rcases List.mem_cons.1 hy with rfl | hy
    · have h1 := h.1
      cases k
      · obtain ⟨_, rfl⟩ := h1; rfl
      · obtain ⟨_, rfl⟩ := h1; rfl
      · obtain ⟨_, rfl⟩ := h1; rfl
    · exact okL_one h.2 y hy
theorem runM_ok {ks : List Cells.Kd} : ∀ (ops : List Mo) {r : Cd × List Value}, Cells.Ok ks r.2 → Cells.Ok ks (runM ops r).2
  | [], r, h => h
  | op :: ops, r, h => runM_ok ops (r := stepM r op) (stepM_ok h op)
theorem runM_okE {ks : List Cells.Kd} {ops : List Mo} {r r1 : Cd × List Value} (h : r1 = runM ops r) (hk : Cells.Ok ks r.2) : Cells.Ok ks r1.2 := by subst h; exact runM_ok ops hk
theorem runM_getE {ops : List Mo} {r r1 : Cd × List Value} (h : r1 = runM ops r) (j : Nat) (ha : ops.all (far j) = true) : r1.2[j]? = r.2[j]? := by subst h; exact runM_get j ops r ha
structure RcRel (w1 : World) (g : Nat) (A : Option Addr) (t : TypeId) (gm gb : Nat) (r1 : Cd × List Value) (wx : World) : Prop where
  out : ∃ (A2 : Option Addr) (cap2 : Nat) (k : Int) (zs : List Value), CAt wx g A2 cap2 r1.1 ∧ Mem.Bx wx t 35 gm r1.2 ∧ Mem.Keeps (fun q => ((q = g ∨ Mem.blk A = some q) ∨ q = gm) ∨ q = gb) w1 wx ∧ (∀ q, Mem.blk A2 = some q → Mem.blk A = some q ∨ w1.heap.size ≤ q) ∧ Mem.Bx wx t 35 gb zs ∧ r1.2[0]? = some (.int .i64 k) ∧ zs.set 0 (.int .i64 k) = bareL r1.2
  rd : r1.1.reads = true → Mem.Keeps (fun q => (q = g ∨ q = gm) ∨ q = gb) w1 wx
theorem recB_ok {ks : List Cells.Kd} {r : Cd × List Value} (h : Cells.Ok ks r.2) : Cells.Ok ks (recB r).2 := by
  unfold recB
  split
  · split
    · exact runM_ok _ h
    · split
      · exact runM_ok _ h
      · split <;> exact h
  · exact h
def recZ (k : Int) : List Value := [.int .i64 k] ++ entZ ++ chZ ++ [z0]
end Wi
theorem record_agg : Mem.Agg Try.prog 37 35 := Mem.agg_of Try.underlying37 rfl (by kernel_rfl)
theorem wentry_agg : Mem.Agg Try.prog 30 20 := Mem.agg_of Try.underlying30 rfl (by kernel_rfl)
theorem wconfig_agg : Mem.Agg Try.prog 35 13 := Mem.agg_of Try.underlying35 rfl (by kernel_rfl)
theorem recK_eq : Cells.EqT Try.prog 37 9 true Wi.recK := Cells.chk_ok 9 _ _ _ (by kernel_rfl)
@[go_sem] theorem build_rec (k : Int) (w : World) : (Instr.build 37 #[(0, .int .i64 k)]).run Try.prog w = .ok (.agg (Wi.recZ k).toArray) w := run_build w _ _ _ (by kernel_rfl)
theorem recZ_one (k : Int) : ∀ y ∈ Wi.recZ k, y.oneCell' = true := by simp [Wi.recZ, Wi.entZ, Wi.chZ, Wi.z0, Value.oneCell']
theorem box_1 (k : Int) (ex : List Value) (v : Value) : (List.take 1 (Wi.recZ k) ++ ex ++ List.drop (1 + 20) (Wi.recZ k)).set 0 v = [v] ++ ex ++ Wi.chZ ++ [Wi.z0] := by simp [Wi.recZ, Wi.entZ, Wi.chZ]
theorem box_2 (k : Int) (ex : List Value) (h : ex.length = 13) (b v : Value) : ((List.take 21 (Wi.recZ k) ++ ex ++ List.drop (21 + 13) (Wi.recZ k)).set 34 b).set 0 v = [v] ++ Wi.entZ ++ ex ++ [b] := by
  have h1 : (List.take 21 (Wi.recZ k) ++ ex).length = 34 := by simp [Wi.recZ, Wi.entZ, Wi.chZ, h]
  have h2 : List.drop (21 + 13) (Wi.recZ k) = [Wi.z0] := by simp [Wi.recZ, Wi.entZ, Wi.chZ]
  rw [h2, List.set_append_right _ _ (by omega), h1]
  simp [Wi.recZ, Wi.entZ]
theorem box_3 (k : Int) (v : Value) : (Wi.recZ k).set 0 v = [v] ++ Wi.entZ ++ Wi.chZ ++ [Wi.z0] := by simp [Wi.recZ]
theorem recZ_34 (k : Int) : 21 + 13 ≤ (Wi.recZ k).length := by simp [Wi.recZ, Wi.entZ, Wi.chZ]
theorem recZ_21 (k : Int) : 1 + 20 ≤ (Wi.recZ k).length := by simp [Wi.recZ, Wi.entZ, Wi.chZ]
open Wi in
set_option maxRecDepth 100000 in
set_option maxHeartbeats 4000000 in
theorem record_pass {w : World} {g : Nat} {A : Option Addr} {cap : Nat} {gm : Nat} {r : Wi.Cd × List Value} {L : Nat} (h : Wi.CAt w g A cap r.1) (hz : Mem.Bx w 37 35 gm r.2) (hs : Wi.Sz Wi.recK r L) (hL : L + 8000000 ≤ 1000000000) (hg : gm ≠ g) (ha : Mem.blk A ≠ some gm) :
    Calls Try.prog 25 #[.pointer (some ⟨g, 0, none⟩), .pointer (some ⟨gm, 0, none⟩)] w fun x w' => x = .returned (.tuple #[]) ∧ Wi.Pass w g A 37 35 gm (Wi.recF r) w' := by
  have HC := Lib.hid h
  have HZ := Lib.hid hz
  have HA := Lib.hid ha
  obtain ⟨kb, hkb⟩ := hs.int (k := 0) rfl
  have z1 := hz.cell hkb
  have hgm := hz.lt
  have hgl := h.B.lt
  have HAl := Lib.hid h.lt
  have HKB := Lib.hid hkb
  clear h hz ha hkb
  go_enter Try.func25, Try.ntmps25
  go_upto_region 1 with ((with_reducible refine Mem.store_agg _ _ record_agg w.heap.size (recZ 0) (recZ kb) ?hx ?hy ?hb rfl (recZ_one kb) ?_); (case hx => exact rfl); (case hy => exact rfl); (case hb => exact Mem.Bx.new w 37 (recZ 0).toArray rfl rfl); intro w1 hb1 hk1 hs1)
  obtain ⟨gb, hgb⟩ : ∃ gb, w.heap.size = gb := ⟨_, rfl⟩
  rw [hgb] at hb1 hk1 hgm hgl ⊢
  have hk01 : Mem.Keeps (fun k => k = gb) w w1 := (((Mem.Keeps.refl (fun _ => False) w).alloc _).mono (fun _ h _ => h.elim)).trans hk1 (fun _ h _ => h)
  have HGB := Lib.hid hgb
  have HC1 : Hid (CAt w1 g A cap r.1) := HC.out.keeps hk01 (fun q hq h => by rcases hq with hq | hq; (have := hq.symm.trans h; omega); (have := HAl.out q hq; omega))
  have HZ1 : Hid (Mem.Bx w1 37 35 gm r.2) := HZ.out.keeps hk01 (by omega)
  have HB1 := Lib.hid hb1
  have HK1 := Lib.hid hk01
  have HAgb : Hid (Mem.blk A ≠ some gb) := fun h => by have := HAl.out gb h; omega
  have hw1 := hk01.size
  have hgmw : gm < w1.heap.size := by omega
  have hgbw := hb1.lt
  clear hk1 hb1 hk01 z1 hgb hs1
  have H0 := Lib.hid (number_pass (t := 37) (n := 35) (gm := gm) (r := r) (k := 0) HC1.out hs.fit (by omega) HZ1.out (hs.int rfl) hg HA.out)
  have s0 := hs.step (.n 0)
  rw [stepM_n] at s0
  obtain ⟨r0, hr0⟩ : ∃ r0 : Cd × List Value, stepN r 0 = r0 := ⟨_, rfl⟩
  rw [hr0] at s0 H0
  have HS0 := Lib.hid s0
  have HR0 := Lib.hid hr0
  obtain ⟨k, hk⟩ := s0.int (k := 0) rfl
  have HKK := Lib.hid hk
  clear hs s0 hr0 hk HC1 HZ1
  go_upto_region 2 with (go_at_call 45; refine H0.out.mono ?_; rintro x9 w2 ⟨rfl, hp⟩; have HP0 := Lib.hid hp; clear hp H0)
  have HBK := Lib.hid (fun (wz : World) (r' : Cd × List Value) (hp : Pass w1 g A 37 35 gm r' wz) => (by
    obtain ⟨A2, cap2, p1, p2, p3, p4⟩ := hp.out
    exact HB1.out.keeps p3 (fun h => by rcases h with (h | h) | h; (exact absurd h (by omega)); (exact HAgb.out h); (exact absurd h (by omega))) : Mem.Bx wz 37 35 gb (recZ kb)))
  obtain ⟨r1, hr1⟩ : ∃ r1 : Cd × List Value, recB r0 = r1 := ⟨_, rfl⟩
  have HR1 := Lib.hid hr1
  have hgmgb : gm ≠ gb := by omega
  have hggb : g ≠ gb := by omega
  clear hr1 HC HZ
  obtain ⟨A2, cap2, h1, h2, h3, h4⟩ := HP0.out.out
  have y1 := h2.cell HKK.out
  clear h1 h2 h3 h4
  go_upto_block 0 with fail
  go_cut [] (fun wx => RcRel w1 g A 37 gm gb r1 wx)
  case first =>
    by_cases k1 : k = 1
    · subst k1
      have HK1' : Hid (r0.2[0]? = some (Value.int .i64 1)) := HKK
      have hr1 : r1 = runM (writeM 1) r0 := HR1.out.symm.trans (recB_1 HKK.out)
      have HW := Lib.hid (write_passM (off := 1) HP0.out HS0.out (by omega) (by unfold At; decide) hg HA.out hgmw)
      rw [← hr1] at HW
      have hok := runM_okE hr1 HS0.out.ok
      have hk1 : r1.2[0]? = some (Value.int .i64 1) := (runM_getE hr1 0 (by decide)).trans HKK.out
      have hlr := Lib.hid hok.len
      have HOK := Lib.hid hok
      have HK1'' := Lib.hid hk1
      clear hr1 hok hk1 y1 HK1'
      go_upto_region 6 with (go_at_call 46; refine HW.out.mono ?_; rintro x9 w3 ⟨rfl, hp⟩; have HP1 := Lib.hid hp; clear hp HW)
      obtain ⟨A3, cap3, p1, p2, p3, p4⟩ := HP1.out.out
      have HBz := Lib.hid (HBK.out w3 r1 HP1.out)
      have HC3 := Lib.hid p1
      have HZ3 := Lib.hid p2
      have HK3 := Lib.hid p3
      have HA3 := Lib.hid p4
      obtain ⟨ex, hex⟩ : ∃ ex, (r1.2.drop 1).take 20 = ex := ⟨_, rfl⟩
      have HEX := Lib.hid hex
      have hxl : Hid (ex.length = 20) := by show _ = _; rw [← hex, List.length_take, List.length_drop, hlr.out]; decide
      have hx1 : Hid (∀ y ∈ ex, y.oneCell' = true) := fun y hy => okL_one HOK.out y (by rw [← hex] at hy; exact List.drop_subset _ _ (List.take_subset _ _ hy))
      clear hex
      have HPR := Lib.hid HP1.out.rd
      clear p1 p2 p3 p4 HP1
      go_wp2_with (first | ((with_reducible refine Mem.load_agg _ _ wentry_agg gm 1 ex ?hxa hxl.out (HZ3.out.part 1 (by rw [hxl.out]; exact HEX.out.symm)) ?_); case hxa => exact rfl) | ((with_reducible refine Mem.store_part _ _ wentry_agg 37 35 gb 1 (recZ kb) ex ?hxb ?hyb HBz.out hxl.out (by rw [hxl.out]; exact recZ_21 kb) hx1.out ?_); (case hxb => exact rfl); (case hyb => exact rfl); intro w4 hb4 hk4 hs4))
      have HRL : Hid (RcRel w1 g A 37 gm gb r1 w4) := ⟨⟨A3, cap3, 1, _, HC3.out.keeps hk4 (fun q hq h => by rcases hq with hq | hq; (exact hggb (hq.symm.trans h)); (rcases HA3.out q hq with h9 | h9; (exact HAgb.out (h ▸ h9)); omega)), HZ3.out.keeps hk4 hgmgb, (HK3.out.mono (fun _ h _ => .inl h)).trans hk4 (fun q h _ => .inr h), HA3.out, hb4, HK1''.out, by rw [bareL_1 HK1''.out, HEX.out, hxl.out]; exact box_1 kb ex _⟩, fun hr => ((HPR.out hr).mono (fun _ h _ => .inl h)).trans hk4 (fun q h _ => .inr h)⟩
      clear hb4 hk4 hs4 HC3 HZ3 HK3 HA3
      go_meet
      case rel => exact HRL.out
    · by_cases k2 : k = 2
      · subst k2
        have hr1 : r1 = stepN (chainK r0 21) 34 := HR1.out.symm.trans (recB_2 HKK.out)
        have HW := Lib.hid (chain_pass (off := 21) HP0.out HS0.out.fit (by omega) (HS0.out.chain (by unfold At; decide)) hg HA.out hgmw)
        have sc := HS0.out.runN (chainM 21) 1300117 (by rw [chainM_len]; omega)
        have hrc0 : chainK r0 21 = runM (chainM 21) r0 := (runM_chain r0 21).symm
        obtain ⟨rc, hrc⟩ : ∃ rc, chainK r0 21 = rc := ⟨_, rfl⟩
        rw [hrc] at hrc0 HW hr1
        rw [← hrc0] at sc
        have HW2 := Lib.hid (fun (wz : World) (hz : Pass w1 g A 37 35 gm rc wz) => Pass.number (k := 34) hz sc.fit (by omega) (sc.int rfl) hg HA.out hgmw)
        rw [← hr1] at HW2
        have hok := runM_okE (ops := [.n 34]) hr1 sc.ok
        have hk1 : r1.2[0]? = some (Value.int .i64 2) := (runM_getE (ops := [.n 34]) hr1 0 (by decide)).trans ((runM_getE hrc0 0 (by decide)).trans HKK.out)
        have hlr := Lib.hid hok.len
        have HOK := Lib.hid hok
        have HK1'' := Lib.hid hk1
        obtain ⟨vb, hvb, kv, rfl⟩ := hok.get (k := 34) (kd := .i) rfl
        have HVB := Lib.hid hvb
        clear hr1 hok hk1 y1 sc hrc0 hrc hvb k1
        go_upto_region 9 with (go_at_call 47; refine HW.out.mono ?_; rintro x9 w3 ⟨rfl, hp⟩; have HPc := Lib.hid hp; clear hp HW)
        go_upto_region 10 with (go_at_call 45; refine (HW2.out w3 HPc.out).mono ?_; rintro x9 w4 ⟨rfl, hp⟩; have HP1 := Lib.hid hp; clear hp HW2)
        obtain ⟨A3, cap3, p1, p2, p3, p4⟩ := HP1.out.out
        have HBz := Lib.hid (HBK.out w4 r1 HP1.out)
        have HC3 := Lib.hid p1
        have HZ3 := Lib.hid p2
        have HK3 := Lib.hid p3
        have HA3 := Lib.hid p4
        obtain ⟨ex, hex⟩ : ∃ ex, (r1.2.drop 21).take 13 = ex := ⟨_, rfl⟩
        have HEX := Lib.hid hex
        have hxl : Hid (ex.length = 13) := by show _ = _; rw [← hex, List.length_take, List.length_drop, hlr.out]; decide
        have hx1 : Hid (∀ y ∈ ex, y.oneCell' = true) := fun y hy => okL_one HOK.out y (by rw [← hex] at hy; exact List.drop_subset _ _ (List.take_subset _ _ hy))
        have HPR := Lib.hid HP1.out.rd
        clear hex p1 p2 p3 p4 HP1 HPc
        refine Reg.wp_region_w (by kernel_rfl) 77 12 rfl rfl (by kernel_rfl) (9) (fun y => y = gb) (11) (fun y => y = gb) (9) (fun _ => False)
          (fun i v u => match i with
            | 0 => v = .pointer (some ⟨gm, 0, none⟩)
            | 1 => v = .pointer (some ⟨gm, 0, none⟩)
            | 2 => v = .pointer (some ⟨gm, 21, none⟩)
            | 3 => v = .agg ex.toArray
            | 4 => v = .pointer (some ⟨gm, 0, none⟩)
            | 5 => v = .pointer (some ⟨gm, 0, none⟩)
            | 6 => v = .pointer (some ⟨gm, 34, none⟩)
            | 7 => v = .int .i64 kv
            | 8 => v = .pointer (some ⟨gb, 21, none⟩)
            | 9 => Mem.Bx u 37 35 gb (List.take 21 (recZ kb) ++ ex ++ List.drop (21 + 13) (recZ kb))
            | 10 => v = .pointer (some ⟨gb, 34, none⟩)
            | 11 => Mem.Bx u 37 35 gb ((List.take 21 (recZ kb) ++ ex ++ List.drop (21 + 13) (recZ kb)).set 34 (.int .i64 kv))
            | _ => True) ?_ ?_
        · refine Reg.Steps.cons ?_ (Reg.Steps.cons ?_ (Reg.Steps.cons ?_ (Reg.Steps.cons ?_ (Reg.Steps.cons ?_ (Reg.Steps.cons ?_ (Reg.Steps.cons ?_ (Reg.Steps.cons ?_ (Reg.Steps.cons ?_ (Reg.Steps.cons ?_ (Reg.Steps.cons ?_ (Reg.Steps.cons ?_ (Reg.Steps.nil _))))))))))))
          · intro val ac u hR hp ha K hK      -- 0: t46 := Op.move t1
            have e1 : (ac.tmps[1]?).getD undef = .pointer (some ⟨gm, 0, none⟩) := ha 1 (by decide)
            clear ha hp
            refine Reg.Op1.plain rfl ?_
            go_wp2
            exact ⟨rfl, hK _ _ rfl (Reg.Wr.same _)⟩
          · intro val ac u hR hp ha K hK      -- 1: t47 := Op.nilCheck t46
            obtain ⟨w46, h46, r46⟩ := hp 0 (by decide)
            have e46 : (ac.tmps[46]?).getD undef = .pointer (some ⟨gm, 0, none⟩) := (ha 46 (by decide)).trans h46
            clear h46
            clear ha hp
            refine Reg.Op1.plain rfl ?_
            go_wp2
            exact ⟨rfl, hK _ _ rfl (Reg.Wr.same _)⟩
          · intro val ac u hR hp ha K hK      -- 2: t48 := Op.fieldAddr 37 t47 2
            obtain ⟨w47, h47, r47⟩ := hp 1 (by decide)
            have e47 : (ac.tmps[47]?).getD undef = .pointer (some ⟨gm, 0, none⟩) := (ha 47 (by decide)).trans h47
            clear h47
            clear ha hp
            refine Reg.Op1.plain rfl ?_
            go_wp2
            exact ⟨rfl, hK _ _ rfl (Reg.Wr.same _)⟩
          · intro val ac u hR hp ha K hK      -- 3: t49 := Op.load 35 t48
            obtain ⟨w48, h48, r48⟩ := hp 2 (by decide)
            have e48 : (ac.tmps[48]?).getD undef = .pointer (some ⟨gm, 21, none⟩) := (ha 48 (by decide)).trans h48
            clear h48
            clear ha hp
            refine Reg.Op1.plain rfl ?_
            have hq := (Mem.Keeps.refl (fun y => y = gb ∨ y = gb ∨ False) w4).drew.trans (Reg.Wr.all hR) (fun _ h _ => h)
            have hzz := HZ3.out.keeps hq (fun h => h.elim hgmgb (fun h => h.elim hgmgb id))
            refine Mem.load_agg _ _ wconfig_agg gm 21 ex (Reg.eval_of e48) hxl.out (hzz.part 21 (by rw [hxl.out]; exact HEX.out.symm)) ?_
            exact ⟨rfl, hK _ _ rfl (Reg.Wr.same _)⟩
          · intro val ac u hR hp ha K hK      -- 4: t50 := Op.move t1
            have e1 : (ac.tmps[1]?).getD undef = .pointer (some ⟨gm, 0, none⟩) := ha 1 (by decide)
            clear ha hp
            refine Reg.Op1.plain rfl ?_
            go_wp2
            exact ⟨rfl, hK _ _ rfl (Reg.Wr.same _)⟩
          · intro val ac u hR hp ha K hK      -- 5: t51 := Op.nilCheck t50
            obtain ⟨w50, h50, r50⟩ := hp 4 (by decide)
            have e50 : (ac.tmps[50]?).getD undef = .pointer (some ⟨gm, 0, none⟩) := (ha 50 (by decide)).trans h50
            clear h50
            clear ha hp
            refine Reg.Op1.plain rfl ?_
            go_wp2
            exact ⟨rfl, hK _ _ rfl (Reg.Wr.same _)⟩
          · intro val ac u hR hp ha K hK      -- 6: t52 := Op.fieldAddr 37 t51 3
            obtain ⟨w51, h51, r51⟩ := hp 5 (by decide)
            have e51 : (ac.tmps[51]?).getD undef = .pointer (some ⟨gm, 0, none⟩) := (ha 51 (by decide)).trans h51
            clear h51
            clear ha hp
            refine Reg.Op1.plain rfl ?_
            go_wp2
            exact ⟨rfl, hK _ _ rfl (Reg.Wr.same _)⟩
          · intro val ac u hR hp ha K hK      -- 7: t53 := Op.load 3 t52
            obtain ⟨w52, h52, r52⟩ := hp 6 (by decide)
            have e52 : (ac.tmps[52]?).getD undef = .pointer (some ⟨gm, 34, none⟩) := (ha 52 (by decide)).trans h52
            clear h52
            clear ha hp
            refine Reg.Op1.plain rfl ?_
            have hq := (Mem.Keeps.refl (fun y => y = gb ∨ y = gb ∨ False) w4).drew.trans (Reg.Wr.all hR) (fun _ h _ => h)
            have hzz := HZ3.out.keeps hq (fun h => h.elim hgmgb (fun h => h.elim hgmgb id))
            have x0 := hzz.cell HVB.out
            go_wp2
            exact ⟨rfl, hK _ _ rfl (Reg.Wr.same _)⟩
          · intro val ac u hR hp ha K hK      -- 8: t54 := Op.fieldAddr 37 t4 2
            have e4 : (ac.tmps[4]?).getD undef = .pointer (some ⟨gb, 0, none⟩) := ha 4 (by decide)
            clear ha hp
            refine Reg.Op1.plain rfl ?_
            go_wp2
            exact ⟨rfl, hK _ _ rfl (Reg.Wr.same _)⟩
          · intro val ac u hR hp ha K hK      -- 9: Op.store 35 t54 t49
            obtain ⟨w54, h54, r54⟩ := hp 8 (by decide)
            have e54 : (ac.tmps[54]?).getD undef = .pointer (some ⟨gb, 21, none⟩) := (ha 54 (by decide)).trans h54
            clear h54
            obtain ⟨w49, h49, r49⟩ := hp 3 (by decide)
            have e49 : (ac.tmps[49]?).getD undef = .agg ex.toArray := (ha 49 (by decide)).trans h49
            clear h49
            clear ha hp
            refine Reg.Op1.plain rfl ?_
            have hq := (Mem.Keeps.refl (fun _ => False) w4).drew.trans (Reg.Wr.none hR (by decide +kernel) (by decide +kernel) (by decide +kernel)) (fun _ h _ => h)
            have hbb := HBz.out.keeps hq id
            refine Mem.store_part _ _ wconfig_agg 37 35 gb 21 (recZ kb) ex (Reg.eval_of e54) (Reg.eval_of e49) hbb hxl.out (by rw [hxl.out]; exact recZ_34 kb) hx1.out ?_
            intro w5 hb5 hk5 hs5
            exact ⟨rfl, hK undef _ (by rw [hxl.out] at hb5; exact hb5) (Reg.Wr.does1 hk5)⟩
          · intro val ac u hR hp ha K hK      -- 10: t55 := Op.fieldAddr 37 t4 3
            have e4 : (ac.tmps[4]?).getD undef = .pointer (some ⟨gb, 0, none⟩) := ha 4 (by decide)
            clear ha hp
            refine Reg.Op1.plain rfl ?_
            go_wp2
            exact ⟨rfl, hK _ _ rfl (Reg.Wr.same _)⟩
          · intro val ac u hR hp ha K hK      -- 11: Op.store 3 t55 t53
            obtain ⟨w55, h55, r55⟩ := hp 10 (by decide)
            have e55 : (ac.tmps[55]?).getD undef = .pointer (some ⟨gb, 34, none⟩) := (ha 55 (by decide)).trans h55
            clear h55
            obtain ⟨w53, h53, r53⟩ := hp 7 (by decide)
            have e53 : (ac.tmps[53]?).getD undef = .int .i64 kv := (ha 53 (by decide)).trans h53
            clear h53
            obtain ⟨w_9, h_9, r_9⟩ := hp 9 (by decide)
            clear ha hp
            refine Reg.Op1.plain rfl ?_
            have hbb := h_9.keeps (Reg.Wr.none r_9 (by decide +kernel) (by decide +kernel) (by decide +kernel)) id
            obtain ⟨ys, hys⟩ : ∃ ys, List.take 21 (recZ kb) ++ ex ++ List.drop (21 + 13) (recZ kb) = ys := ⟨_, rfl⟩
            rw [hys] at hbb
            have hyl := hbb.len
            obtain ⟨v9, hv9⟩ : ∃ v9, ys[34]? = some v9 := ⟨_, List.getElem?_eq_getElem (by omega)⟩
            have x0 := hbb.cell hv9
            have xf := hbb.fr
            have hb2 := hbb.set 34 (.int .i64 kv)
            have hk2 : Mem.Keeps (fun y => y = gb) u (u.setCell ⟨gb, 34, none⟩ (.int .i64 kv)) := (Mem.Keeps.refl (fun y => y = gb) u).setCell (p := ⟨gb, 34, none⟩) (fun _ => rfl) _
            clear hyl hv9 hbb
            go_wp2
            exact ⟨rfl, hK undef _ (by rw [hys]; exact hb2) (Reg.Wr.does2 hk2)⟩
        · intro val u hR H
          obtain ⟨wA, hbA, rA⟩ := H 11 (by decide)
          have hq : Mem.Keeps (fun y => y = gb) w4 u := ((Mem.Keeps.refl (fun y => y = gb ∨ y = gb ∨ False) w4).drew.trans (Reg.Wr.all hR) (fun _ h _ => h)).mono (fun _ h _ => h.elim id (fun h => h.elim id (fun h => h.elim)))
          have hb4 := hbA.keeps (Reg.Wr.none rA (by decide +kernel) (by decide +kernel) (by decide +kernel)) id
          have hl34 : (r1.2.drop 34).take 1 = [Value.int .i64 kv] := by
            obtain ⟨hlt, he⟩ := List.getElem?_eq_some_iff.1 HVB.out
            rw [List.drop_eq_getElem_cons hlt, he]; rfl
          have HRL : Hid (RcRel w1 g A 37 gm gb r1 u) := ⟨⟨A3, cap3, 2, _, HC3.out.keeps hq (fun q hq h => by rcases hq with hq | hq; (exact hggb (hq.symm.trans h)); (rcases HA3.out q hq with h9 | h9; (exact HAgb.out (h ▸ h9)); omega)), HZ3.out.keeps hq hgmgb, (HK3.out.mono (fun _ h _ => .inl h)).trans hq (fun q h _ => .inr h), HA3.out, hb4, HK1''.out, by rw [bareL_2 HK1''.out, HEX.out, hl34]; exact box_2 kb ex hxl.out _ _⟩, fun hr => ((HPR.out hr).mono (fun _ h _ => .inl h)).trans hq (fun q h _ => .inr h)⟩
          simp only [List.map_cons, List.map_nil, Reg.lay, Act.put, List.setIfInBounds_toArray, List.set_cons_succ, List.set_cons_zero, Nat.reduceAdd]
          clear hR H hq hbA rA hb4 hl34 HC3 HZ3 HK3 HA3
          go_wp2
          go_meet
          case rel => exact HRL.out
      · obtain ⟨A3, cap3, p1, p2, p3, p4⟩ := HP0.out.out
        have HBz := Lib.hid (HBK.out w2 r0 HP0.out)
        have K1 := Lib.hid k1
        have K2 := Lib.hid k2
        by_cases k3 : k = 3
        · subst k3
          have HRL : Hid (RcRel w1 g A 37 gm gb r1 w2) := by
            have hr1 : r1 = r0 := HR1.out.symm.trans (recB_3 HKK.out)
            rw [hr1]
            exact ⟨⟨A3, cap3, 3, _, p1, p2, p3.mono (fun _ h _ => .inl h), p4, HBz.out, HKK.out, by rw [bareL_x HKK.out k1 k2]; exact box_3 kb _⟩, fun hr => (HP0.out.rd hr).mono (fun _ h _ => .inl h)⟩
          clear p1 p2 p3 p4 HBz y1 k1 k2
          go_wp2
          go_meet
          case rel => exact HRL.out
        · have hk3 : Mem.Keeps (fun q => q = g) w2 (w2.setCell ⟨g, 4, none⟩ (.bool true)) := (Mem.Keeps.refl (fun q => q = g) w2).setCell (p := ⟨g, 4, none⟩) (fun _ => rfl) _
          have HRL : Hid (RcRel w1 g A 37 gm gb r1 (w2.setCell ⟨g, 4, none⟩ (.bool true))) := by
            have hr1 : r1 = ({ r0.1 with arg := true }, r0.2) := HR1.out.symm.trans (recB_x HKK.out k1 k2 k3)
            rw [hr1]
            exact ⟨⟨A3, cap3, k, _, p1.set (c' := { r0.1 with arg := true }) 4 (.bool true) rfl rfl (by simp [cdCells]), p2.keeps hk3 hg, (p3.trans hk3 (fun q h _ => .inl (.inl h))).mono (fun _ h _ => .inl h), p4, HBz.out.keeps hk3 (fun h => hggb h.symm), HKK.out, by rw [bareL_x HKK.out k1 k2]; exact box_3 kb _⟩, fun hr => ((HP0.out.rd hr).trans hk3 (fun q h _ => .inl h)).mono (fun _ h _ => .inl h)⟩
          have y4 : w2.cell? ⟨g, 4, none⟩ = some (.bool r0.1.arg) := p1.B.cell (j := 4) rfl
          have yf := p1.B.fr
          have d1 : decide (k = 1) = false := by simpa using k1
          have d2 : decide (k = 2) = false := by simpa using k2
          have d3 : decide (k = 3) = false := by simpa using k3
          have d1' : (k == 1) = false := by simpa using k1
          have d2' : (k == 2) = false := by simpa using k2
          have d3' : (k == 3) = false := by simpa using k3
          clear p1 p2 p3 p4 HBz y1 hk3
          go_wp2
          go_meet
          case rel => exact HRL.out
  case rest =>
    obtain ⟨A3, cap3, kk, zs, p1, p2, p3, p4, p5, p6, p7⟩ := hcut.out
    have hok : Cells.Ok recK r1.2 := by rw [← HR1.out]; exact recB_ok HS0.out.ok
    have hrf : recF r = ({ r1.1 with arg := r1.1.arg || !Cells.eqL (bareL r1.2) r1.2 }, r1.2) := by unfold recF; rw [HR0.out, HR1.out]
    have hbo := bareL_ok hok
    obtain ⟨ba, hba⟩ : ∃ ba, bareL r1.2 = ba := ⟨_, rfl⟩
    rw [hba] at p7 hrf hbo
    have HRF := Lib.hid hrf
    have z1 := p2.cell p6
    have hzl := p5.len
    obtain ⟨v9, hv9⟩ : ∃ v9, zs[0]? = some v9 := ⟨_, List.getElem?_eq_getElem (by omega)⟩
    have z2 := p5.cell hv9
    have zf := p5.fr
    have hk3 : Mem.Keeps (fun q => q = gb) wc (wc.setCell ⟨gb, 0, none⟩ (.int .i64 kk)) := (Mem.Keeps.refl (fun q => q = gb) wc).setCell (p := ⟨gb, 0, none⟩) (fun _ => rfl) _
    have hc3 := p1.keeps hk3 (fun q hq h => by rcases hq with hq | hq; (exact hggb (hq.symm.trans h)); (rcases p4 q hq with h9 | h9; (exact HAgb.out (h ▸ h9)); omega))
    have hz3 := p2.keeps hk3 hgmgb
    have hb3 := p5.set 0 (.int .i64 kk)
    rw [p7] at hb3
    have HC3' := Lib.hid hc3
    have HZ3' := Lib.hid hz3
    have HB3' := Lib.hid hb3
    have hkk : Mem.Keeps (fun q => (q = g ∨ Mem.blk A = some q) ∨ q = gm) w (wc.setCell ⟨gb, 0, none⟩ (.int .i64 kk)) := ((HK1.out.mono (T := fun q => ((q = g ∨ Mem.blk A = some q) ∨ q = gm) ∨ q = gb) (fun _ h _ => .inr h)).trans (p3.trans hk3 (fun q h _ => .inr h)) (fun q h _ => h)).mono (fun q h hlt => by
      rcases h with h | h
      · exact h
      · have := HGB.out; omega)
    have HKK3 := Lib.hid hkk
    have HKr0 : Hid (r1.1.reads = true → Mem.Keeps (fun q => q = g ∨ q = gm) w (wc.setCell ⟨gb, 0, none⟩ (.int .i64 kk))) := fun hr => ((HK1.out.mono (T := fun q => (q = g ∨ q = gm) ∨ q = gb) (fun _ h _ => .inr h)).trans ((hcut.rd hr).trans hk3 (fun q h _ => .inr h)) (fun q h _ => h)).mono (fun q h hlt => by
      rcases h with h | h
      · exact h
      · have := HGB.out; omega)
    have HA3 : Hid (∀ q, Mem.blk A3 = some q → Mem.blk A = some q ∨ w.heap.size ≤ q) := fun q h => (p4 q h).imp id (fun h => Nat.le_trans hw1 h)
    have HEQ := Lib.hid (fun (u : World) => recK_eq.neq hbo hok u)
    have hbl := Lib.hid hbo.len
    have hrl := Lib.hid hok.len
    clear hcut p1 p2 p3 p4 p5 p7 hok hrf hbo hba hzl hv9 hk3 hc3 hz3 hb3 hkk HB1 HBK HP0 HS0 HR0 HR1 HKK y1 p6 HKB
    go_upto_region 13 with fail
    obtain ⟨w3, hw3⟩ : ∃ w3, wc.setCell ⟨gb, 0, none⟩ (.int .i64 kk) = w3 := ⟨_, rfl⟩
    rw [hw3] at HC3' HZ3' HB3' HKK3 HKr0 ⊢
    have HC3 := HC3'
    have HZ3 := HZ3'
    have HB3 := HB3'
    have HK3 := HKK3
    have HKr := HKr0
    clear z1 z2 zf hw3 HC3' HZ3' HB3' HKK3 HKr0
    cases harg : r1.1.arg
    · have HARG := Lib.hid harg
      clear harg
      refine Reg.wp_region_w (by kernel_rfl) 77 15 rfl rfl (by kernel_rfl) (14) (fun y => y = g) (14) (fun _ => False) (14) (fun _ => False)
        (fun i v u => match i with
          | 0 => v = .pointer (some ⟨g, 0, none⟩)
          | 1 => v = .pointer (some ⟨g, 0, none⟩)
          | 2 => v = .pointer (some ⟨g, 0, none⟩)
          | 3 => v = .pointer (some ⟨g, 4, none⟩)
          | 4 => v = .bool false
          | 5 => v = .bool false
          | 6 => v = .agg ba.toArray
          | 7 => v = .pointer (some ⟨gm, 0, none⟩)
          | 8 => v = .pointer (some ⟨gm, 0, none⟩)
          | 9 => v = .agg r1.2.toArray
          | 10 => v = .bool (!Cells.eqL ba r1.2)
          | 11 => v = .bool (!Cells.eqL ba r1.2)
          | 12 => v = .pointer (some ⟨g, 0, none⟩)
          | 13 => v = .pointer (some ⟨g, 4, none⟩)
          | 14 => CAt u g A3 cap3 { r1.1 with arg := r1.1.arg || !Cells.eqL ba r1.2 }
          | _ => True) ?_ ?_
      · refine Reg.Steps.cons ?_ (Reg.Steps.cons ?_ (Reg.Steps.cons ?_ (Reg.Steps.cons ?_ (Reg.Steps.cons ?_ (Reg.Steps.cons ?_ (Reg.Steps.cons ?_ (Reg.Steps.cons ?_ (Reg.Steps.cons ?_ (Reg.Steps.cons ?_ (Reg.Steps.cons ?_ (Reg.Steps.cons ?_ (Reg.Steps.cons ?_ (Reg.Steps.cons ?_ (Reg.Steps.cons ?_ (Reg.Steps.nil _)))))))))))))))
        · intro val ac u hR hp ha K hK      -- 0: t63 := Op.move t0
          have e0 : (ac.tmps[0]?).getD undef = .pointer (some ⟨g, 0, none⟩) := ha 0 (by decide)
          clear ha hp
          refine Reg.Op1.plain rfl ?_
          go_wp2
          exact ⟨rfl, hK _ _ rfl (Reg.Wr.same _)⟩
        · intro val ac u hR hp ha K hK      -- 1: t64 := Op.move t0
          have e0 : (ac.tmps[0]?).getD undef = .pointer (some ⟨g, 0, none⟩) := ha 0 (by decide)
          clear ha hp
          refine Reg.Op1.plain rfl ?_
          go_wp2
          exact ⟨rfl, hK _ _ rfl (Reg.Wr.same _)⟩
        · intro val ac u hR hp ha K hK      -- 2: t65 := Op.nilCheck t64
          obtain ⟨w64, h64, r64⟩ := hp 1 (by decide)
          have e64 : (ac.tmps[64]?).getD undef = .pointer (some ⟨g, 0, none⟩) := (ha 64 (by decide)).trans h64
          clear h64
          clear ha hp
          refine Reg.Op1.plain rfl ?_
          go_wp2
          exact ⟨rfl, hK _ _ rfl (Reg.Wr.same _)⟩
        · intro val ac u hR hp ha K hK      -- 3: t66 := Op.fieldAddr 67 t65 4
          obtain ⟨w65, h65, r65⟩ := hp 2 (by decide)
          have e65 : (ac.tmps[65]?).getD undef = .pointer (some ⟨g, 0, none⟩) := (ha 65 (by decide)).trans h65
          clear h65
          clear ha hp
          refine Reg.Op1.plain rfl ?_
          go_wp2
          exact ⟨rfl, hK _ _ rfl (Reg.Wr.same _)⟩
        · intro val ac u hR hp ha K hK      -- 4: t67 := Op.load 4 t66
          obtain ⟨w66, h66, r66⟩ := hp 3 (by decide)
          have e66 : (ac.tmps[66]?).getD undef = .pointer (some ⟨g, 4, none⟩) := (ha 66 (by decide)).trans h66
          clear h66
          clear ha hp
          refine Reg.Op1.plain rfl ?_
          have hq := (Mem.Keeps.refl (fun _ => False) w3).drew.trans (Reg.Wr.none hR (by decide +kernel) (by decide +kernel) (by decide +kernel)) (fun _ h _ => h)
          have x0 : u.cell? ⟨g, 4, none⟩ = some (.bool false) := by rw [← HARG.out]; exact (HC3.out.B.keeps hq id).cell (j := 4) rfl
          go_wp2
          exact ⟨rfl, hK _ _ rfl (Reg.Wr.same _)⟩
        · intro val ac u hR hp ha K hK      -- 5: t68 := Op.move t67
          obtain ⟨w67, h67, r67⟩ := hp 4 (by decide)
          have e67 : (ac.tmps[67]?).getD undef = .bool false := (ha 67 (by decide)).trans h67
          clear h67
          clear ha hp
          refine Reg.Op1.plain rfl ?_
          go_wp2
          exact ⟨rfl, hK _ _ rfl (Reg.Wr.same _)⟩
        · intro val ac u hR hp ha K hK      -- 6: t69 := Op.load 37 t4
          have e4 : (ac.tmps[4]?).getD undef = .pointer (some ⟨gb, 0, none⟩) := ha 4 (by decide)
          obtain ⟨w68, h68, r68⟩ := hp 5 (by decide)
          have e68 : (ac.tmps[68]?).getD undef = .bool false := (ha 68 (by decide)).trans h68
          clear h68
          clear ha hp
          refine Reg.Op1.guarded rfl rfl e68 (fun _ => Reg.Op1.plain rfl ?_) (fun h => absurd rfl h)
          have hq := (Mem.Keeps.refl (fun _ => False) w3).drew.trans (Reg.Wr.none hR (by decide +kernel) (by decide +kernel) (by decide +kernel)) (fun _ h _ => h)
          have hbb := HB3.out.keeps hq id
          refine Mem.load_agg _ _ record_agg gb 0 ba (Reg.eval_of e4) hbl.out (fun j u' hu => by rw [Nat.zero_add]; exact hbb.cell hu) ?_
          exact ⟨rfl, hK _ _ rfl (Reg.Wr.same _)⟩
        · intro val ac u hR hp ha K hK      -- 7: t70 := Op.move t1
          have e1 : (ac.tmps[1]?).getD undef = .pointer (some ⟨gm, 0, none⟩) := ha 1 (by decide)
          obtain ⟨w68, h68, r68⟩ := hp 5 (by decide)
          have e68 : (ac.tmps[68]?).getD undef = .bool false := (ha 68 (by decide)).trans h68
          clear h68
          clear ha hp
          refine Reg.Op1.guarded rfl rfl e68 (fun _ => Reg.Op1.plain rfl ?_) (fun h => absurd rfl h)
          go_wp2
          exact ⟨rfl, hK _ _ rfl (Reg.Wr.same _)⟩
        · intro val ac u hR hp ha K hK      -- 8: t71 := Op.nilCheck t70
          obtain ⟨w70, h70, r70⟩ := hp 7 (by decide)
          have e70 : (ac.tmps[70]?).getD undef = .pointer (some ⟨gm, 0, none⟩) := (ha 70 (by decide)).trans h70
          clear h70
          obtain ⟨w68, h68, r68⟩ := hp 5 (by decide)
          have e68 : (ac.tmps[68]?).getD undef = .bool false := (ha 68 (by decide)).trans h68
          clear h68
          clear ha hp
          refine Reg.Op1.guarded rfl rfl e68 (fun _ => Reg.Op1.plain rfl ?_) (fun h => absurd rfl h)
          go_wp2
          exact ⟨rfl, hK _ _ rfl (Reg.Wr.same _)⟩
        · intro val ac u hR hp ha K hK      -- 9: t72 := Op.load 37 t71
          obtain ⟨w71, h71, r71⟩ := hp 8 (by decide)
          have e71 : (ac.tmps[71]?).getD undef = .pointer (some ⟨gm, 0, none⟩) := (ha 71 (by decide)).trans h71
          clear h71
          obtain ⟨w68, h68, r68⟩ := hp 5 (by decide)
          have e68 : (ac.tmps[68]?).getD undef = .bool false := (ha 68 (by decide)).trans h68
          clear h68
          clear ha hp
          refine Reg.Op1.guarded rfl rfl e68 (fun _ => Reg.Op1.plain rfl ?_) (fun h => absurd rfl h)
          have hq := (Mem.Keeps.refl (fun _ => False) w3).drew.trans (Reg.Wr.none hR (by decide +kernel) (by decide +kernel) (by decide +kernel)) (fun _ h _ => h)
          have hbb := HZ3.out.keeps hq id
          refine Mem.load_agg _ _ record_agg gm 0 r1.2 (Reg.eval_of e71) hrl.out (fun j u' hu => by rw [Nat.zero_add]; exact hbb.cell hu) ?_
          exact ⟨rfl, hK _ _ rfl (Reg.Wr.same _)⟩
        · intro val ac u hR hp ha K hK      -- 10: t73 := Op.binOp BinOp.neq 37 t69 t72 37
          obtain ⟨w69, h69, r69⟩ := hp 6 (by decide)
          have e69 : (ac.tmps[69]?).getD undef = .agg ba.toArray := (ha 69 (by decide)).trans h69
          clear h69
          obtain ⟨w72, h72, r72⟩ := hp 9 (by decide)
          have e72 : (ac.tmps[72]?).getD undef = .agg r1.2.toArray := (ha 72 (by decide)).trans h72
          clear h72
          obtain ⟨w68, h68, r68⟩ := hp 5 (by decide)
          have e68 : (ac.tmps[68]?).getD undef = .bool false := (ha 68 (by decide)).trans h68
          clear h68
          clear ha hp
          refine Reg.Op1.guarded rfl rfl e68 (fun _ => Reg.Op1.plain rfl ?_) (fun h => absurd rfl h)
          refine Mem.wpList_bin _ _ (by kernel_rfl) ba.toArray r1.2.toArray (!Cells.eqL ba r1.2) (Reg.eval_of e69) (Reg.eval_of e72) HEQ.out ?_
          exact ⟨rfl, hK _ _ rfl (Reg.Wr.same _)⟩
        · intro val ac u hR hp ha K hK      -- 11: t74 := Op.pick t68 (const (Value.bool true)) t73
          obtain ⟨w68, h68, r68⟩ := hp 5 (by decide)
          have e68 : (ac.tmps[68]?).getD undef = .bool false := (ha 68 (by decide)).trans h68
          clear h68
          obtain ⟨w73, h73, r73⟩ := hp 10 (by decide)
          have e73 : (ac.tmps[73]?).getD undef = .bool (!Cells.eqL ba r1.2) := (ha 73 (by decide)).trans h73
          clear h73
          clear ha hp
          refine Reg.Op1.plain rfl ?_
          go_wp2
          exact ⟨rfl, hK _ _ rfl (Reg.Wr.same _)⟩
        · intro val ac u hR hp ha K hK      -- 12: t75 := Op.nilCheck t63
          obtain ⟨w63, h63, r63⟩ := hp 0 (by decide)
          have e63 : (ac.tmps[63]?).getD undef = .pointer (some ⟨g, 0, none⟩) := (ha 63 (by decide)).trans h63
          clear h63
          clear ha hp
          refine Reg.Op1.plain rfl ?_
          go_wp2
          exact ⟨rfl, hK _ _ rfl (Reg.Wr.same _)⟩
        · intro val ac u hR hp ha K hK      -- 13: t76 := Op.fieldAddr 67 t75 4
          obtain ⟨w75, h75, r75⟩ := hp 12 (by decide)
          have e75 : (ac.tmps[75]?).getD undef = .pointer (some ⟨g, 0, none⟩) := (ha 75 (by decide)).trans h75
          clear h75
          clear ha hp
          refine Reg.Op1.plain rfl ?_
          go_wp2
          exact ⟨rfl, hK _ _ rfl (Reg.Wr.same _)⟩
        · intro val ac u hR hp ha K hK      -- 14: Op.store 4 t76 t74
          obtain ⟨w76, h76, r76⟩ := hp 13 (by decide)
          have e76 : (ac.tmps[76]?).getD undef = .pointer (some ⟨g, 4, none⟩) := (ha 76 (by decide)).trans h76
          clear h76
          obtain ⟨w74, h74, r74⟩ := hp 11 (by decide)
          have e74 : (ac.tmps[74]?).getD undef = .bool (!Cells.eqL ba r1.2) := (ha 74 (by decide)).trans h74
          clear h74
          clear ha hp
          refine Reg.Op1.plain rfl ?_
          have hq := (Mem.Keeps.refl (fun _ => False) w3).drew.trans (Reg.Wr.none hR (by decide +kernel) (by decide +kernel) (by decide +kernel)) (fun _ h _ => h)
          have hC := HC3.out.keeps hq (fun _ _ h => h)
          have y1 : u.cell? ⟨g, 4, none⟩ = some (.bool r1.1.arg) := hC.B.cell (j := 4) rfl
          have yf := hC.B.fr
          have hC2 := hC.set (c' := { r1.1 with arg := r1.1.arg || !Cells.eqL ba r1.2 }) 4 (.bool (!Cells.eqL ba r1.2)) rfl rfl (by have h9 := HARG.out; simp [cdCells, h9])
          have hk2 : Mem.Keeps (fun y => y = g) u (u.setCell ⟨g, 4, none⟩ (.bool (!Cells.eqL ba r1.2))) := (Mem.Keeps.refl (fun y => y = g) u).setCell (p := ⟨g, 4, none⟩) (fun _ => rfl) _
          go_wp2
          exact ⟨rfl, hK undef _ hC2 (Reg.Wr.does1 hk2)⟩
      · intro val u hR H
        obtain ⟨wA, hcA, rA⟩ := H 14 (by decide)
        have hq : Mem.Keeps (fun y => y = g) w3 u := ((Mem.Keeps.refl (fun y => y = g ∨ False ∨ False) w3).drew.trans (Reg.Wr.all hR) (fun _ h _ => h)).mono (fun _ h _ => h.elim id (fun h => h.elim (fun h => h.elim) (fun h => h.elim)))
        have hc4 := hcA.keeps (Reg.Wr.none rA (by decide +kernel) (by decide +kernel) (by decide +kernel)) (fun _ _ h => h)
        have HPP : Hid (Pass w g A 37 35 gm (recF r) u) := by
          show Pass _ _ _ _ _ _ _ _
          rw [HRF.out]
          refine ⟨⟨A3, cap3, hc4, HZ3.out.keeps hq hg, ?_, HA3.out⟩, fun hr => (HKr.out hr).trans hq (fun q h _ => .inl h)⟩
          refine (HK3.out.trans hq (fun q h _ => .inl (.inl h)))
        simp only [List.map_cons, List.map_nil, Reg.lay, Act.put, List.setIfInBounds_toArray, List.set_cons_succ, List.set_cons_zero, Nat.reduceAdd]
        clear hR H hq hcA rA hc4 HC3 HZ3 HK3 HA3
        go_wp2
        first | go_end0 | ((try simp only [Exit.inBlock, Exit.then]); refine bodyPost_ret (results_none rfl _ _ _) rfl ?_)
        exact ⟨rfl, HPP.out⟩
    · have HARG := Lib.hid harg
      clear harg
      refine Reg.wp_region_w (by kernel_rfl) 77 15 rfl rfl (by kernel_rfl) (14) (fun y => y = g) (14) (fun _ => False) (14) (fun _ => False)
        (fun i v u => match i with
          | 0 => v = .pointer (some ⟨g, 0, none⟩)
          | 1 => v = .pointer (some ⟨g, 0, none⟩)
          | 2 => v = .pointer (some ⟨g, 0, none⟩)
          | 3 => v = .pointer (some ⟨g, 4, none⟩)
          | 4 => v = .bool true
          | 5 => v = .bool true
          | 6 => v = undef
          | 7 => v = undef
          | 8 => v = undef
          | 9 => v = undef
          | 10 => v = undef
          | 11 => v = .bool true
          | 12 => v = .pointer (some ⟨g, 0, none⟩)
          | 13 => v = .pointer (some ⟨g, 4, none⟩)
          | 14 => CAt u g A3 cap3 { r1.1 with arg := r1.1.arg || !Cells.eqL ba r1.2 }
          | _ => True) ?_ ?_
      · refine Reg.Steps.cons ?_ (Reg.Steps.cons ?_ (Reg.Steps.cons ?_ (Reg.Steps.cons ?_ (Reg.Steps.cons ?_ (Reg.Steps.cons ?_ (Reg.Steps.cons ?_ (Reg.Steps.cons ?_ (Reg.Steps.cons ?_ (Reg.Steps.cons ?_ (Reg.Steps.cons ?_ (Reg.Steps.cons ?_ (Reg.Steps.cons ?_ (Reg.Steps.cons ?_ (Reg.Steps.cons ?_ (Reg.Steps.nil _)))))))))))))))
        · intro val ac u hR hp ha K hK      -- 0: t63 := Op.move t0
          have e0 : (ac.tmps[0]?).getD undef = .pointer (some ⟨g, 0, none⟩) := ha 0 (by decide)
          clear ha hp
          refine Reg.Op1.plain rfl ?_
          go_wp2
          exact ⟨rfl, hK _ _ rfl (Reg.Wr.same _)⟩
        · intro val ac u hR hp ha K hK      -- 1: t64 := Op.move t0
          have e0 : (ac.tmps[0]?).getD undef = .pointer (some ⟨g, 0, none⟩) := ha 0 (by decide)
          clear ha hp
          refine Reg.Op1.plain rfl ?_
          go_wp2
          exact ⟨rfl, hK _ _ rfl (Reg.Wr.same _)⟩
        · intro val ac u hR hp ha K hK      -- 2: t65 := Op.nilCheck t64
          obtain ⟨w64, h64, r64⟩ := hp 1 (by decide)
          have e64 : (ac.tmps[64]?).getD undef = .pointer (some ⟨g, 0, none⟩) := (ha 64 (by decide)).trans h64
          clear h64
          clear ha hp
          refine Reg.Op1.plain rfl ?_
          go_wp2
          exact ⟨rfl, hK _ _ rfl (Reg.Wr.same _)⟩
        · intro val ac u hR hp ha K hK      -- 3: t66 := Op.fieldAddr 67 t65 4
          obtain ⟨w65, h65, r65⟩ := hp 2 (by decide)
          have e65 : (ac.tmps[65]?).getD undef = .pointer (some ⟨g, 0, none⟩) := (ha 65 (by decide)).trans h65
          clear h65
          clear ha hp
          refine Reg.Op1.plain rfl ?_
          go_wp2
          exact ⟨rfl, hK _ _ rfl (Reg.Wr.same _)⟩
        · intro val ac u hR hp ha K hK      -- 4: t67 := Op.load 4 t66
          obtain ⟨w66, h66, r66⟩ := hp 3 (by decide)
          have e66 : (ac.tmps[66]?).getD undef = .pointer (some ⟨g, 4, none⟩) := (ha 66 (by decide)).trans h66
          clear h66
          clear ha hp
          refine Reg.Op1.plain rfl ?_
          have hq := (Mem.Keeps.refl (fun _ => False) w3).drew.trans (Reg.Wr.none hR (by decide +kernel) (by decide +kernel) (by decide +kernel)) (fun _ h _ => h)
          have x0 : u.cell? ⟨g, 4, none⟩ = some (.bool true) := by rw [← HARG.out]; exact (HC3.out.B.keeps hq id).cell (j := 4) rfl
          go_wp2
          exact ⟨rfl, hK _ _ rfl (Reg.Wr.same _)⟩
        · intro val ac u hR hp ha K hK      -- 5: t68 := Op.move t67
          obtain ⟨w67, h67, r67⟩ := hp 4 (by decide)
          have e67 : (ac.tmps[67]?).getD undef = .bool true := (ha 67 (by decide)).trans h67
          clear h67
          clear ha hp
          refine Reg.Op1.plain rfl ?_
          go_wp2
          exact ⟨rfl, hK _ _ rfl (Reg.Wr.same _)⟩
        · intro val ac u hR hp ha K hK      -- 6: t69 := Op.load 37 t4
          obtain ⟨w68, h68, r68⟩ := hp 5 (by decide)
          have e68 : (ac.tmps[68]?).getD undef = .bool true := (ha 68 (by decide)).trans h68
          clear h68
          clear ha hp
          exact Reg.Op1.guarded rfl rfl e68 (fun h => by cases h) (fun _ => hK _ _ rfl (Reg.Wr.same _))
        · intro val ac u hR hp ha K hK      -- 7: t70 := Op.move t1
          obtain ⟨w68, h68, r68⟩ := hp 5 (by decide)
          have e68 : (ac.tmps[68]?).getD undef = .bool true := (ha 68 (by decide)).trans h68
          clear h68
          clear ha hp
          exact Reg.Op1.guarded rfl rfl e68 (fun h => by cases h) (fun _ => hK _ _ rfl (Reg.Wr.same _))
        · intro val ac u hR hp ha K hK      -- 8: t71 := Op.nilCheck t70
          obtain ⟨w68, h68, r68⟩ := hp 5 (by decide)
          have e68 : (ac.tmps[68]?).getD undef = .bool true := (ha 68 (by decide)).trans h68
          clear h68
          clear ha hp
          exact Reg.Op1.guarded rfl rfl e68 (fun h => by cases h) (fun _ => hK _ _ rfl (Reg.Wr.same _))
        · intro val ac u hR hp ha K hK      -- 9: t72 := Op.load 37 t71
          obtain ⟨w68, h68, r68⟩ := hp 5 (by decide)
          have e68 : (ac.tmps[68]?).getD undef = .bool true := (ha 68 (by decide)).trans h68
          clear h68
          clear ha hp
          exact Reg.Op1.guarded rfl rfl e68 (fun h => by cases h) (fun _ => hK _ _ rfl (Reg.Wr.same _))
        · intro val ac u hR hp ha K hK      -- 10: t73 := Op.binOp BinOp.neq 37 t69 t72 37
          obtain ⟨w68, h68, r68⟩ := hp 5 (by decide)
          have e68 : (ac.tmps[68]?).getD undef = .bool true := (ha 68 (by decide)).trans h68
          clear h68
          clear ha hp
          exact Reg.Op1.guarded rfl rfl e68 (fun h => by cases h) (fun _ => hK _ _ rfl (Reg.Wr.same _))
        · intro val ac u hR hp ha K hK      -- 11: t74 := Op.pick t68 (const (Value.bool true)) t73
          obtain ⟨w68, h68, r68⟩ := hp 5 (by decide)
          have e68 : (ac.tmps[68]?).getD undef = .bool true := (ha 68 (by decide)).trans h68
          clear h68
          obtain ⟨w73, h73, r73⟩ := hp 10 (by decide)
          have e73 : (ac.tmps[73]?).getD undef = undef := (ha 73 (by decide)).trans h73
          clear h73
          clear ha hp
          refine Reg.Op1.plain rfl ?_
          go_wp2
          exact ⟨rfl, hK _ _ rfl (Reg.Wr.same _)⟩
        · intro val ac u hR hp ha K hK      -- 12: t75 := Op.nilCheck t63
          obtain ⟨w63, h63, r63⟩ := hp 0 (by decide)
          have e63 : (ac.tmps[63]?).getD undef = .pointer (some ⟨g, 0, none⟩) := (ha 63 (by decide)).trans h63
          clear h63
          clear ha hp
          refine Reg.Op1.plain rfl ?_
          go_wp2
          exact ⟨rfl, hK _ _ rfl (Reg.Wr.same _)⟩
        · intro val ac u hR hp ha K hK      -- 13: t76 := Op.fieldAddr 67 t75 4
          obtain ⟨w75, h75, r75⟩ := hp 12 (by decide)
          have e75 : (ac.tmps[75]?).getD undef = .pointer (some ⟨g, 0, none⟩) := (ha 75 (by decide)).trans h75
          clear h75
          clear ha hp
          refine Reg.Op1.plain rfl ?_
          go_wp2
          exact ⟨rfl, hK _ _ rfl (Reg.Wr.same _)⟩
        · intro val ac u hR hp ha K hK      -- 14: Op.store 4 t76 t74
          obtain ⟨w76, h76, r76⟩ := hp 13 (by decide)
          have e76 : (ac.tmps[76]?).getD undef = .pointer (some ⟨g, 4, none⟩) := (ha 76 (by decide)).trans h76
          clear h76
          obtain ⟨w74, h74, r74⟩ := hp 11 (by decide)
          have e74 : (ac.tmps[74]?).getD undef = .bool true := (ha 74 (by decide)).trans h74
          clear h74
          clear ha hp
          refine Reg.Op1.plain rfl ?_
          have hq := (Mem.Keeps.refl (fun _ => False) w3).drew.trans (Reg.Wr.none hR (by decide +kernel) (by decide +kernel) (by decide +kernel)) (fun _ h _ => h)
          have hC := HC3.out.keeps hq (fun _ _ h => h)
          have y1 : u.cell? ⟨g, 4, none⟩ = some (.bool r1.1.arg) := hC.B.cell (j := 4) rfl
          have yf := hC.B.fr
          have hC2 := hC.set (c' := { r1.1 with arg := r1.1.arg || !Cells.eqL ba r1.2 }) 4 (.bool true) rfl rfl (by have h9 := HARG.out; simp [cdCells, h9])
          have hk2 : Mem.Keeps (fun y => y = g) u (u.setCell ⟨g, 4, none⟩ (.bool true)) := (Mem.Keeps.refl (fun y => y = g) u).setCell (p := ⟨g, 4, none⟩) (fun _ => rfl) _
          go_wp2
          exact ⟨rfl, hK undef _ hC2 (Reg.Wr.does1 hk2)⟩
      · intro val u hR H
        obtain ⟨wA, hcA, rA⟩ := H 14 (by decide)
        have hq : Mem.Keeps (fun y => y = g) w3 u := ((Mem.Keeps.refl (fun y => y = g ∨ False ∨ False) w3).drew.trans (Reg.Wr.all hR) (fun _ h _ => h)).mono (fun _ h _ => h.elim id (fun h => h.elim (fun h => h.elim) (fun h => h.elim)))
        have hc4 := hcA.keeps (Reg.Wr.none rA (by decide +kernel) (by decide +kernel) (by decide +kernel)) (fun _ _ h => h)
        have HPP : Hid (Pass w g A 37 35 gm (recF r) u) := by
          show Pass _ _ _ _ _ _ _ _
          rw [HRF.out]
          refine ⟨⟨A3, cap3, hc4, HZ3.out.keeps hq hg, ?_, HA3.out⟩, fun hr => (HKr.out hr).trans hq (fun q h _ => .inl h)⟩
          refine (HK3.out.trans hq (fun q h _ => .inl (.inl h)))
        simp only [List.map_cons, List.map_nil, Reg.lay, Act.put, List.setIfInBounds_toArray, List.set_cons_succ, List.set_cons_zero, Nat.reduceAdd]
        clear hR H hq hcA rA hc4 HC3 HZ3 HK3 HA3
        go_wp2
        first | go_end0 | ((try simp only [Exit.inBlock, Exit.then]); refine bodyPost_ret (results_none rfl _ _ _) rfl ?_)
        exact ⟨rfl, HPP.out⟩
end Go.Proofs.Ytkfgedgjpgehoaa
