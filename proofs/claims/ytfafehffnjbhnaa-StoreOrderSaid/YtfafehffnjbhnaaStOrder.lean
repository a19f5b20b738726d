/- The walk of StoreOrder. Nothing is asked but what the row's form asks of its arguments. -/
import Derived.Test.YtfafehffnjbhnaaStTwo
set_option maxRecDepth 8000
namespace Go.Proofs.Ytfafehffnjbhnaa
open Go.ChangeShapes Go.WideShapes Go.ChangeAt Go.RowKit
set_option linter.unusedVariables false
set_option linter.unusedSimpArgs false
namespace Sto
open Vec
structure OrRel (w5 : World) (es : List Ent) (v7 v8 : Value) (wr : World) : Prop where
  out : ∃ (k : Nat) (Ao : Option Addr) (co : Nat) (on : List Ent), k ≤ es.length ∧ v7 = .slice Ao on.length co ∧ v8 = .int .i64 k ∧ on.length ≤ k ∧ Hid (onceL (es.take k) = on) ∧ Hid (EOwn wr Ao co on) ∧ Hid (Mem.From w5.heap.size Ao) ∧ Hid (Below w5.heap.size w5 wr)
structure ThRel (w8 : World) (on : List Ent) (e : Ent) (v9 v10 : Value) (wr : World) : Prop where
  out : ∃ j : Nat, j ≤ on.length ∧ v9 = .bool ((on.take j).any fun x => eqD x (dotE e)) ∧ v10 = .int .i64 j ∧ Hid (Below w8.heap.size w8 wr)
structure BpRel (w : World) (rng : Int) (ga ba gb bb : Nat) (rsa : List LR) (Ao : Option Addr) (co : Nat) (on : List Ent) (v11 : Value) (wr : World) : Prop where
  out : ∃ (j : Nat) (rsb : List LR), j ≤ on.length ∧ v11 = .int .i64 ((on.length : Int) - 1 - j) ∧ Hid (Two w.heap.size wr rng ga ba col0 rsa gb bb col0 rsb) ∧ lenS (states rsb) ≤ j ∧ Hid ((putL rng col0 [] (on.reverse.take j)).1 = states rsb) ∧ Hid (EOwn wr Ao co on) ∧ Hid (∀ k, Mem.blk Ao = some k → ¬ fpS gb bb rsb k) ∧ Hid (Below w.heap.size w wr)
structure FiRel (w9 : World) (ks : List ByteArray) (v13 : Value) (wr : World) : Prop where
  out : ∃ j : Nat, j ≤ ks.length ∧ v13 = .int .i64 j ∧ Hid (Below w9.heap.size w9 wr)
theorem len_keys (rs : List LR) : (sortK (rs.map (·.l.k))).length = rs.length := by rw [sortK_len, List.length_map]
theorem Good.len_le {rng : Int} : ∀ {rs : List LR}, (∀ r ∈ rs, r.l.es ≠ []) → rs.length ≤ lenS (states rs)
  | [], _ => Nat.zero_le _
  | r :: rs, h => by
    have h1 := Good.len_le (rng := rng) (rs := rs) fun q hq => h q (List.mem_cons_of_mem _ hq)
    have h2 : lenS (states (r :: rs)) = r.l.es.length + lenS (states rs) := by simp [lenS, states]
    have h3 : 0 < r.l.es.length := List.length_pos_iff.2 (h r List.mem_cons_self)
    rw [h2, List.length_cons]
    omega
theorem es_le {rs : List LR} {r : LR} (h : r ∈ rs) : r.l.es.length ≤ lenS (states rs) := by
  induction rs with
  | nil => cases h
  | cons a rs ih =>
    have h2 : lenS (states (a :: rs)) = a.l.es.length + lenS (states rs) := by simp [lenS, states]
    rw [h2]
    rcases List.mem_cons.1 h with rfl | h
    · omega
    · have := ih h; omega
theorem putL_le (rng : Int) (mk : Col) (st : List Ls) (news : List Ent) : lenS (putL rng mk st news).1 ≤ lenS st + news.length := by
  unfold putL
  have : ∀ (l : List Ent) (p : List Ls × Nat), lenS (l.foldl (putStep rng mk) p).1 ≤ lenS p.1 + l.length := by
    intro l
    induction l with
    | nil => intro p; exact Nat.le_refl _
    | cons a l ih =>
      intro p
      refine Nat.le_trans (ih _) ?_
      have h1 : lenS (putStep rng mk p a).1 ≤ lenS p.1 + 1 := by
        unfold putStep
        split
        · exact Nat.le_of_eq (putS_len _ _)
        · exact Nat.le_succ _
      rw [List.length_cons]
      omega
  exact this news (st, 0)
theorem putStep_fst (rng : Int) (mk : Col) (st : List Ls) (n m : Nat) (e : Ent) : (putStep rng mk (st, n) e).1 = (putStep rng mk (st, m) e).1 := by
  unfold putStep
  dsimp only
  split <;> rfl
theorem Good.okS {rng : Int} {rs : List LR} (h : Good rng (states rs)) : ∀ k ∈ rs.map (·.l.k), Sto.okS k := fun k hk => by
  obtain ⟨r, hr, rfl⟩ := List.mem_map.1 hk
  obtain ⟨x, hx⟩ := List.exists_mem_of_ne_nil _ (h.hne r hr)
  obtain ⟨h1, _, h2⟩ := h.ok r.l (List.mem_map.2 ⟨r, hr, rfl⟩) x hx
  unfold rightE Vec.g3 at h1
  simp only [Bool.and_eq_true, decide_eq_true_eq] at h1
  rw [← h2]
  unfold Sto.okS maxLen
  omega
/-- one write laid into store b -/
theorem put_oneB {B : Nat} {w : World} {rng : Int} {ga ba gb bb : Nat} {mka mkb : Col} {rsa rsb : List LR} (h : Two B w rng ga ba mka rsa gb bb mkb rsb) (hB : B ≤ w.heap.size) (e : Ent) (hl : lenS (states rsb) ≤ 1000) :
    Calls Try.prog 12 #[.pointer (some ⟨gb, 0, none⟩), .slice (some ⟨w.heap.size, 0, none⟩) 1 1] (w.alloc (.cells (entCells e).toArray 40)) fun x w' =>
      ∃ rs' n, x = .returned (.int .i64 n) ∧ states rs' = (putStep rng mkb (states rsb, 0) e).1 ∧ Two B w' rng ga ba mka rsa gb bb mkb rs' ∧ Mem.Keeps (fpS gb bb rsb) w w' ∧ ∀ k, fpS gb bb rs' k → fpS gb bb rsb k ∨ w.heap.size ≤ k := by
  have hb5 : Below w.heap.size w (w.alloc (.cells (entCells e).toArray 40)) := Reg.below_new _ _
  have hO5 : EOwn (w.alloc (.cells (entCells e).toArray 40)) (some ⟨w.heap.size, 0, none⟩) 1 [e] := by
    have := Mem.Own.lit w 40 20 (entCells e).toArray 1 rfl rfl (by simp [maxLen])
    simpa [EOwn] using this
  have hM := h.below hb5
  refine (storePut_any rng gb bb mkb rsb (some ⟨w.heap.size, 0, none⟩) 1 [e] _ hM.b.S hM.b.G hO5 (fun q hq h9 => by cases hq; exact Nat.lt_irrefl _ (h.b.S.lt h9)) (by simp; omega)).mono ?_
  intro x w' he
  obtain ⟨rs', rfl, h2, h3, h4⟩ := hM.putB (Nat.le_trans hB hb5.size) he
  obtain ⟨rs9, e1, e2, e3, e4, e5, e6⟩ := he
  obtain ⟨rs8, d1, d2, d3, d4, d5, d6⟩ : PutEnd (w.alloc (.cells (entCells e).toArray 40)) gb bb rng mkb rsb [e] _ w' := ⟨rs9, e1, e2, e3, e4, e5, e6⟩
  refine ⟨rs9, _, rfl, e2, h.swap.below hb5 |>.turnA (Nat.le_trans hB hb5.size) e3 e4 e5 e6 |>.swap, (Mem.Keeps.of_below hb5).mono (fun _ h _ => h.elim) |>.trans e5 (fun _ h _ => h), fun k hk => (e6 k hk).imp id (fun h => Nat.le_trans hb5.size h)⟩
end Sto
namespace storeOrderOpen
open Vec Sto
set_option maxRecDepth 20000 in
set_option maxHeartbeats 8000000 in
theorem walk (rng : Int) (A : Option Addr) (c : Nat) (es : List Ent) (w : World) (hr : Mem.Rd w w.heap.size A (es.flatMap entCells)) (hec : es.length ≤ c) (hcc : c ≤ 8796093022208) (hd : ∀ e ∈ es, EntIn e) :
    Calls Try.prog 4 #[.int .i64 rng, .slice A es.length c] w fun e w' => e = .returned (.bool true) ∧ Below w.heap.size w w' := by
  have HR := Lib.hid hr
  have HD := Lib.hid hd
  clear hr hd
  go_enter Try.func4, Try.ntmps4
  go_wp2_with fail
  refine (storeAble_any w).mono ?_
  rintro x w1 ⟨rfl, hb1⟩
  have HB1 := Lib.hid hb1
  clear hb1
  go_wp2_with fail
  have hrd : Mem.Rd (w1.alloc (.cells (acCells ⟨0, A, c, es, col0⟩).toArray 28)) (w1.alloc (.cells (acCells ⟨0, A, c, es, col0⟩).toArray 28)).heap.size (some ⟨w1.heap.size, 0, none⟩) ([(⟨0, A, c, es, col0⟩ : Ac)].flatMap acCells) := by
    have h9 := Mem.Rd.alloc_new w1 (acCells ⟨0, A, c, es, col0⟩).toArray 28 (0, 0) rfl
    simpa using h9
  refine (much_any (some ⟨w1.heap.size, 0, none⟩) 1 [⟨0, A, c, es, col0⟩] (w1.alloc (.cells (acCells ⟨0, A, c, es, col0⟩).toArray 28)) _ hrd (by simp) (fun a ha => ?_) (Below.refl _ _)).mono ?_
  · rw [List.mem_singleton] at ha
    subst ha
    exact ⟨((HR.out.below HB1.out).more HB1.out.size).alloc (Nat.le_refl _) _ |>.more (by simp), hec, hcc, HD.out⟩
  rintro x w2 ⟨bq, rfl, hbn, hb2⟩
  have hb2' : Below w1.heap.size w1 w2 := (Reg.below_new _ _).trans (hb2.mono (by simp))
  have HB2 : Hid (Below w.heap.size w w2) := HB1.out.trans (hb2'.mono HB1.out.size)
  clear hb2 hb2' HB1 hrd
  cases bq
  case true =>
    go_wp2
    go_ret
    exact ⟨rfl, HB2.out⟩
  have hn3 : es.length ≤ 299 := by have := hbn rfl; simp [lenA] at this; omega
  clear hbn
  have HNEW := Lib.hid (storeNew_any rng w2)
  go_upto_region 6 with (first | (go_at_call 11; refine HNEW.out.mono ?_; clear HNEW; rintro x w3 ⟨ga, ba, rfl, hA3, hb3, hg1, hg2⟩) | (go_at_call 11; refine (storeNew_any rng w3).mono ?_; rintro x w4 ⟨gb, bb, rfl, hA4, hb4, hg3, hg4⟩))
  have HT4 : Hid (Two w.heap.size w4 rng ga ba col0 [] gb bb col0 []) := by
    have h9 := two_new (w := w2) hA3 hg1 hg2 hb3.size hA4 hb4 hg3 hg4
    exact ⟨⟨h9.a.S, h9.a.G, fun k hk => Nat.le_trans HB2.out.size (h9.a.a k hk)⟩, ⟨h9.b.S, h9.b.G, fun k hk => Nat.le_trans HB2.out.size (h9.b.a k hk)⟩, h9.ap⟩
  have HB4 : Hid (Below w.heap.size w w4) := (HB2.out.trans (hb3.mono HB2.out.size)).trans (hb4.mono (Nat.le_trans HB2.out.size hb3.size))
  clear hA3 hb3 hg1 hg2 hA4 hb4 hg3 hg4 HB2
  go_wp2
  go_loopw [7, 8] (OrRel w4 es) (fun _ t _ => es.length - (intOf t).toNat)
  case atStart => exact ⟨⟨0, none, 0, [], by omega, rfl, rfl, by simp, rfl, Mem.Own.nil _ _ _, Mem.From.none_ _, Below.refl _ _⟩⟩
  case round =>
    obtain ⟨k, Ao, co, on, hk, rfl, rfl, hok, HON, HO, HF, HB⟩ := hrel.out
    clear hrel
    have hz := Nat.le_trans HB4.out.size HB.out.size
    by_cases hlt : k < es.length
    · obtain ⟨bq, o, e, rfl, hb, he, hat⟩ := ent_elem HR.out hlt
      have HBW := Lib.hid (HB4.out.trans (HB.out.mono HB4.out.size))
      have HAT : Hid (EntAt wr bq (o + k * 20) e) := hat.below HBW.out hb
      have hts : onceL (es.take (k + 1)) = onceStep on e := by rw [Mem.take_snoc he, onceL_snoc, HON.out]
      have HTS := Lib.hid hts
      have hbw : bq < w.heap.size := hb
      clear hat he hb hts
      go_wp2
      obtain ⟨w8, hw8⟩ : ∃ z, z = wr := ⟨_, rfl⟩
      subst hw8
      go_loopw [9, 10] (ThRel w8 on e) (fun _ t _ => on.length - (intOf t).toNat)
      case atStart => exact ⟨⟨0, by omega, rfl, rfl, Below.refl _ _⟩⟩
      case round =>
        obtain ⟨j, hj, rfl, rfl, HBr⟩ := hrel.out
        clear hrel
        by_cases hlj : j < on.length
        · obtain ⟨b2, o2, x, rfl, hb2, hx, hatx⟩ := ent_elem HO.out.rd hlj
          have HATX : Hid (EntAt wr b2 (o2 + j * 20) x) := hatx.below HBr.out hb2
          have HATE : Hid (EntAt wr bq (o + k * 20) e) := HAT.out.below HBr.out (Nat.lt_of_lt_of_le hbw hz)
          have hb2r : b2 < wr.heap.size := Nat.lt_of_lt_of_le hb2 HBr.out.size
          have hbbr : bq < wr.heap.size := Nat.lt_of_lt_of_le hbw (Nat.le_trans hz HBr.out.size)
          have hst : ((on.take (j + 1)).any fun x => eqD x (dotE e)) = (((on.take j).any fun x => eqD x (dotE e)) || eqD x (dotE e)) := by rw [Mem.take_snoc hx, List.any_append]; simp
          have HST := Lib.hid hst
          clear hatx hx hst
          obtain ⟨fd, hfd⟩ : ∃ fd, (on.take j).any (fun x => eqD x (dotE e)) = fd := ⟨_, rfl⟩
          rw [hfd] at HST ⊢
          clear hfd
          go_upto_region 14 with fail
          cases fd with
          | true =>
            refine Reg.wp_region_rel (by kernel_rfl) 112 15 rfl rfl (by kernel_rfl) (Reg.Adds) (Reg.Adds.refl) (Reg.Adds.trans)
              (fun i v u => match i with
                | 0 => v = .bool true
                | 1 => v = .bool true
                | 2 => v = undef
                | 3 => v = undef
                | 4 => v = undef
                | 5 => v = undef
                | 6 => v = undef
                | 7 => v = undef
                | 8 => v = undef
                | 9 => v = undef
                | 10 => v = undef
                | 11 => v = undef
                | 12 => v = undef
                | 13 => v = .bool (true || eqD x (dotE e))
                | 14 => v = .bool (true || eqD x (dotE e))
                | _ => True) ?_ ?_
            · refine Reg.Steps.cons ?_ (Reg.Steps.cons ?_ (Reg.Steps.cons ?_ (Reg.Steps.cons ?_ (Reg.Steps.cons ?_ (Reg.Steps.cons ?_ (Reg.Steps.cons ?_ (Reg.Steps.cons ?_ (Reg.Steps.cons ?_ (Reg.Steps.cons ?_ (Reg.Steps.cons ?_ (Reg.Steps.cons ?_ (Reg.Steps.cons ?_ (Reg.Steps.cons ?_ (Reg.Steps.cons ?_ (Reg.Steps.nil _)))))))))))))))
              · intro val ac u hR hp ha K hK      -- 0: t36 := Op.move t9
                have e9 : (ac.tmps[9]?).getD undef = .bool true := ha 9 (by decide)
                clear ha hp
                refine Reg.Op1.plain rfl ?_
                go_wp2
                exact ⟨rfl, hK _ _ rfl (fun j k _ _ => Reg.Adds.refl _ _ _)⟩
              · intro val ac u hR hp ha K hK      -- 1: t37 := Op.move t36
                obtain ⟨w36, h36, r36⟩ := hp 0 (by decide)
                have e36 : (ac.tmps[36]?).getD undef = .bool true := (ha 36 (by decide)).trans h36
                clear h36
                clear ha hp
                refine Reg.Op1.plain rfl ?_
                go_wp2
                exact ⟨rfl, hK _ _ rfl (fun j k _ _ => Reg.Adds.refl _ _ _)⟩
              · intro val ac u hR hp ha K hK      -- 2: t38 := Op.move t7
                obtain ⟨w37, h37, r37⟩ := hp 1 (by decide)
                have e37 : (ac.tmps[37]?).getD undef = .bool true := (ha 37 (by decide)).trans h37
                clear h37
                clear ha hp
                exact Reg.Op1.guarded rfl rfl e37 (fun h => by cases h) (fun _ => hK _ _ rfl (fun j k _ _ => Reg.Adds.refl _ _ _))
              · intro val ac u hR hp ha K hK      -- 3: t39 := Op.move t10
                obtain ⟨w37, h37, r37⟩ := hp 1 (by decide)
                have e37 : (ac.tmps[37]?).getD undef = .bool true := (ha 37 (by decide)).trans h37
                clear h37
                clear ha hp
                exact Reg.Op1.guarded rfl rfl e37 (fun h => by cases h) (fun _ => hK _ _ rfl (fun j k _ _ => Reg.Adds.refl _ _ _))
              · intro val ac u hR hp ha K hK      -- 4: t40 := Op.indexAddr 22 t38 t39
                obtain ⟨w37, h37, r37⟩ := hp 1 (by decide)
                have e37 : (ac.tmps[37]?).getD undef = .bool true := (ha 37 (by decide)).trans h37
                clear h37
                clear ha hp
                exact Reg.Op1.guarded rfl rfl e37 (fun h => by cases h) (fun _ => hK _ _ rfl (fun j k _ _ => Reg.Adds.refl _ _ _))
              · intro val ac u hR hp ha K hK      -- 5: t41 := Op.fieldAddr 40 t40 0
                obtain ⟨w37, h37, r37⟩ := hp 1 (by decide)
                have e37 : (ac.tmps[37]?).getD undef = .bool true := (ha 37 (by decide)).trans h37
                clear h37
                clear ha hp
                exact Reg.Op1.guarded rfl rfl e37 (fun h => by cases h) (fun _ => hK _ _ rfl (fun j k _ _ => Reg.Adds.refl _ _ _))
              · intro val ac u hR hp ha K hK      -- 6: t42 := Op.load 34 t41
                obtain ⟨w37, h37, r37⟩ := hp 1 (by decide)
                have e37 : (ac.tmps[37]?).getD undef = .bool true := (ha 37 (by decide)).trans h37
                clear h37
                clear ha hp
                exact Reg.Op1.guarded rfl rfl e37 (fun h => by cases h) (fun _ => hK _ _ rfl (fun j k _ _ => Reg.Adds.refl _ _ _))
              · intro val ac u hR hp ha K hK      -- 7: t43 := Op.move t1
                obtain ⟨w37, h37, r37⟩ := hp 1 (by decide)
                have e37 : (ac.tmps[37]?).getD undef = .bool true := (ha 37 (by decide)).trans h37
                clear h37
                clear ha hp
                exact Reg.Op1.guarded rfl rfl e37 (fun h => by cases h) (fun _ => hK _ _ rfl (fun j k _ _ => Reg.Adds.refl _ _ _))
              · intro val ac u hR hp ha K hK      -- 8: t44 := Op.move t8
                obtain ⟨w37, h37, r37⟩ := hp 1 (by decide)
                have e37 : (ac.tmps[37]?).getD undef = .bool true := (ha 37 (by decide)).trans h37
                clear h37
                clear ha hp
                exact Reg.Op1.guarded rfl rfl e37 (fun h => by cases h) (fun _ => hK _ _ rfl (fun j k _ _ => Reg.Adds.refl _ _ _))
              · intro val ac u hR hp ha K hK      -- 9: t45 := Op.indexAddr 22 t43 t44
                obtain ⟨w37, h37, r37⟩ := hp 1 (by decide)
                have e37 : (ac.tmps[37]?).getD undef = .bool true := (ha 37 (by decide)).trans h37
                clear h37
                clear ha hp
                exact Reg.Op1.guarded rfl rfl e37 (fun h => by cases h) (fun _ => hK _ _ rfl (fun j k _ _ => Reg.Adds.refl _ _ _))
              · intro val ac u hR hp ha K hK      -- 10: t46 := Op.fieldAddr 40 t45 0
                obtain ⟨w37, h37, r37⟩ := hp 1 (by decide)
                have e37 : (ac.tmps[37]?).getD undef = .bool true := (ha 37 (by decide)).trans h37
                clear h37
                clear ha hp
                exact Reg.Op1.guarded rfl rfl e37 (fun h => by cases h) (fun _ => hK _ _ rfl (fun j k _ _ => Reg.Adds.refl _ _ _))
              · intro val ac u hR hp ha K hK      -- 11: t47 := Op.load 34 t46
                obtain ⟨w37, h37, r37⟩ := hp 1 (by decide)
                have e37 : (ac.tmps[37]?).getD undef = .bool true := (ha 37 (by decide)).trans h37
                clear h37
                clear ha hp
                exact Reg.Op1.guarded rfl rfl e37 (fun h => by cases h) (fun _ => hK _ _ rfl (fun j k _ _ => Reg.Adds.refl _ _ _))
              · intro val ac u hR hp ha K hK      -- 12: t48 := Op.binOp BinOp.eql 34 t42 t47 34
                obtain ⟨w37, h37, r37⟩ := hp 1 (by decide)
                have e37 : (ac.tmps[37]?).getD undef = .bool true := (ha 37 (by decide)).trans h37
                clear h37
                clear ha hp
                exact Reg.Op1.guarded rfl rfl e37 (fun h => by cases h) (fun _ => hK _ _ rfl (fun j k _ _ => Reg.Adds.refl _ _ _))
              · intro val ac u hR hp ha K hK      -- 13: t49 := Op.pick t37 (const (Value.bool true)) t48
                obtain ⟨w37, h37, r37⟩ := hp 1 (by decide)
                have e37 : (ac.tmps[37]?).getD undef = .bool true := (ha 37 (by decide)).trans h37
                clear h37
                obtain ⟨w48, h48, r48⟩ := hp 12 (by decide)
                have e48 : (ac.tmps[48]?).getD undef = undef := (ha 48 (by decide)).trans h48
                clear h48
                clear ha hp
                refine Reg.Op1.plain rfl ?_
                go_wp2
                exact ⟨rfl, hK _ _ rfl (fun j k _ _ => Reg.Adds.refl _ _ _)⟩
              · intro val ac u hR hp ha K hK      -- 14: t9 := Op.assign t49
                obtain ⟨w49, h49, r49⟩ := hp 13 (by decide)
                have e49 : (ac.tmps[49]?).getD undef = .bool (true || eqD x (dotE e)) := (ha 49 (by decide)).trans h49
                clear h49
                clear ha hp
                refine Reg.Op1.plain rfl ?_
                go_wp2
                exact ⟨rfl, hK _ _ rfl (fun j k _ _ => Reg.Adds.refl _ _ _)⟩
            intro val u hR H
            obtain ⟨_, hv, _⟩ := H 14 (by decide)
            have hv : val 14 = .bool (true || eqD x (dotE e)) := hv
            have HBu : Hid (Below w8.heap.size w8 u) := HBr.out.trans (((Below.refl _ wr).drew.trans hR).mono HBr.out.size)
            simp only [List.map_cons, List.map_nil, Reg.lay, Act.put, List.setIfInBounds_toArray, List.set_cons_succ, List.set_cons_zero, Nat.reduceAdd, hv]
            clear hR H hv
            go_wp2
            go_roundw
            case rel => exact ⟨⟨j + 1, by omega, by rw [HST.out], by go_num, HBu⟩⟩
            case measure => simp [intOf]; omega
          | false =>
            refine Reg.wp_region_rel (by kernel_rfl) 112 15 rfl rfl (by kernel_rfl) (Reg.Adds) (Reg.Adds.refl) (Reg.Adds.trans)
              (fun i v u => match i with
                | 0 => v = .bool false
                | 1 => v = .bool false
                | 2 => v = .slice (some ⟨b2, o2, none⟩) on.length co
                | 3 => v = .int .i64 j
                | 4 => v = .pointer (some ⟨b2, o2 + j * 20, none⟩)
                | 5 => v = .pointer (some ⟨b2, o2 + j * 20, none⟩)
                | 6 => v = .agg #[.int .i64 x.dc, .int .i64 x.rng, .int .i64 x.seq]
                | 7 => v = .slice (some ⟨bq, o, none⟩) es.length c
                | 8 => v = .int .i64 k
                | 9 => v = .pointer (some ⟨bq, o + k * 20, none⟩)
                | 10 => v = .pointer (some ⟨bq, o + k * 20, none⟩)
                | 11 => v = .agg #[.int .i64 e.dc, .int .i64 e.rng, .int .i64 e.seq]
                | 12 => v = .bool (eqD x (dotE e))
                | 13 => v = .bool (false || eqD x (dotE e))
                | 14 => v = .bool (false || eqD x (dotE e))
                | _ => True) ?_ ?_
            · refine Reg.Steps.cons ?_ (Reg.Steps.cons ?_ (Reg.Steps.cons ?_ (Reg.Steps.cons ?_ (Reg.Steps.cons ?_ (Reg.Steps.cons ?_ (Reg.Steps.cons ?_ (Reg.Steps.cons ?_ (Reg.Steps.cons ?_ (Reg.Steps.cons ?_ (Reg.Steps.cons ?_ (Reg.Steps.cons ?_ (Reg.Steps.cons ?_ (Reg.Steps.cons ?_ (Reg.Steps.cons ?_ (Reg.Steps.nil _)))))))))))))))
              · intro val ac u hR hp ha K hK      -- 0: t36 := Op.move t9
                have e9 : (ac.tmps[9]?).getD undef = .bool false := ha 9 (by decide)
                clear ha hp
                refine Reg.Op1.plain rfl ?_
                go_wp2
                exact ⟨rfl, hK _ _ rfl (fun j k _ _ => Reg.Adds.refl _ _ _)⟩
              · intro val ac u hR hp ha K hK      -- 1: t37 := Op.move t36
                obtain ⟨w36, h36, r36⟩ := hp 0 (by decide)
                have e36 : (ac.tmps[36]?).getD undef = .bool false := (ha 36 (by decide)).trans h36
                clear h36
                clear ha hp
                refine Reg.Op1.plain rfl ?_
                go_wp2
                exact ⟨rfl, hK _ _ rfl (fun j k _ _ => Reg.Adds.refl _ _ _)⟩
              · intro val ac u hR hp ha K hK      -- 2: t38 := Op.move t7
                have e7 : (ac.tmps[7]?).getD undef = .slice (some ⟨b2, o2, none⟩) on.length co := ha 7 (by decide)
                obtain ⟨w37, h37, r37⟩ := hp 1 (by decide)
                have e37 : (ac.tmps[37]?).getD undef = .bool false := (ha 37 (by decide)).trans h37
                clear h37
                clear ha hp
                refine Reg.Op1.guarded rfl rfl e37 (fun _ => Reg.Op1.plain rfl ?_) (fun h => absurd rfl h)
                go_wp2
                exact ⟨rfl, hK _ _ rfl (fun j k _ _ => Reg.Adds.refl _ _ _)⟩
              · intro val ac u hR hp ha K hK      -- 3: t39 := Op.move t10
                have e10 : (ac.tmps[10]?).getD undef = .int .i64 j := ha 10 (by decide)
                obtain ⟨w37, h37, r37⟩ := hp 1 (by decide)
                have e37 : (ac.tmps[37]?).getD undef = .bool false := (ha 37 (by decide)).trans h37
                clear h37
                clear ha hp
                refine Reg.Op1.guarded rfl rfl e37 (fun _ => Reg.Op1.plain rfl ?_) (fun h => absurd rfl h)
                go_wp2
                exact ⟨rfl, hK _ _ rfl (fun j k _ _ => Reg.Adds.refl _ _ _)⟩
              · intro val ac u hR hp ha K hK      -- 4: t40 := Op.indexAddr 22 t38 t39
                obtain ⟨w38, h38, r38⟩ := hp 2 (by decide)
                have e38 : (ac.tmps[38]?).getD undef = .slice (some ⟨b2, o2, none⟩) on.length co := (ha 38 (by decide)).trans h38
                clear h38
                obtain ⟨w39, h39, r39⟩ := hp 3 (by decide)
                have e39 : (ac.tmps[39]?).getD undef = .int .i64 j := (ha 39 (by decide)).trans h39
                clear h39
                obtain ⟨w37, h37, r37⟩ := hp 1 (by decide)
                have e37 : (ac.tmps[37]?).getD undef = .bool false := (ha 37 (by decide)).trans h37
                clear h37
                clear ha hp
                refine Reg.Op1.guarded rfl rfl e37 (fun _ => Reg.Op1.plain rfl ?_) (fun h => absurd rfl h)
                go_wp2
                exact ⟨rfl, hK _ _ rfl (fun j k _ _ => Reg.Adds.refl _ _ _)⟩
              · intro val ac u hR hp ha K hK      -- 5: t41 := Op.fieldAddr 40 t40 0
                obtain ⟨w40, h40, r40⟩ := hp 4 (by decide)
                have e40 : (ac.tmps[40]?).getD undef = .pointer (some ⟨b2, o2 + j * 20, none⟩) := (ha 40 (by decide)).trans h40
                clear h40
                obtain ⟨w37, h37, r37⟩ := hp 1 (by decide)
                have e37 : (ac.tmps[37]?).getD undef = .bool false := (ha 37 (by decide)).trans h37
                clear h37
                clear ha hp
                refine Reg.Op1.guarded rfl rfl e37 (fun _ => Reg.Op1.plain rfl ?_) (fun h => absurd rfl h)
                go_wp2
                exact ⟨rfl, hK _ _ rfl (fun j k _ _ => Reg.Adds.refl _ _ _)⟩
              · intro val ac u hR hp ha K hK      -- 6: t42 := Op.load 34 t41
                obtain ⟨w41, h41, r41⟩ := hp 5 (by decide)
                have e41 : (ac.tmps[41]?).getD undef = .pointer (some ⟨b2, o2 + j * 20, none⟩) := (ha 41 (by decide)).trans h41
                clear h41
                obtain ⟨w37, h37, r37⟩ := hp 1 (by decide)
                have e37 : (ac.tmps[37]?).getD undef = .bool false := (ha 37 (by decide)).trans h37
                clear h37
                clear ha hp
                have z0 := (hR.cell (p := ⟨b2, o2 + j * 20, none⟩) hb2r).trans (HATX.out.c 0 _ rfl)
                have z1 := (hR.cell (p := ⟨b2, o2 + j * 20 + 1, none⟩) hb2r).trans (HATX.out.c 1 _ rfl)
                have z2 := (hR.cell (p := ⟨b2, o2 + j * 20 + 2, none⟩) hb2r).trans (HATX.out.c 2 _ rfl)
                refine Reg.Op1.guarded rfl rfl e37 (fun _ => Reg.Op1.plain rfl ?_) (fun h => absurd rfl h)
                go_wp2
                exact ⟨rfl, hK _ _ rfl (fun j k _ _ => Reg.Adds.refl _ _ _)⟩
              · intro val ac u hR hp ha K hK      -- 7: t43 := Op.move t1
                have e1 : (ac.tmps[1]?).getD undef = .slice (some ⟨bq, o, none⟩) es.length c := ha 1 (by decide)
                obtain ⟨w37, h37, r37⟩ := hp 1 (by decide)
                have e37 : (ac.tmps[37]?).getD undef = .bool false := (ha 37 (by decide)).trans h37
                clear h37
                clear ha hp
                refine Reg.Op1.guarded rfl rfl e37 (fun _ => Reg.Op1.plain rfl ?_) (fun h => absurd rfl h)
                go_wp2
                exact ⟨rfl, hK _ _ rfl (fun j k _ _ => Reg.Adds.refl _ _ _)⟩
              · intro val ac u hR hp ha K hK      -- 8: t44 := Op.move t8
                have e8 : (ac.tmps[8]?).getD undef = .int .i64 k := ha 8 (by decide)
                obtain ⟨w37, h37, r37⟩ := hp 1 (by decide)
                have e37 : (ac.tmps[37]?).getD undef = .bool false := (ha 37 (by decide)).trans h37
                clear h37
                clear ha hp
                refine Reg.Op1.guarded rfl rfl e37 (fun _ => Reg.Op1.plain rfl ?_) (fun h => absurd rfl h)
                go_wp2
                exact ⟨rfl, hK _ _ rfl (fun j k _ _ => Reg.Adds.refl _ _ _)⟩
              · intro val ac u hR hp ha K hK      -- 9: t45 := Op.indexAddr 22 t43 t44
                obtain ⟨w43, h43, r43⟩ := hp 7 (by decide)
                have e43 : (ac.tmps[43]?).getD undef = .slice (some ⟨bq, o, none⟩) es.length c := (ha 43 (by decide)).trans h43
                clear h43
                obtain ⟨w44, h44, r44⟩ := hp 8 (by decide)
                have e44 : (ac.tmps[44]?).getD undef = .int .i64 k := (ha 44 (by decide)).trans h44
                clear h44
                obtain ⟨w37, h37, r37⟩ := hp 1 (by decide)
                have e37 : (ac.tmps[37]?).getD undef = .bool false := (ha 37 (by decide)).trans h37
                clear h37
                clear ha hp
                refine Reg.Op1.guarded rfl rfl e37 (fun _ => Reg.Op1.plain rfl ?_) (fun h => absurd rfl h)
                go_wp2
                exact ⟨rfl, hK _ _ rfl (fun j k _ _ => Reg.Adds.refl _ _ _)⟩
              · intro val ac u hR hp ha K hK      -- 10: t46 := Op.fieldAddr 40 t45 0
                obtain ⟨w45, h45, r45⟩ := hp 9 (by decide)
                have e45 : (ac.tmps[45]?).getD undef = .pointer (some ⟨bq, o + k * 20, none⟩) := (ha 45 (by decide)).trans h45
                clear h45
                obtain ⟨w37, h37, r37⟩ := hp 1 (by decide)
                have e37 : (ac.tmps[37]?).getD undef = .bool false := (ha 37 (by decide)).trans h37
                clear h37
                clear ha hp
                refine Reg.Op1.guarded rfl rfl e37 (fun _ => Reg.Op1.plain rfl ?_) (fun h => absurd rfl h)
                go_wp2
                exact ⟨rfl, hK _ _ rfl (fun j k _ _ => Reg.Adds.refl _ _ _)⟩
              · intro val ac u hR hp ha K hK      -- 11: t47 := Op.load 34 t46
                obtain ⟨w46, h46, r46⟩ := hp 10 (by decide)
                have e46 : (ac.tmps[46]?).getD undef = .pointer (some ⟨bq, o + k * 20, none⟩) := (ha 46 (by decide)).trans h46
                clear h46
                obtain ⟨w37, h37, r37⟩ := hp 1 (by decide)
                have e37 : (ac.tmps[37]?).getD undef = .bool false := (ha 37 (by decide)).trans h37
                clear h37
                clear ha hp
                have z0 := (hR.cell (p := ⟨bq, o + k * 20, none⟩) hbbr).trans (HATE.out.c 0 _ rfl)
                have z1 := (hR.cell (p := ⟨bq, o + k * 20 + 1, none⟩) hbbr).trans (HATE.out.c 1 _ rfl)
                have z2 := (hR.cell (p := ⟨bq, o + k * 20 + 2, none⟩) hbbr).trans (HATE.out.c 2 _ rfl)
                refine Reg.Op1.guarded rfl rfl e37 (fun _ => Reg.Op1.plain rfl ?_) (fun h => absurd rfl h)
                go_wp2
                exact ⟨rfl, hK _ _ rfl (fun j k _ _ => Reg.Adds.refl _ _ _)⟩
              · intro val ac u hR hp ha K hK      -- 12: t48 := Op.binOp BinOp.eql 34 t42 t47 34
                obtain ⟨w42, h42, r42⟩ := hp 6 (by decide)
                have e42 : (ac.tmps[42]?).getD undef = .agg #[.int .i64 x.dc, .int .i64 x.rng, .int .i64 x.seq] := (ha 42 (by decide)).trans h42
                clear h42
                obtain ⟨w47, h47, r47⟩ := hp 11 (by decide)
                have e47 : (ac.tmps[47]?).getD undef = .agg #[.int .i64 e.dc, .int .i64 e.rng, .int .i64 e.seq] := (ha 47 (by decide)).trans h47
                clear h47
                obtain ⟨w37, h37, r37⟩ := hp 1 (by decide)
                have e37 : (ac.tmps[37]?).getD undef = .bool false := (ha 37 (by decide)).trans h37
                clear h37
                clear ha hp
                have hq := eql_dt x (dotE e)
                unfold dotE at hq
                dsimp only at hq
                refine Reg.Op1.guarded rfl rfl e37 (fun _ => Reg.Op1.plain rfl ?_) (fun h => absurd rfl h)
                go_wp2
                exact ⟨rfl, hK _ _ rfl (fun j k _ _ => Reg.Adds.refl _ _ _)⟩
              · intro val ac u hR hp ha K hK      -- 13: t49 := Op.pick t37 (const (Value.bool true)) t48
                obtain ⟨w37, h37, r37⟩ := hp 1 (by decide)
                have e37 : (ac.tmps[37]?).getD undef = .bool false := (ha 37 (by decide)).trans h37
                clear h37
                obtain ⟨w48, h48, r48⟩ := hp 12 (by decide)
                have e48 : (ac.tmps[48]?).getD undef = .bool (eqD x (dotE e)) := (ha 48 (by decide)).trans h48
                clear h48
                clear ha hp
                refine Reg.Op1.plain rfl ?_
                go_wp2
                exact ⟨rfl, hK _ _ rfl (fun j k _ _ => Reg.Adds.refl _ _ _)⟩
              · intro val ac u hR hp ha K hK      -- 14: t9 := Op.assign t49
                obtain ⟨w49, h49, r49⟩ := hp 13 (by decide)
                have e49 : (ac.tmps[49]?).getD undef = .bool (false || eqD x (dotE e)) := (ha 49 (by decide)).trans h49
                clear h49
                clear ha hp
                refine Reg.Op1.plain rfl ?_
                go_wp2
                exact ⟨rfl, hK _ _ rfl (fun j k _ _ => Reg.Adds.refl _ _ _)⟩
            intro val u hR H
            obtain ⟨_, hv, _⟩ := H 14 (by decide)
            have hv : val 14 = .bool (false || eqD x (dotE e)) := hv
            have HBu : Hid (Below w8.heap.size w8 u) := HBr.out.trans (((Below.refl _ wr).drew.trans hR).mono HBr.out.size)
            simp only [List.map_cons, List.map_nil, Reg.lay, Act.put, List.setIfInBounds_toArray, List.set_cons_succ, List.set_cons_zero, Nat.reduceAdd, hv]
            clear hR H hv
            go_wp2
            go_roundw
            case rel => exact ⟨⟨j + 1, by omega, by rw [HST.out], by go_num, HBu⟩⟩
            case measure => simp [intOf]; omega
        · obtain rfl : j = on.length := by omega
          rw [List.take_length]
          have HAT9 : Hid (EntAt wr bq (o + k * 20) e) := HAT.out.below HBr.out (Nat.lt_of_lt_of_le hbw hz)
          have HO9 : Hid (EOwn wr Ao co on) := HO.out.below HBr.out (fun k hk => HO.out.lt hk)
          have HB9 : Hid (Below w4.heap.size w4 wr) := HB.out.trans (HBr.out.mono HB.out.size)
          cases hth : on.any fun x => eqD x (dotE e) with
          | true =>
            have HTS2 : Hid (onceL (es.take (k + 1)) = on) := by show _ = _; rw [HTS.out]; unfold onceStep; rw [if_pos hth]
            clear hth
            go_wp2
            go_roundw
            case rel => exact ⟨⟨k + 1, Ao, co, on, by omega, rfl, by go_num, by omega, HTS2, HO9, HF, HB9⟩⟩
            case measure => simp [intOf]; omega
          | false =>
            have HTS2 : Hid (onceL (es.take (k + 1)) = on ++ [e]) := by show _ = _; rw [HTS.out]; unfold onceStep; rw [if_neg (by simp [hth])]
            have hol : (on ++ [e]).length = on.length + 1 := by simp
            have HOL := Lib.hid hol
            clear hth hol
            have HKA : Hid (Mem.Keeps (fun q => Mem.blk Ao = some q) wr (wr.alloc (.cells (entCells e).toArray 40))) := (Mem.Keeps.refl (fun q => Mem.blk Ao = some q) wr).alloc _
            go_wp2_with (first | ((with_reducible refine Mem.load_agg _ _ entry_agg bq (o + k * 20) (entCells e) ?hx (entCells_length e) HAT9.out.c ?_); case hx => exact rfl) | ((with_reducible refine Mem.build1_agg _ _ 20 _ Try.underlying22 entry_zero (by decide) (by decide) (entCells e) ?hra (entCells_length _) ?_); (case hra => exact rfl)) | (at_builtin; refine Mem.wpList_app _ rfl (.tmp 52) (.tmp 57) _ rfl entries_elem Ao on.length co _ rfl (wr.heap.size + 1) (some ⟨wr.heap.size, 0, none⟩) 1 1 (entCells e) rfl ?_ (HO9.out.alloc _) (Mem.Rd.alloc_new wr _ _ _ rfl) rfl (ent_one e) (by unfold maxLen; omega) (by omega); intro A4 c4 w3q hown hg2 hat; have hk3 := HKA.out.grown hg2 (fun k hk _ => hk); have HK3 := Lib.hid hk3; have HO3 := Lib.hid hown; have HAT4 := Lib.hid hat; clear hown hg2 hat hk3))
            have hO4 : Hid (EOwn w3q A4 c4 (on ++ [e])) := by
              show Mem.Own _ _ _ _ _ _ _
              rw [HOL.out, List.flatMap_append]
              simpa using HO3.out
            have hF4 : Hid (Mem.From w4.heap.size A4) := by
              rcases HAT4.out with h | h
              · rw [h]; exact HF.out
              · rw [h]; exact Mem.From.some_ (Nat.le_trans HB9.out.size (by simp))
            have hB4 : Hid (Below w4.heap.size w4 w3q) := HB9.out.trans (HK3.out.below (fun q hq => HF.out.blk q hq) HB9.out.size)
            clear HO3 HK3 HAT4 HKA
            go_roundw
            case rel => exact ⟨⟨k + 1, A4, c4, on ++ [e], by omega, by rw [HOL.out], by go_num, by rw [HOL.out]; omega, HTS2, hO4, hF4, hB4⟩⟩
            case measure => simp [intOf]; omega
    · obtain rfl : k = es.length := by omega
      rw [List.take_length] at HON
      have HT := Lib.hid (HT4.out.below HB.out)
      have HBW := Lib.hid (HB4.out.trans (HB.out.mono HB4.out.size))
      have hlta : ∀ k, fpS ga ba [] k → k < w4.heap.size := fun k hk => HT4.out.a.S.lt hk
      have hltb : ∀ k, fpS gb bb [] k → k < w4.heap.size := fun k hk => HT4.out.b.S.lt hk
      have hapA : ∀ k, Mem.blk Ao = some k → ¬ fpS ga ba [] k := fun k hk h => by have := HF.out.blk k hk; have := hlta k h; omega
      have hapB : ∀ k, Mem.blk Ao = some k → ¬ fpS gb bb [] k := fun k hk h => by have := HF.out.blk k hk; have := hltb k h; omega
      have HAPA := Lib.hid hapA
      have HAPB := Lib.hid hapB
      have hol := ents_len on
      have hoo := ents_one on
      have hrd3 := HO.out.rd.alloc (Nat.le_refl _) (.cells #[] 40)
      have honl : on.length ≤ 299 := by omega
      clear hlta hltb hapA hapB HB HB4 HT4 HF
      go_upto_region 18 with (first | (at_builtin; refine Mem.wpList_app0 _ rfl (.tmp 60) (.tmp 61) _ rfl entries_elem (some ⟨wr.heap.size, 0, none⟩) rfl wr.heap.size Ao on.length co (on.flatMap entCells) rfl ?_ (Mem.Own.lit wr _ 20 #[] 0 rfl rfl (by simp [maxLen])) hrd3 hol hoo (by unfold maxLen; omega) (by omega); intro A1 c1 w6 hown hb6 hat6; have HO6 := Lib.hid hown; have HB6 : Hid (Below wr.heap.size wr w6) := (Reg.below_new _ _).trans (hb6.mono (by simp)); have HF6 : Hid (Mem.From wr.heap.size A1) := hat6.elim (fun h => by rw [h]; exact Mem.From.some_ (Nat.le_refl _)) (fun h => by rw [h]; exact Mem.From.some_ (by simp)); clear hown hb6 hat6 hrd3) | (go_at_call 12; refine (storePut_any rng ga ba col0 [] A1 c1 on w6 (HT.out.a.S.below HB6.out) HT.out.a.G HO6.out (fun q hq h => by have h1 := HF6.out.blk q hq; have h2 := HT.out.a.S.lt h; omega) (by simp [lenS, states]; omega)).mono ?_; rintro x w7 he; obtain ⟨rsa, rfl, hsa, hT7, hK7⟩ := (HT.out.below HB6.out).putA (Nat.le_trans HBW.out.size HB6.out.size) he))
      have HT7 := Lib.hid hT7
      have HSA := Lib.hid (hsa : states rsa = (putL rng col0 [] on).1)
      have HO7 : Hid (EOwn w7 Ao co on) := (HO.out.below HB6.out (fun k hk => HO.out.lt hk)).keeps hK7 HAPA.out
      have HB7 : Hid (Below w.heap.size w w7) := (HBW.out.trans (HB6.out.mono HBW.out.size)).trans (hK7.below HT.out.a.a (Nat.le_trans HBW.out.size HB6.out.size))
      have hw0 : IntKind.i64.wrap ((on.length : Int) - 1) = (on.length : Int) - 1 := IntWalk.i64_in _ (by omega)
      clear hT7 hsa hK7 HO6 HB6 HF6 HT HBW HO hol hoo HAPA
      go_wp2
      go_loopw [11] (BpRel w rng ga ba gb bb rsa Ao co on) (fun t _ => (intOf t + 1).toNat)
      case atStart => exact ⟨⟨0, [], by omega, by simp, HT7, by simp [lenS, states], rfl, HO7, HAPB, HB7⟩⟩
      case round =>
        obtain ⟨j, rsb, hj, rfl, HT, hlb, HSB, HO, HAB, HB⟩ := hrel.out
        clear hrel HO7 HB7 HT7 HAPB
        have hz := HB.out.size
        by_cases hlj : j < on.length
        · obtain ⟨i, hi⟩ : ∃ i : Nat, on.length - 1 - j = i := ⟨_, rfl⟩
          have hi2 : (on.length : Int) - 1 - j = (i : Int) := by omega
          obtain ⟨b2, o2, x, rfl, hb2, hx, hatx⟩ := ent_elem HO.out.rd (k := i) (by omega)
          have HATX := Lib.hid hatx
          have hrv : on.reverse[j]? = some x := by rw [List.getElem?_reverse hlj, hi]; exact hx
          have HRV := Lib.hid (show (putL rng col0 [] (on.reverse.take (j + 1))).1 = (putStep rng col0 (states rsb, 0) x).1 by
            rw [Mem.take_snoc hrv, putL_snoc]
            obtain ⟨q, hq⟩ : ∃ q, putL rng col0 [] (on.reverse.take j) = q := ⟨_, rfl⟩
            have h9 := HSB.out
            rw [hq] at h9 ⊢
            obtain ⟨q1, q2⟩ := q
            dsimp only at h9
            rw [h9]
            exact putStep_fst _ _ _ _ _ _)
          have HPUT := Lib.hid (put_oneB HT.out hz x (by omega))
          have hil : i < on.length := by omega
          have HI2 := Lib.hid hi2
          have HOW := Lib.hid HO.out
          rw [hi2]
          have hw1 : IntKind.i64.wrap ((i : Int) - 1) = (i : Int) - 1 := IntWalk.i64_in _ (by omega)
          clear hatx hx hrv hi hi2
          go_wp2_with (first | ((with_reducible refine Mem.load_agg _ _ entry_agg b2 (o2 + i * 20) (entCells x) ?hx (entCells_length x) HATX.out.c ?_); case hx => exact rfl) | ((with_reducible refine Mem.build1_agg _ _ 20 _ Try.underlying22 entry_zero (by decide) (by decide) (entCells x) ?hra (entCells_length _) ?_); (case hra => exact rfl)) | (go_at_call 12; refine HPUT.out.mono ?_; rintro x9 w9 ⟨rsb9, n9, rfl, hs9, hT9, hK9, hq9⟩))
          have HT9 := Lib.hid hT9
          have HS9 : Hid ((putL rng col0 [] (on.reverse.take (j + 1))).1 = states rsb9) := HRV.out.trans hs9.symm
          have HO9 : Hid (EOwn w9 (some ⟨b2, o2, none⟩) co on) := HO.out.keeps hK9 HAB.out
          have HB9 : Hid (Below w.heap.size w w9) := HB.out.trans (hK9.below HT.out.b.a hz)
          have HA9 : Hid (∀ k, Mem.blk (some ⟨b2, o2, none⟩) = some k → ¬ fpS gb bb rsb9 k) := fun k hk h => by
            rcases hq9 k h with h | h
            · exact HAB.out k hk h
            · have := HO.out.lt hk; omega
          have hl9 : lenS (states rsb9) ≤ j + 1 := by
            rw [hs9]
            unfold putStep
            split
            · dsimp only; rw [putS_len]; omega
            · dsimp only; omega
          clear hT9 hs9 hK9 hq9 HPUT HRV HOW
          go_roundw
          case rel => exact ⟨⟨j + 1, rsb9, by omega, by have := HI2.out; congr 1 <;> omega, HT9, hl9, HS9, HO9, HA9, HB9⟩⟩
          case measure => simp [intOf]
        · obtain rfl : j = on.length := by omega
          have hm1 : (on.length : Int) - 1 - (on.length : Nat) = -1 := by omega
          rw [hm1]
          have hrev : on.reverse.take on.length = on.reverse := by rw [← List.length_reverse, List.take_length]
          rw [hrev] at HSB
          have hga : Sto.Good rng (states rsa) := HT.out.a.G
          have hgb : Sto.Good rng (states rsb) := HT.out.b.G
          have hpm : (all (states rsa)).Perm (all (states rsb)) := by
            rw [HSA.out, ← HSB.out]
            exact order_same on (by rw [← HON.out]; exact onceL_apart es)
          obtain ⟨hsv, hsk, hsl⟩ := hga.same hgb hpm
          have hka : (states rsa).map (·.k) = rsa.map (·.l.k) := by unfold states; rw [List.map_map]; rfl
          have hkb : (states rsb).map (·.k) = rsb.map (·.l.k) := by unfold states; rw [List.map_map]; rfl
          rw [hka, hkb] at hsk
          have hlen : rsa.length = rsb.length := by simpa using hsk.length_eq
          have hlla : lenS (states rsa) ≤ 299 := by rw [hsl]; omega
          have hra : rsa.length ≤ 299 := Nat.le_trans (Sto.Good.len_le (rng := rng) hga.hne) hlla
          obtain ⟨ks, hks⟩ : ∃ ks, sortK (rsa.map (·.l.k)) = ks := ⟨_, rfl⟩
          have hks2 : sortK (rsb.map (·.l.k)) = ks := by rw [← hks]; exact (sortK_perm hsk).symm
          have hkl : ks.length = rsa.length := by rw [← hks, len_keys]
          have hokS : ∀ k ∈ ks, okS k := fun k hk => hga.okS k ((sortK_self _).subset (hks ▸ hk))
          have HKA := Lib.hid (storeKeys_any HT.out.a.S (by omega))
          rw [hks, ← hkl] at HKA
          have HSV := Lib.hid hsv
          have HOK := Lib.hid hokS
          have HHA := Lib.hid hga
          have HHB := Lib.hid hgb
          have HKS2 := Lib.hid hks2
          have hkb2 : rsb.length = ks.length := by omega
          have HKL := Lib.hid hkl
          have hkl3 : ks.length ≤ 299 := by omega
          obtain ⟨ln, hln⟩ : ∃ ln, lenS (states rsa) = ln := ⟨_, rfl⟩
          have hln2 : lenS (states rsb) = ln := by omega
          have HLN := Lib.hid hln
          have HLN2 := Lib.hid hln2
          have hlnb : ln ≤ 299 := by omega
          clear hga hgb hpm hsv hsk hsl hka hkb hlen hlla hra hks hks2 hokS hrev hm1 hlb hkl hln hln2 hj
          go_upto_region 23 with (go_at_call 16; refine HKA.out.mono ?_; clear HKA; rintro x9 w9 ⟨Ak, ck, rfl, hO9, hF9, hb9⟩)
          have HT9 := Lib.hid (HT.out.below hb9)
          have HB9 : Hid (Below w.heap.size w w9) := HB.out.trans (hb9.mono HB.out.size)
          have HK9 := Lib.hid hO9
          have HKB := Lib.hid (storeKeys_any HT9.out.b.S (by omega))
          rw [HKS2.out, hkb2] at HKB
          have d9 : ((ln : Int) != (ln : Int)) = false := by simp
          clear hO9 hF9 hb9 HT HB
          go_upto_region 25 with (first | (go_at_call 16; refine HKB.out.mono ?_; clear HKB; rintro x10 w10 ⟨Al, cl, rfl, hO10, hF10, hb10⟩; have HT10 := Lib.hid (HT9.out.below hb10); have HB10 : Hid (Below w.heap.size w w10) := HB9.out.trans (hb10.mono HB9.out.size); have HK10 : Hid (Mem.Own w10 9 1 Ak ks.length ck (ks.map Value.string)) := HK9.out.below hb10 (fun k hk => HK9.out.lt hk); have HWD := Lib.hid (words_same Ak Al ck cl ks w10 HK10.out.rd hO10.rd (by unfold maxLen; omega)); clear hO10 hF10 hb10) | (go_at_call 17; refine HWD.out.mono ?_; clear HWD; rintro x11 w11 ⟨rfl, hb11⟩; have HT11 := Lib.hid (HT10.out.below hb11); have HB11 : Hid (Below w.heap.size w w11) := HB10.out.trans (hb11.mono HB10.out.size); have HK11 : Hid (Mem.Own w11 9 1 Ak ks.length ck (ks.map Value.string)) := HK10.out.below hb11 (fun k hk => HK10.out.lt hk); have HLA := Lib.hid (storeLen_any HT11.out.a.S (by rw [HLN.out]; omega)); rw [HLN.out] at HLA; clear hb11) | (go_at_call 14; refine HLA.out.mono ?_; clear HLA; rintro x12 w12 ⟨rfl, hb12⟩; have HT12 := Lib.hid (HT11.out.below hb12); have HB12 : Hid (Below w.heap.size w w12) := HB11.out.trans (hb12.mono HB11.out.size); have HK12 : Hid (Mem.Own w12 9 1 Ak ks.length ck (ks.map Value.string)) := HK11.out.below hb12 (fun k hk => HK11.out.lt hk); have HLB := Lib.hid (storeLen_any HT12.out.b.S (by rw [HLN2.out]; omega)); rw [HLN2.out] at HLB; clear hb12) | (go_at_call 14; refine HLB.out.mono ?_; clear HLB; rintro x13 w13 ⟨rfl, hb13⟩))
          have HT13 := Lib.hid (HT12.out.below hb13)
          have HB13 : Hid (Below w.heap.size w w13) := HB12.out.trans (hb13.mono HB12.out.size)
          have HK13 : Hid (Mem.Own w13 9 1 Ak ks.length ck (ks.map Value.string)) := HK12.out.below hb13 (fun k hk => HK12.out.lt hk)
          clear hb13 HT9 HT10 HT11 HT12 HB9 HB10 HB11 HB12 HK9 HK10 HK11 HK12 HO HAB HKS2 d9 HKL
          go_wp2
          go_loopw [13] (FiRel w13 ks) (fun t _ => ks.length - (intOf t).toNat)
          case atStart => exact ⟨⟨0, by omega, rfl, Below.refl _ _⟩⟩
          case round =>
            obtain ⟨j, hj, rfl, HBr⟩ := hrel.out
            clear hrel
            by_cases hlj : j < ks.length
            · have HTr := Lib.hid (HT13.out.below HBr.out)
              have HKr : Hid (Mem.Own wr 9 1 Ak ks.length ck (ks.map Value.string)) := HK13.out.below HBr.out (fun k hk => HK13.out.lt hk)
              obtain ⟨bk, ok, hAk⟩ := HKr.out.form (by omega)
              subst hAk
              obtain ⟨q, hq⟩ : ∃ q, ks[j]? = some q := ⟨_, List.getElem?_eq_getElem hlj⟩
              have x1 := HKr.out.cell (j := j) (u := .string q) (by rw [List.getElem?_map, hq]; rfl)
              have hbk : bk < wr.heap.size := HKr.out.lt rfl
              have hqk := HOK.out q (List.mem_of_getElem? hq)
              have HQK := Lib.hid hqk
              obtain ⟨l, hl⟩ : ∃ l, vers (states rsa) q = l := ⟨_, rfl⟩
              have HL := Lib.hid hl
              have HL2 : Hid (vers (states rsb) q = l) := (HSV.out q).symm.trans hl
              have hll : l.length ≤ maxLen := by
                rw [← hl]
                refine Nat.le_trans (vers_len _ _) ?_
                rw [HLN.out]
                unfold maxLen; omega
              have hea : ∀ r ∈ rsa, r.l.es.length ≤ 300 := fun r hr => by have := es_le hr; rw [HLN.out] at this; omega
              have heb : ∀ r ∈ rsb, r.l.es.length ≤ 300 := fun r hr => by have := es_le hr; rw [HLN2.out] at this; omega
              have HEA := Lib.hid hea
              have HEB := Lib.hid heb
              clear hq hqk hl hea heb
              go_upto_region 28 with fail
              refine Reg.wp_region_rel (by kernel_rfl) 112 14 rfl rfl (by kernel_rfl) (Reg.Adds) (Reg.Adds.refl) (Reg.Adds.trans)
                (fun i v u => match i with
                  | 0 => v = .pointer (some ⟨ga, 0, none⟩)
                  | 1 => v = .slice (some ⟨bk, ok, none⟩) ks.length ck
                  | 2 => v = .int .i64 j
                  | 3 => v = .pointer (some ⟨bk, ok + j, none⟩)
                  | 4 => v = .string q
                  | 5 => ∃ A1 c1, v = .slice A1 l.length c1 ∧ Mem.Rd u u.heap.size A1 (l.flatMap entCells)
                  | 6 => v = .pointer (some ⟨gb, 0, none⟩)
                  | 7 => v = .slice (some ⟨bk, ok, none⟩) ks.length ck
                  | 8 => v = .int .i64 j
                  | 9 => v = .pointer (some ⟨bk, ok + j, none⟩)
                  | 10 => v = .string q
                  | 11 => ∃ A1 c1, v = .slice A1 l.length c1 ∧ Mem.Rd u u.heap.size A1 (l.flatMap entCells)
                  | 12 => v = .bool true
                  | 13 => v = .bool false
                  | _ => True) ?_ ?_
              · refine Reg.Steps.cons ?_ (Reg.Steps.cons ?_ (Reg.Steps.cons ?_ (Reg.Steps.cons ?_ (Reg.Steps.cons ?_ (Reg.Steps.cons ?_ (Reg.Steps.cons ?_ (Reg.Steps.cons ?_ (Reg.Steps.cons ?_ (Reg.Steps.cons ?_ (Reg.Steps.cons ?_ (Reg.Steps.cons ?_ (Reg.Steps.cons ?_ (Reg.Steps.cons ?_ (Reg.Steps.nil _))))))))))))))
                · intro val ac u hR hp ha K hK      -- 0: t98 := Op.move t5
                  have e5 : (ac.tmps[5]?).getD undef = .pointer (some ⟨ga, 0, none⟩) := ha 5 (by decide)
                  clear ha hp
                  refine Reg.Op1.plain rfl ?_
                  go_wp2
                  exact ⟨rfl, hK _ _ rfl (fun j k _ _ => Reg.Adds.refl _ _ _)⟩
                · intro val ac u hR hp ha K hK      -- 1: t99 := Op.move t12
                  have e12 : (ac.tmps[12]?).getD undef = .slice (some ⟨bk, ok, none⟩) ks.length ck := ha 12 (by decide)
                  clear ha hp
                  refine Reg.Op1.plain rfl ?_
                  go_wp2
                  exact ⟨rfl, hK _ _ rfl (fun j k _ _ => Reg.Adds.refl _ _ _)⟩
                · intro val ac u hR hp ha K hK      -- 2: t100 := Op.move t13
                  have e13 : (ac.tmps[13]?).getD undef = .int .i64 j := ha 13 (by decide)
                  clear ha hp
                  refine Reg.Op1.plain rfl ?_
                  go_wp2
                  exact ⟨rfl, hK _ _ rfl (fun j k _ _ => Reg.Adds.refl _ _ _)⟩
                · intro val ac u hR hp ha K hK      -- 3: t101 := Op.indexAddr 45 t99 t100
                  obtain ⟨w99, h99, r99⟩ := hp 1 (by decide)
                  have e99 : (ac.tmps[99]?).getD undef = .slice (some ⟨bk, ok, none⟩) ks.length ck := (ha 99 (by decide)).trans h99
                  clear h99
                  obtain ⟨w100, h100, r100⟩ := hp 2 (by decide)
                  have e100 : (ac.tmps[100]?).getD undef = .int .i64 j := (ha 100 (by decide)).trans h100
                  clear h100
                  clear ha hp
                  refine Reg.Op1.plain rfl ?_
                  go_wp2
                  exact ⟨rfl, hK _ _ rfl (fun j k _ _ => Reg.Adds.refl _ _ _)⟩
                · intro val ac u hR hp ha K hK      -- 4: t102 := Op.load 9 t101
                  obtain ⟨w101, h101, r101⟩ := hp 3 (by decide)
                  have e101 : (ac.tmps[101]?).getD undef = .pointer (some ⟨bk, ok + j, none⟩) := (ha 101 (by decide)).trans h101
                  clear h101
                  clear ha hp
                  have z0 := (hR.cell (p := ⟨bk, ok + j, none⟩) hbk).trans x1
                  refine Reg.Op1.plain rfl ?_
                  go_wp2
                  exact ⟨rfl, hK _ _ rfl (fun j k _ _ => Reg.Adds.refl _ _ _)⟩
                · intro val ac u hR hp ha K hK      -- 5: t103 := Op.call { value (Operand.func 15), args := #[t98, t102], argTypes := #[30, 9] }
                  obtain ⟨w98, h98, r98⟩ := hp 0 (by decide)
                  have e98 : (ac.tmps[98]?).getD undef = .pointer (some ⟨ga, 0, none⟩) := (ha 98 (by decide)).trans h98
                  clear h98
                  obtain ⟨w102, h102, r102⟩ := hp 4 (by decide)
                  have e102 : (ac.tmps[102]?).getD undef = .string q := (ha 102 (by decide)).trans h102
                  clear h102
                  clear ha hp
                  refine Reg.Op1.plain rfl ?_
                  go_wp2_with fail
                  refine (storeVersions_any (HTr.out.a.S.drew.below hR) HQK.out HEA.out).mono ?_
                  rintro x w' ⟨A1, c1, rfl, h1, h2, h3⟩
                  rw [HL.out] at h1 ⊢
                  go_wp2_with fail
                  exact ⟨rfl, hK _ _ ⟨A1, c1, rfl, h1.rd⟩ (fun j k _ _ => h3)⟩
                · intro val ac u hR hp ha K hK      -- 6: t104 := Op.move t6
                  have e6 : (ac.tmps[6]?).getD undef = .pointer (some ⟨gb, 0, none⟩) := ha 6 (by decide)
                  clear ha hp
                  refine Reg.Op1.plain rfl ?_
                  go_wp2
                  exact ⟨rfl, hK _ _ rfl (fun j k _ _ => Reg.Adds.refl _ _ _)⟩
                · intro val ac u hR hp ha K hK      -- 7: t105 := Op.move t12
                  have e12 : (ac.tmps[12]?).getD undef = .slice (some ⟨bk, ok, none⟩) ks.length ck := ha 12 (by decide)
                  clear ha hp
                  refine Reg.Op1.plain rfl ?_
                  go_wp2
                  exact ⟨rfl, hK _ _ rfl (fun j k _ _ => Reg.Adds.refl _ _ _)⟩
                · intro val ac u hR hp ha K hK      -- 8: t106 := Op.move t13
                  have e13 : (ac.tmps[13]?).getD undef = .int .i64 j := ha 13 (by decide)
                  clear ha hp
                  refine Reg.Op1.plain rfl ?_
                  go_wp2
                  exact ⟨rfl, hK _ _ rfl (fun j k _ _ => Reg.Adds.refl _ _ _)⟩
                · intro val ac u hR hp ha K hK      -- 9: t107 := Op.indexAddr 45 t105 t106
                  obtain ⟨w105, h105, r105⟩ := hp 7 (by decide)
                  have e105 : (ac.tmps[105]?).getD undef = .slice (some ⟨bk, ok, none⟩) ks.length ck := (ha 105 (by decide)).trans h105
                  clear h105
                  obtain ⟨w106, h106, r106⟩ := hp 8 (by decide)
                  have e106 : (ac.tmps[106]?).getD undef = .int .i64 j := (ha 106 (by decide)).trans h106
                  clear h106
                  clear ha hp
                  refine Reg.Op1.plain rfl ?_
                  go_wp2
                  exact ⟨rfl, hK _ _ rfl (fun j k _ _ => Reg.Adds.refl _ _ _)⟩
                · intro val ac u hR hp ha K hK      -- 10: t108 := Op.load 9 t107
                  obtain ⟨w107, h107, r107⟩ := hp 9 (by decide)
                  have e107 : (ac.tmps[107]?).getD undef = .pointer (some ⟨bk, ok + j, none⟩) := (ha 107 (by decide)).trans h107
                  clear h107
                  clear ha hp
                  have z0 := (hR.cell (p := ⟨bk, ok + j, none⟩) hbk).trans x1
                  refine Reg.Op1.plain rfl ?_
                  go_wp2
                  exact ⟨rfl, hK _ _ rfl (fun j k _ _ => Reg.Adds.refl _ _ _)⟩
                · intro val ac u hR hp ha K hK      -- 11: t109 := Op.call { value (Operand.func 15), args := #[t104, t108], argTypes := #[30, 9] }
                  obtain ⟨w104, h104, r104⟩ := hp 6 (by decide)
                  have e104 : (ac.tmps[104]?).getD undef = .pointer (some ⟨gb, 0, none⟩) := (ha 104 (by decide)).trans h104
                  clear h104
                  obtain ⟨w108, h108, r108⟩ := hp 10 (by decide)
                  have e108 : (ac.tmps[108]?).getD undef = .string q := (ha 108 (by decide)).trans h108
                  clear h108
                  clear ha hp
                  refine Reg.Op1.plain rfl ?_
                  go_wp2_with fail
                  refine (storeVersions_any (HTr.out.b.S.drew.below hR) HQK.out HEB.out).mono ?_
                  rintro x w' ⟨A1, c1, rfl, h1, h2, h3⟩
                  rw [HL2.out] at h1 ⊢
                  go_wp2_with fail
                  exact ⟨rfl, hK _ _ ⟨A1, c1, rfl, h1.rd⟩ (fun j k _ _ => h3)⟩
                · intro val ac u hR hp ha K hK      -- 12: t110 := Op.call { value (Operand.func 18), args := #[t103, t109], argTypes := #[22, 22] }
                  obtain ⟨w103, h103, r103⟩ := hp 5 (by decide)
                  have e103 : (ac.tmps[103]?).getD undef = val 5 := ha 103 (by decide)
                  obtain ⟨w109, h109, r109⟩ := hp 11 (by decide)
                  have e109 : (ac.tmps[109]?).getD undef = val 11 := ha 109 (by decide)
                  clear ha hp
                  refine Reg.Op1.plain rfl ?_
                  obtain ⟨A1, c1, hv1, hr1⟩ := h103
                  obtain ⟨A2, c2, hv2, hr2⟩ := h109
                  rw [hv1] at e103
                  rw [hv2] at e109
                  go_wp2_with fail
                  refine (entries_same A1 A2 c1 c2 l u ((hr1.below r103).more r103.size) ((hr2.below r109).more r109.size) hll).mono ?_
                  rintro x w' ⟨rfl, h3⟩
                  go_wp2_with fail
                  exact ⟨rfl, hK _ _ rfl (fun j k _ _ => h3)⟩
                · intro val ac u hR hp ha K hK      -- 13: t111 := Op.unOp UnOp.not 4 t110
                  obtain ⟨w110, h110, r110⟩ := hp 12 (by decide)
                  have e110 : (ac.tmps[110]?).getD undef = .bool true := (ha 110 (by decide)).trans h110
                  clear h110
                  clear ha hp
                  refine Reg.Op1.plain rfl ?_
                  go_wp2
                  exact ⟨rfl, hK _ _ rfl (fun j k _ _ => Reg.Adds.refl _ _ _)⟩
              intro val u hR H
              obtain ⟨_, hv, _⟩ := H 13 (by decide)
              have hv : val 13 = .bool false := hv
              have HBu : Hid (Below w13.heap.size w13 u) := HBr.out.trans (((Below.refl _ wr).drew.trans hR).mono HBr.out.size)
              simp only [List.map_cons, List.map_nil, Reg.lay, Act.put, List.setIfInBounds_toArray, List.set_cons_succ, List.set_cons_zero, Nat.reduceAdd, hv]
              clear hR H hv
              go_wp2
              go_roundw
              case rel => exact ⟨⟨j + 1, by omega, by go_num, HBu⟩⟩
              case measure => simp [intOf]; omega
            · obtain rfl : j = ks.length := by omega
              go_wp2
              go_ret
              exact ⟨rfl, HB13.out.trans (HBr.out.mono HB13.out.size)⟩
set_option maxRecDepth 20000 in
theorem opened {H : Type} (enc : TypeId × Value → H) (W : World) (base : Nat) (v0 v1 : Value) {d0 d1 : DataW H} {p0 p1 : List MemPlace}
    (o0 : Value.okWide Try.prog W .any base 3 v0) (o1 : Value.okWide Try.prog W .any base 22 v1)
    (k0 : DataW.Trod enc Try.prog W 0 (fun _ => true) true 3 v0 d0 p0) (k1 : DataW.Trod enc Try.prog W 0 (fun _ => true) true 22 v1 d1 p1)
    (z0 : (d0.weights Try.prog 3).all (· ≤ reachBytes) = true) (z1 : (d1.weights Try.prog 22).all (· ≤ reachBytes) = true) :
    Calls Try.prog 4 #[v0, v1] W fun e w' => e = .returned (.bool true) ∧ Below W.heap.size W w' := by
  obtain ⟨n, rfl, _⟩ := open_num o0 k0
  obtain ⟨A, c, es, rfl, h1, h2, h3, h4⟩ := open_ents o1 k1 z1
  exact walk n A c es W h3 h1 h2 h4
end storeOrderOpen
end Go.Proofs.Ytfafehffnjbhnaa
