/- The walk of a store's Put. Stores that are few; what is handed in lies apart from the store. -/
import Derived.Test.YtfafehffnjbhnaaStore2
set_option maxRecDepth 8000
namespace Go.Proofs.Ytfafehffnjbhnaa
open Go.ChangeShapes Go.WideShapes Go.ChangeAt Go.RowKit
set_option linter.unusedVariables false
set_option linter.unusedSimpArgs false
namespace Sto
structure PutRel (w : World) (g b : Nat) (rng : Int) (mk : Vec.Col) (rs0 : List LR) (news : List Vec.Ent) (v5 v11 : Value) (wr : World) : Prop where
  out : ∃ (k n : Nat) (rs : List LR), k ≤ news.length ∧ n ≤ k ∧ lenS (states rs) = lenS (states rs0) + n ∧ Hid (putL rng mk (states rs0) (news.take k) = (states rs, n)) ∧ v5 = .int .i64 n ∧ v11 = .int .i64 k ∧
    Hid (SS wr g b rng mk rs) ∧ Hid (Good rng (states rs)) ∧ Hid (Mem.Keeps (fpS g b rs0) w wr) ∧ Hid (∀ q, fpS g b rs q → fpS g b rs0 q ∨ w.heap.size ≤ q)
def PutEnd (w : World) (g b : Nat) (rng : Int) (mk : Vec.Col) (rs0 : List LR) (news : List Vec.Ent) (x : Ending) (w' : World) : Prop :=
  ∃ rs, x = .returned (.int .i64 ((putL rng mk (states rs0) news).2 : Nat)) ∧ states rs = (putL rng mk (states rs0) news).1 ∧ SS w' g b rng mk rs ∧ Good rng (states rs) ∧ Mem.Keeps (fpS g b rs0) w w' ∧ (∀ q, fpS g b rs q → fpS g b rs0 q ∨ w.heap.size ≤ q)
theorem SS.drew {w : World} {g b : Nat} {rng : Int} {mk : Vec.Col} {rs : List LR} (h : SS w g b rng mk rs) : SS w.drew g b rng mk rs := ⟨h.B, h.M, h.O, h.S⟩
theorem vers_len (st : List Ls) (k : ByteArray) : (vers st k).length ≤ lenS st := by
  induction st with
  | nil => exact Nat.zero_le _
  | cons a st ih =>
    have h : lenS (a :: st) = a.es.length + lenS st := by simp [lenS]
    unfold vers
    rw [h]
    split <;> omega
/-- a key's list in memory, be it there or not -/
theorem SS.list {w : World} {g b : Nat} {rng : Int} {mk : Vec.Col} {rs : List LR} (h : SS w g b rng mk rs) (k : ByteArray) :
    ∃ A c es, lsV (findR rs k) = .slice A es.length c ∧ vers (states rs) k = es ∧ Vec.EOwn w A c es ∧ (∀ y, Mem.blk A = some y → ∃ r ∈ rs, r.fp y) ∧
      ((findR rs k = none ∧ A = none) ∨ ∃ pre r post, rs = pre ++ r :: post ∧ r.l.k = k ∧ r.A = A ∧ findR rs k = some r) := by
  rcases vers_find h (k := k) with ⟨hf, hv⟩ | ⟨r, hf, hm, hv⟩
  · exact ⟨none, 0, [], by rw [hf]; rfl, hv, Mem.Own.nil _ _ _, fun y h => (by cases h), .inl ⟨hf, rfl⟩⟩
  · obtain ⟨pre, post, hrs, hk, _⟩ := find_split hf
    exact ⟨r.A, r.c, r.l.es, by rw [hf]; rfl, hv, h.O r hm, fun y h => ⟨r, hm, h⟩, .inr ⟨pre, r, post, hrs, hk, rfl, hf⟩⟩
theorem states_turn {pre post : List LR} {r r' : LR} {k : ByteArray} {es : List Vec.Ent} (hn : ((pre ++ r :: post).map (·.l.k)).Nodup) (hr : r.l.k = k) (hr' : r'.l = ⟨k, es⟩) : states (pre ++ r' :: post) = setL (states (pre ++ r :: post)) k es := by
  induction pre with
  | nil =>
    show r'.l :: states post = setL (r.l :: states post) k es
    unfold setL
    rw [if_pos hr, hr']
  | cons a pre ih =>
    rw [List.cons_append, List.map_cons, List.nodup_cons] at hn
    show a.l :: states (pre ++ r' :: post) = setL (a.l :: states (pre ++ r :: post)) k es
    unfold setL
    rw [if_neg (fun e => hn.1 (List.mem_map.2 ⟨r, by simp, by rw [hr, e]⟩)), ih hn.2]
theorem states_add {rs : List LR} {r : LR} {k : ByteArray} {es : List Vec.Ent} (hn : ∀ q ∈ rs, q.l.k ≠ k) (hr : r.l = ⟨k, es⟩) : states (rs ++ [r]) = setL (states rs) k es := by
  induction rs with
  | nil => show [r.l] = _; rw [hr]; rfl
  | cons a rs ih =>
    show a.l :: states (rs ++ [r]) = setL (a.l :: states rs) k es
    unfold setL
    rw [if_neg (hn a List.mem_cons_self), ih fun q hq => hn q (List.mem_cons_of_mem _ hq)]
/-- behind the map's turn -/
theorem SS.put {w w' : World} {g b : Nat} {rng : Int} {mk : Vec.Col} {rs : List LR} {k : ByteArray} {A A2 : Option Addr} {c2 : Nat} {es : List Vec.Ent} (h : SS w g b rng mk rs)
    (hcase : (findR rs k = none ∧ A = none) ∨ ∃ pre r post, rs = pre ++ r :: post ∧ r.l.k = k ∧ r.A = A ∧ findR rs k = some r)
    (hM : Mem.MapIs Value.string okS w' b (Mem.putL (rs.map ent) k (.slice A2 es.length c2))) (hO : Vec.EOwn w' A2 c2 es) (hk : Mem.Keeps (fun q => q = b ∨ Mem.blk A = some q) w w') (hq : ∀ q, Mem.blk A2 = some q → Mem.blk A = some q ∨ w.heap.size ≤ q) :
    ∃ rs', SS w' g b rng mk rs' ∧ states rs' = setL (states rs) k es ∧ Mem.Keeps (fpS g b rs) w w' ∧ ∀ q, fpS g b rs' q → fpS g b rs q ∨ w.heap.size ≤ q := by
  rcases hcase with ⟨hf, rfl⟩ | ⟨pre, r, post, rfl, hr, rfl, hf⟩
  · have hn := find_none hf
    rw [putL_add (k := k) (v := .slice A2 es.length c2) (r := ⟨⟨k, es⟩, A2, c2⟩) rfl rfl hn] at hM
    obtain ⟨q1, q2, q3⟩ := h.add hM hO (hk.mono (fun q hq _ => hq.elim id (fun h => by cases h))) (fun q hq9 => (hq q hq9).elim (fun h => by cases h) id)
    exact ⟨_, q1, states_add hn rfl, q2, q3⟩
  · rw [putL_turn (k := k) (v := .slice A2 es.length c2) (r' := ⟨⟨k, es⟩, A2, c2⟩) hr rfl rfl h.nodup] at hM
    obtain ⟨q1, q2, q3⟩ := h.turn hM hO hk hq
    exact ⟨_, q1, states_turn h.nodup hr rfl, q2, q3⟩
end Sto
open Sto Vec in
set_option maxRecDepth 20000 in
set_option maxHeartbeats 8000000 in
theorem storePut_any (rng : Int) (g b : Nat) (mk : Vec.Col) (rs0 : List Sto.LR) (An : Option Addr) (cn : Nat) (news : List Vec.Ent) (w : World) (hA : Sto.SS w g b rng mk rs0) (hG : Sto.Good rng (Sto.states rs0)) (hN : Vec.EOwn w An cn news) (hne : ∀ q, Mem.blk An = some q → ¬ Sto.fpS g b rs0 q) (hln : Sto.lenS (Sto.states rs0) + news.length ≤ 1000000) :
    Calls Try.prog 12 #[.pointer (some ⟨g, 0, none⟩), .slice An news.length cn] w (Sto.PutEnd w g b rng mk rs0 news) := by
  have HA0 := Lib.hid hA
  have HG0 := Lib.hid hG
  have HN := Lib.hid hN
  have HNE := Lib.hid hne
  clear hA hN hne hG
  go_enter Try.func12, Try.ntmps12
  go_wp2
  go_loopw [5, 11] (PutRel w g b rng mk rs0 news) (fun _ t _ => news.length - (intOf t).toNat)
  case atStart => exact ⟨⟨0, 0, rs0, by omega, by omega, rfl, rfl, rfl, rfl, HA0, HG0, Mem.Keeps.refl _ _, fun q h => .inl h⟩⟩
  case round =>
    obtain ⟨k, n, rs, hk, hnk, hls, HP, rfl, rfl, HS, HG, HK, HQ⟩ := hrel.out
    clear hrel
    have hz := HK.out.size
    by_cases hlt : k < news.length
    · obtain ⟨bb, o, e, rfl, hb, he, hat⟩ := ent_elem (HN.out.keeps HK.out HNE.out).rd hlt
      have HAT := Lib.hid hat
      have HTS := Lib.hid (show putL rng mk (states rs0) (news.take (k + 1)) = putStep rng mk (states rs, n) e by rw [Mem.take_snoc he, putL_snoc, HP.out])
      clear hat he
      go_upto_region 5 with (first | ((with_reducible refine Mem.load_agg _ _ entry_agg bb (o + k * 20) (entCells e) ?hx (entCells_length e) HAT.out.c ?_); case hx => exact rfl) | ((with_reducible refine Mem.store_agg _ _ entry_agg wr.heap.size (entCells ent0) (entCells e) ?hxa ?hya ?hba (entCells_length e) (ent_one e) ?_); ((case hxa => exact rfl); (case hya => exact rfl); (case hba => exact Mem.Bx.new wr _ (entCells ent0).toArray rfl rfl); intro w5 hb2 hk2 hs2)))
      have HE5 : Hid (EBx w5 wr.heap.size e) := hb2
      have HB5 : Hid (Below wr.heap.size wr w5) := (hk2.newBox rfl).belowAll
      have HS5 := Lib.hid (HS.out.below HB5.out)
      have HLT : Hid (∀ q, fpS g b rs q → q < wr.heap.size) := fun q hq => HS.out.lt hq
      clear hb2 hk2 hs2 HAT
      go_cut [41] (fun v wx => v = .bool (!okP rng mk (states rs) e) ∧ Below w5.heap.size w5 wx)
      case first =>
        cases hr1 : rightE e
        · have hok : okP rng mk (states rs) e = false := by unfold okP; rw [hr1]; rfl
          refine Reg.wp_region_rel (by kernel_rfl) 65 27 rfl rfl (by kernel_rfl) (Reg.Adds) (Reg.Adds.refl) (Reg.Adds.trans)
            (fun i v u => match i with
              | 0 => v = .agg (Vec.entCells e).toArray
              | 1 => v = .bool false
              | 2 => v = .bool true
              | 3 => v = .bool true
              | 4 => v = undef
              | 5 => v = undef
              | 6 => v = undef
              | 7 => v = undef
              | 8 => v = undef
              | 9 => v = undef
              | 10 => v = undef
              | 11 => v = undef
              | 12 => v = .bool true
              | 13 => v = .bool true
              | 14 => v = undef
              | 15 => v = undef
              | 16 => v = undef
              | 17 => v = undef
              | 18 => v = undef
              | 19 => v = undef
              | 20 => v = .bool true
              | 21 => v = .bool true
              | 22 => v = undef
              | 23 => v = undef
              | 24 => v = undef
              | 25 => v = undef
              | 26 => v = .bool true
              | _ => True) ?_ ?_
          · refine Reg.Steps.cons ?_ (Reg.Steps.cons ?_ (Reg.Steps.cons ?_ (Reg.Steps.cons ?_ (Reg.Steps.cons ?_ (Reg.Steps.cons ?_ (Reg.Steps.cons ?_ (Reg.Steps.cons ?_ (Reg.Steps.cons ?_ (Reg.Steps.cons ?_ (Reg.Steps.cons ?_ (Reg.Steps.cons ?_ (Reg.Steps.cons ?_ (Reg.Steps.cons ?_ (Reg.Steps.cons ?_ (Reg.Steps.cons ?_ (Reg.Steps.cons ?_ (Reg.Steps.cons ?_ (Reg.Steps.cons ?_ (Reg.Steps.cons ?_ (Reg.Steps.cons ?_ (Reg.Steps.cons ?_ (Reg.Steps.cons ?_ (Reg.Steps.cons ?_ (Reg.Steps.cons ?_ (Reg.Steps.cons ?_ (Reg.Steps.cons ?_ (Reg.Steps.nil _)))))))))))))))))))))))))))
            · intro val ac u hR hp ha K hK
              have e7 : (ac.tmps[7]?).getD undef = .pointer (some ⟨wr.heap.size, 0, none⟩) := ha 7 (by decide); clear ha hp
              refine Reg.Op1.plain rfl ?_
              have hEu : Vec.EBx u wr.heap.size e := Mem.Bx.below (w := w5.drew) HE5.out hR HE5.out.lt
              refine Mem.load_agg _ _ entry_agg wr.heap.size 0 (Vec.entCells e) (Reg.eval_of e7) (Vec.entCells_length _) (fun j u' hu => by rw [Nat.zero_add]; exact hEu.cell hu) ?_
              exact ⟨rfl, hK _ _ rfl (fun j k _ _ => Reg.Adds.refl _ _ _)⟩
            · intro val ac u hR hp ha K hK
              obtain ⟨w15, h15, r15⟩ := hp 0 (by decide); have e15 : (ac.tmps[15]?).getD undef = .agg (Vec.entCells e).toArray := (ha 15 (by decide)).trans h15; clear h15 ha hp
              refine Reg.Op1.plain rfl ?_
              go_wp2_with fail
              refine (rightE_any e u).mono ?_
              rintro x w' ⟨rfl, hbw⟩
              rw [hr1]
              go_wp2_with fail
              exact ⟨rfl, hK _ _ rfl (fun j k _ _ => hbw)⟩
            · intro val ac u hR hp ha K hK
              obtain ⟨w16, h16, r16⟩ := hp 1 (by decide); have e16 : (ac.tmps[16]?).getD undef = .bool false := (ha 16 (by decide)).trans h16; clear h16 ha hp
              refine Reg.Op1.plain rfl ?_
              go_wp2
              exact ⟨rfl, hK _ _ rfl (fun j k _ _ => Reg.Adds.refl _ _ _)⟩
            · intro val ac u hR hp ha K hK
              obtain ⟨w17, h17, r17⟩ := hp 2 (by decide); have e17 : (ac.tmps[17]?).getD undef = .bool true := (ha 17 (by decide)).trans h17; clear h17 ha hp
              refine Reg.Op1.plain rfl ?_
              go_wp2
              exact ⟨rfl, hK _ _ rfl (fun j k _ _ => Reg.Adds.refl _ _ _)⟩
            · intro val ac u hR hp ha K hK; obtain ⟨_, h, _⟩ := hp 3 (by decide); exact Reg.Op1.guarded rfl rfl ((ha 18 (by decide)).trans h) (fun h => by cases h) (fun _ => hK _ _ rfl (fun j k _ _ => Reg.Adds.refl _ _ _))
            · intro val ac u hR hp ha K hK; obtain ⟨_, h, _⟩ := hp 3 (by decide); exact Reg.Op1.guarded rfl rfl ((ha 18 (by decide)).trans h) (fun h => by cases h) (fun _ => hK _ _ rfl (fun j k _ _ => Reg.Adds.refl _ _ _))
            · intro val ac u hR hp ha K hK; obtain ⟨_, h, _⟩ := hp 3 (by decide); exact Reg.Op1.guarded rfl rfl ((ha 18 (by decide)).trans h) (fun h => by cases h) (fun _ => hK _ _ rfl (fun j k _ _ => Reg.Adds.refl _ _ _))
            · intro val ac u hR hp ha K hK; obtain ⟨_, h, _⟩ := hp 3 (by decide); exact Reg.Op1.guarded rfl rfl ((ha 18 (by decide)).trans h) (fun h => by cases h) (fun _ => hK _ _ rfl (fun j k _ _ => Reg.Adds.refl _ _ _))
            · intro val ac u hR hp ha K hK; obtain ⟨_, h, _⟩ := hp 3 (by decide); exact Reg.Op1.guarded rfl rfl ((ha 18 (by decide)).trans h) (fun h => by cases h) (fun _ => hK _ _ rfl (fun j k _ _ => Reg.Adds.refl _ _ _))
            · intro val ac u hR hp ha K hK; obtain ⟨_, h, _⟩ := hp 3 (by decide); exact Reg.Op1.guarded rfl rfl ((ha 18 (by decide)).trans h) (fun h => by cases h) (fun _ => hK _ _ rfl (fun j k _ _ => Reg.Adds.refl _ _ _))
            · intro val ac u hR hp ha K hK; obtain ⟨_, h, _⟩ := hp 3 (by decide); exact Reg.Op1.guarded rfl rfl ((ha 18 (by decide)).trans h) (fun h => by cases h) (fun _ => hK _ _ rfl (fun j k _ _ => Reg.Adds.refl _ _ _))
            · intro val ac u hR hp ha K hK; obtain ⟨_, h, _⟩ := hp 3 (by decide); exact Reg.Op1.guarded rfl rfl ((ha 18 (by decide)).trans h) (fun h => by cases h) (fun _ => hK _ _ rfl (fun j k _ _ => Reg.Adds.refl _ _ _))
            · intro val ac u hR hp ha K hK
              obtain ⟨w18, h18, r18⟩ := hp 3 (by decide); have e18 : (ac.tmps[18]?).getD undef = .bool true := (ha 18 (by decide)).trans h18; obtain ⟨w26, h26, r26⟩ := hp 11 (by decide); have e26 : (ac.tmps[26]?).getD undef = undef := (ha 26 (by decide)).trans h26; clear h18 h26 ha hp
              refine Reg.Op1.plain rfl ?_
              go_wp2
              exact ⟨rfl, hK _ _ rfl (fun j k _ _ => Reg.Adds.refl _ _ _)⟩
            · intro val ac u hR hp ha K hK
              obtain ⟨w27, h27, r27⟩ := hp 12 (by decide); have e27 : (ac.tmps[27]?).getD undef = .bool true := (ha 27 (by decide)).trans h27; clear h27 ha hp
              refine Reg.Op1.plain rfl ?_
              go_wp2
              exact ⟨rfl, hK _ _ rfl (fun j k _ _ => Reg.Adds.refl _ _ _)⟩
            · intro val ac u hR hp ha K hK; obtain ⟨_, h, _⟩ := hp 13 (by decide); exact Reg.Op1.guarded rfl rfl ((ha 28 (by decide)).trans h) (fun h => by cases h) (fun _ => hK _ _ rfl (fun j k _ _ => Reg.Adds.refl _ _ _))
            · intro val ac u hR hp ha K hK; obtain ⟨_, h, _⟩ := hp 13 (by decide); exact Reg.Op1.guarded rfl rfl ((ha 28 (by decide)).trans h) (fun h => by cases h) (fun _ => hK _ _ rfl (fun j k _ _ => Reg.Adds.refl _ _ _))
            · intro val ac u hR hp ha K hK; obtain ⟨_, h, _⟩ := hp 13 (by decide); exact Reg.Op1.guarded rfl rfl ((ha 28 (by decide)).trans h) (fun h => by cases h) (fun _ => hK _ _ rfl (fun j k _ _ => Reg.Adds.refl _ _ _))
            · intro val ac u hR hp ha K hK; obtain ⟨_, h, _⟩ := hp 13 (by decide); exact Reg.Op1.guarded rfl rfl ((ha 28 (by decide)).trans h) (fun h => by cases h) (fun _ => hK _ _ rfl (fun j k _ _ => Reg.Adds.refl _ _ _))
            · intro val ac u hR hp ha K hK; obtain ⟨_, h, _⟩ := hp 13 (by decide); exact Reg.Op1.guarded rfl rfl ((ha 28 (by decide)).trans h) (fun h => by cases h) (fun _ => hK _ _ rfl (fun j k _ _ => Reg.Adds.refl _ _ _))
            · intro val ac u hR hp ha K hK; obtain ⟨_, h, _⟩ := hp 13 (by decide); exact Reg.Op1.guarded rfl rfl ((ha 28 (by decide)).trans h) (fun h => by cases h) (fun _ => hK _ _ rfl (fun j k _ _ => Reg.Adds.refl _ _ _))
            · intro val ac u hR hp ha K hK
              obtain ⟨w28, h28, r28⟩ := hp 13 (by decide); have e28 : (ac.tmps[28]?).getD undef = .bool true := (ha 28 (by decide)).trans h28; obtain ⟨w34, h34, r34⟩ := hp 19 (by decide); have e34 : (ac.tmps[34]?).getD undef = undef := (ha 34 (by decide)).trans h34; clear h28 h34 ha hp
              refine Reg.Op1.plain rfl ?_
              go_wp2
              exact ⟨rfl, hK _ _ rfl (fun j k _ _ => Reg.Adds.refl _ _ _)⟩
            · intro val ac u hR hp ha K hK
              obtain ⟨w35, h35, r35⟩ := hp 20 (by decide); have e35 : (ac.tmps[35]?).getD undef = .bool true := (ha 35 (by decide)).trans h35; clear h35 ha hp
              refine Reg.Op1.plain rfl ?_
              go_wp2
              exact ⟨rfl, hK _ _ rfl (fun j k _ _ => Reg.Adds.refl _ _ _)⟩
            · intro val ac u hR hp ha K hK; obtain ⟨_, h, _⟩ := hp 21 (by decide); exact Reg.Op1.guarded rfl rfl ((ha 36 (by decide)).trans h) (fun h => by cases h) (fun _ => hK _ _ rfl (fun j k _ _ => Reg.Adds.refl _ _ _))
            · intro val ac u hR hp ha K hK; obtain ⟨_, h, _⟩ := hp 21 (by decide); exact Reg.Op1.guarded rfl rfl ((ha 36 (by decide)).trans h) (fun h => by cases h) (fun _ => hK _ _ rfl (fun j k _ _ => Reg.Adds.refl _ _ _))
            · intro val ac u hR hp ha K hK; obtain ⟨_, h, _⟩ := hp 21 (by decide); exact Reg.Op1.guarded rfl rfl ((ha 36 (by decide)).trans h) (fun h => by cases h) (fun _ => hK _ _ rfl (fun j k _ _ => Reg.Adds.refl _ _ _))
            · intro val ac u hR hp ha K hK; obtain ⟨_, h, _⟩ := hp 21 (by decide); exact Reg.Op1.guarded rfl rfl ((ha 36 (by decide)).trans h) (fun h => by cases h) (fun _ => hK _ _ rfl (fun j k _ _ => Reg.Adds.refl _ _ _))
            · intro val ac u hR hp ha K hK
              obtain ⟨w36, h36, r36⟩ := hp 21 (by decide); have e36 : (ac.tmps[36]?).getD undef = .bool true := (ha 36 (by decide)).trans h36; obtain ⟨w40, h40, r40⟩ := hp 25 (by decide); have e40 : (ac.tmps[40]?).getD undef = undef := (ha 40 (by decide)).trans h40; clear h36 h40 ha hp
              refine Reg.Op1.plain rfl ?_
              go_wp2
              exact ⟨rfl, hK _ _ rfl (fun j k _ _ => Reg.Adds.refl _ _ _)⟩
          · intro val u hR H
            obtain ⟨_, hv, _⟩ := H 26 (by decide)
            have hv : val 26 = .bool true := hv
            have HK6 : Hid (Below w5.heap.size w5 u) := (Below.refl _ w5).drew.trans hR
            simp only [List.map_cons, List.map_nil, Reg.lay, Act.put, List.setIfInBounds_toArray, List.set_cons_succ, List.set_cons_zero, Nat.reduceAdd, hv]
            clear hR H hv
            go_wp2
            go_meet
            case rel => exact ⟨by rw [hok]; rfl, HK6.out⟩
        · have HDC : Hid (0 ≤ e.dc ∧ e.dc < 3) := by
            show _ ∧ _
            have h1 := hr1
            unfold rightE g1 chain at h1
            simp only [Bool.and_eq_true, decide_eq_true_eq] at h1
            omega
          by_cases hr2 : e.rng = rng
          · have d2 : (e.rng != rng) = false := by simp [hr2]
            have d2' : (e.rng == rng) = true := by simp [hr2]
            have HR2 := Lib.hid hr2
            clear hr2
            cases hr3 : under mk e
            · cases hr4 : hasS (states rs) (dotE e)
              · have hok : okP rng mk (states rs) e = true := by unfold okP; rw [hr1, d2', hr3, hr4]; rfl
                refine Reg.wp_region_rel (by kernel_rfl) 65 27 rfl rfl (by kernel_rfl) (Reg.Adds) (Reg.Adds.refl) (Reg.Adds.trans)
                  (fun i v u => match i with
                    | 0 => v = .agg (Vec.entCells e).toArray
                    | 1 => v = .bool true
                    | 2 => v = .bool false
                    | 3 => v = .bool false
                    | 4 => v = .pointer (some ⟨wr.heap.size, 0, none⟩)
                    | 5 => v = .pointer (some ⟨wr.heap.size, 1, none⟩)
                    | 6 => v = .int .i64 e.rng
                    | 7 => v = .pointer (some ⟨g, 0, none⟩)
                    | 8 => v = .pointer (some ⟨g, 0, none⟩)
                    | 9 => v = .pointer (some ⟨g, 0, none⟩)
                    | 10 => v = .int .i64 rng
                    | 11 => v = .bool false
                    | 12 => v = .bool false
                    | 13 => v = .bool false
                    | 14 => v = .pointer (some ⟨g, 0, none⟩)
                    | 15 => v = .pointer (some ⟨g, 0, none⟩)
                    | 16 => v = .pointer (some ⟨g, 2, none⟩)
                    | 17 => v = Vec.C mk
                    | 18 => v = .agg (Vec.entCells e).toArray
                    | 19 => v = .bool false
                    | 20 => v = .bool false
                    | 21 => v = .bool false
                    | 22 => v = .pointer (some ⟨g, 0, none⟩)
                    | 23 => v = .pointer (some ⟨wr.heap.size, 0, none⟩)
                    | 24 => v = .agg (Vec.dtCells (Vec.dotE e)).toArray
                    | 25 => v = .bool false
                    | 26 => v = .bool false
                    | _ => True) ?_ ?_
                · refine Reg.Steps.cons ?_ (Reg.Steps.cons ?_ (Reg.Steps.cons ?_ (Reg.Steps.cons ?_ (Reg.Steps.cons ?_ (Reg.Steps.cons ?_ (Reg.Steps.cons ?_ (Reg.Steps.cons ?_ (Reg.Steps.cons ?_ (Reg.Steps.cons ?_ (Reg.Steps.cons ?_ (Reg.Steps.cons ?_ (Reg.Steps.cons ?_ (Reg.Steps.cons ?_ (Reg.Steps.cons ?_ (Reg.Steps.cons ?_ (Reg.Steps.cons ?_ (Reg.Steps.cons ?_ (Reg.Steps.cons ?_ (Reg.Steps.cons ?_ (Reg.Steps.cons ?_ (Reg.Steps.cons ?_ (Reg.Steps.cons ?_ (Reg.Steps.cons ?_ (Reg.Steps.cons ?_ (Reg.Steps.cons ?_ (Reg.Steps.cons ?_ (Reg.Steps.nil _)))))))))))))))))))))))))))
                  · intro val ac u hR hp ha K hK
                    have e7 : (ac.tmps[7]?).getD undef = .pointer (some ⟨wr.heap.size, 0, none⟩) := ha 7 (by decide); clear ha hp
                    refine Reg.Op1.plain rfl ?_
                    have hEu : Vec.EBx u wr.heap.size e := Mem.Bx.below (w := w5.drew) HE5.out hR HE5.out.lt
                    refine Mem.load_agg _ _ entry_agg wr.heap.size 0 (Vec.entCells e) (Reg.eval_of e7) (Vec.entCells_length _) (fun j u' hu => by rw [Nat.zero_add]; exact hEu.cell hu) ?_
                    exact ⟨rfl, hK _ _ rfl (fun j k _ _ => Reg.Adds.refl _ _ _)⟩
                  · intro val ac u hR hp ha K hK
                    obtain ⟨w15, h15, r15⟩ := hp 0 (by decide); have e15 : (ac.tmps[15]?).getD undef = .agg (Vec.entCells e).toArray := (ha 15 (by decide)).trans h15; clear h15 ha hp
                    refine Reg.Op1.plain rfl ?_
                    go_wp2_with fail
                    refine (rightE_any e u).mono ?_
                    rintro x w' ⟨rfl, hbw⟩
                    rw [hr1]
                    go_wp2_with fail
                    exact ⟨rfl, hK _ _ rfl (fun j k _ _ => hbw)⟩
                  · intro val ac u hR hp ha K hK
                    obtain ⟨w16, h16, r16⟩ := hp 1 (by decide); have e16 : (ac.tmps[16]?).getD undef = .bool true := (ha 16 (by decide)).trans h16; clear h16 ha hp
                    refine Reg.Op1.plain rfl ?_
                    go_wp2
                    exact ⟨rfl, hK _ _ rfl (fun j k _ _ => Reg.Adds.refl _ _ _)⟩
                  · intro val ac u hR hp ha K hK
                    obtain ⟨w17, h17, r17⟩ := hp 2 (by decide); have e17 : (ac.tmps[17]?).getD undef = .bool false := (ha 17 (by decide)).trans h17; clear h17 ha hp
                    refine Reg.Op1.plain rfl ?_
                    go_wp2
                    exact ⟨rfl, hK _ _ rfl (fun j k _ _ => Reg.Adds.refl _ _ _)⟩
                  · intro val ac u hR hp ha K hK
                    have e7 : (ac.tmps[7]?).getD undef = .pointer (some ⟨wr.heap.size, 0, none⟩) := ha 7 (by decide); obtain ⟨w18, h18, r18⟩ := hp 3 (by decide); have e18 : (ac.tmps[18]?).getD undef = .bool false := (ha 18 (by decide)).trans h18; clear h18 ha hp
                    refine Reg.Op1.guarded rfl rfl e18 (fun _ => Reg.Op1.plain rfl ?_) (fun h => absurd rfl h)
                    go_wp2
                    exact ⟨rfl, hK _ _ rfl (fun j k _ _ => Reg.Adds.refl _ _ _)⟩
                  · intro val ac u hR hp ha K hK
                    obtain ⟨w19, h19, r19⟩ := hp 4 (by decide); have e19 : (ac.tmps[19]?).getD undef = .pointer (some ⟨wr.heap.size, 0, none⟩) := (ha 19 (by decide)).trans h19; obtain ⟨w18, h18, r18⟩ := hp 3 (by decide); have e18 : (ac.tmps[18]?).getD undef = .bool false := (ha 18 (by decide)).trans h18; clear h19 h18 ha hp
                    refine Reg.Op1.guarded rfl rfl e18 (fun _ => Reg.Op1.plain rfl ?_) (fun h => absurd rfl h)
                    go_wp2
                    exact ⟨rfl, hK _ _ rfl (fun j k _ _ => Reg.Adds.refl _ _ _)⟩
                  · intro val ac u hR hp ha K hK
                    obtain ⟨w20, h20, r20⟩ := hp 5 (by decide); have e20 : (ac.tmps[20]?).getD undef = .pointer (some ⟨wr.heap.size, 1, none⟩) := (ha 20 (by decide)).trans h20; obtain ⟨w18, h18, r18⟩ := hp 3 (by decide); have e18 : (ac.tmps[18]?).getD undef = .bool false := (ha 18 (by decide)).trans h18; clear h20 h18 ha hp
                    refine Reg.Op1.guarded rfl rfl e18 (fun _ => Reg.Op1.plain rfl ?_) (fun h => absurd rfl h)
                    have x0 := (hR.cell (p := ⟨wr.heap.size, 1, none⟩) HE5.out.lt).trans (HE5.out.cell (j := 1) rfl)
                    go_wp2
                    exact ⟨rfl, hK _ _ rfl (fun j k _ _ => Reg.Adds.refl _ _ _)⟩
                  · intro val ac u hR hp ha K hK
                    have e0 : (ac.tmps[0]?).getD undef = .pointer (some ⟨g, 0, none⟩) := ha 0 (by decide); obtain ⟨w18, h18, r18⟩ := hp 3 (by decide); have e18 : (ac.tmps[18]?).getD undef = .bool false := (ha 18 (by decide)).trans h18; clear h18 ha hp
                    refine Reg.Op1.guarded rfl rfl e18 (fun _ => Reg.Op1.plain rfl ?_) (fun h => absurd rfl h)
                    go_wp2
                    exact ⟨rfl, hK _ _ rfl (fun j k _ _ => Reg.Adds.refl _ _ _)⟩
                  · intro val ac u hR hp ha K hK
                    obtain ⟨w22, h22, r22⟩ := hp 7 (by decide); have e22 : (ac.tmps[22]?).getD undef = .pointer (some ⟨g, 0, none⟩) := (ha 22 (by decide)).trans h22; obtain ⟨w18, h18, r18⟩ := hp 3 (by decide); have e18 : (ac.tmps[18]?).getD undef = .bool false := (ha 18 (by decide)).trans h18; clear h22 h18 ha hp
                    refine Reg.Op1.guarded rfl rfl e18 (fun _ => Reg.Op1.plain rfl ?_) (fun h => absurd rfl h)
                    go_wp2
                    exact ⟨rfl, hK _ _ rfl (fun j k _ _ => Reg.Adds.refl _ _ _)⟩
                  · intro val ac u hR hp ha K hK
                    obtain ⟨w23, h23, r23⟩ := hp 8 (by decide); have e23 : (ac.tmps[23]?).getD undef = .pointer (some ⟨g, 0, none⟩) := (ha 23 (by decide)).trans h23; obtain ⟨w18, h18, r18⟩ := hp 3 (by decide); have e18 : (ac.tmps[18]?).getD undef = .bool false := (ha 18 (by decide)).trans h18; clear h23 h18 ha hp
                    refine Reg.Op1.guarded rfl rfl e18 (fun _ => Reg.Op1.plain rfl ?_) (fun h => absurd rfl h)
                    go_wp2
                    exact ⟨rfl, hK _ _ rfl (fun j k _ _ => Reg.Adds.refl _ _ _)⟩
                  · intro val ac u hR hp ha K hK
                    obtain ⟨w24, h24, r24⟩ := hp 9 (by decide); have e24 : (ac.tmps[24]?).getD undef = .pointer (some ⟨g, 0, none⟩) := (ha 24 (by decide)).trans h24; obtain ⟨w18, h18, r18⟩ := hp 3 (by decide); have e18 : (ac.tmps[18]?).getD undef = .bool false := (ha 18 (by decide)).trans h18; clear h24 h18 ha hp
                    refine Reg.Op1.guarded rfl rfl e18 (fun _ => Reg.Op1.plain rfl ?_) (fun h => absurd rfl h)
                    have x0 := (hR.cell (p := ⟨g, 0, none⟩) HS5.out.B.lt).trans (HS5.out.B.cell (j := 0) rfl)
                    go_wp2
                    exact ⟨rfl, hK _ _ rfl (fun j k _ _ => Reg.Adds.refl _ _ _)⟩
                  · intro val ac u hR hp ha K hK
                    obtain ⟨w21, h21, r21⟩ := hp 6 (by decide); have e21 : (ac.tmps[21]?).getD undef = .int .i64 e.rng := (ha 21 (by decide)).trans h21; obtain ⟨w25, h25, r25⟩ := hp 10 (by decide); have e25 : (ac.tmps[25]?).getD undef = .int .i64 rng := (ha 25 (by decide)).trans h25; obtain ⟨w18, h18, r18⟩ := hp 3 (by decide); have e18 : (ac.tmps[18]?).getD undef = .bool false := (ha 18 (by decide)).trans h18; clear h21 h25 h18 ha hp
                    refine Reg.Op1.guarded rfl rfl e18 (fun _ => Reg.Op1.plain rfl ?_) (fun h => absurd rfl h)
                    go_wp2
                    exact ⟨rfl, hK _ _ rfl (fun j k _ _ => Reg.Adds.refl _ _ _)⟩
                  · intro val ac u hR hp ha K hK
                    obtain ⟨w18, h18, r18⟩ := hp 3 (by decide); have e18 : (ac.tmps[18]?).getD undef = .bool false := (ha 18 (by decide)).trans h18; obtain ⟨w26, h26, r26⟩ := hp 11 (by decide); have e26 : (ac.tmps[26]?).getD undef = .bool false := (ha 26 (by decide)).trans h26; clear h18 h26 ha hp
                    refine Reg.Op1.plain rfl ?_
                    go_wp2
                    exact ⟨rfl, hK _ _ rfl (fun j k _ _ => Reg.Adds.refl _ _ _)⟩
                  · intro val ac u hR hp ha K hK
                    obtain ⟨w27, h27, r27⟩ := hp 12 (by decide); have e27 : (ac.tmps[27]?).getD undef = .bool false := (ha 27 (by decide)).trans h27; clear h27 ha hp
                    refine Reg.Op1.plain rfl ?_
                    go_wp2
                    exact ⟨rfl, hK _ _ rfl (fun j k _ _ => Reg.Adds.refl _ _ _)⟩
                  · intro val ac u hR hp ha K hK
                    have e0 : (ac.tmps[0]?).getD undef = .pointer (some ⟨g, 0, none⟩) := ha 0 (by decide); obtain ⟨w28, h28, r28⟩ := hp 13 (by decide); have e28 : (ac.tmps[28]?).getD undef = .bool false := (ha 28 (by decide)).trans h28; clear h28 ha hp
                    refine Reg.Op1.guarded rfl rfl e28 (fun _ => Reg.Op1.plain rfl ?_) (fun h => absurd rfl h)
                    go_wp2
                    exact ⟨rfl, hK _ _ rfl (fun j k _ _ => Reg.Adds.refl _ _ _)⟩
                  · intro val ac u hR hp ha K hK
                    obtain ⟨w29, h29, r29⟩ := hp 14 (by decide); have e29 : (ac.tmps[29]?).getD undef = .pointer (some ⟨g, 0, none⟩) := (ha 29 (by decide)).trans h29; obtain ⟨w28, h28, r28⟩ := hp 13 (by decide); have e28 : (ac.tmps[28]?).getD undef = .bool false := (ha 28 (by decide)).trans h28; clear h29 h28 ha hp
                    refine Reg.Op1.guarded rfl rfl e28 (fun _ => Reg.Op1.plain rfl ?_) (fun h => absurd rfl h)
                    go_wp2
                    exact ⟨rfl, hK _ _ rfl (fun j k _ _ => Reg.Adds.refl _ _ _)⟩
                  · intro val ac u hR hp ha K hK
                    obtain ⟨w30, h30, r30⟩ := hp 15 (by decide); have e30 : (ac.tmps[30]?).getD undef = .pointer (some ⟨g, 0, none⟩) := (ha 30 (by decide)).trans h30; obtain ⟨w28, h28, r28⟩ := hp 13 (by decide); have e28 : (ac.tmps[28]?).getD undef = .bool false := (ha 28 (by decide)).trans h28; clear h30 h28 ha hp
                    refine Reg.Op1.guarded rfl rfl e28 (fun _ => Reg.Op1.plain rfl ?_) (fun h => absurd rfl h)
                    go_wp2
                    exact ⟨rfl, hK _ _ rfl (fun j k _ _ => Reg.Adds.refl _ _ _)⟩
                  · intro val ac u hR hp ha K hK
                    obtain ⟨w31, h31, r31⟩ := hp 16 (by decide); have e31 : (ac.tmps[31]?).getD undef = .pointer (some ⟨g, 2, none⟩) := (ha 31 (by decide)).trans h31; obtain ⟨w28, h28, r28⟩ := hp 13 (by decide); have e28 : (ac.tmps[28]?).getD undef = .bool false := (ha 28 (by decide)).trans h28; clear h31 h28 ha hp
                    refine Reg.Op1.guarded rfl rfl e28 (fun _ => Reg.Op1.plain rfl ?_) (fun h => absurd rfl h)
                    have x0 := (hR.cell (p := ⟨g, 2, none⟩) HS5.out.B.lt).trans (HS5.out.B.cell (j := 2) rfl)
                    have x1 := (hR.cell (p := ⟨g, 3, none⟩) HS5.out.B.lt).trans (HS5.out.B.cell (j := 3) rfl)
                    have x2 := (hR.cell (p := ⟨g, 4, none⟩) HS5.out.B.lt).trans (HS5.out.B.cell (j := 4) rfl)
                    go_wp2
                    exact ⟨rfl, hK _ _ rfl (fun j k _ _ => Reg.Adds.refl _ _ _)⟩
                  · intro val ac u hR hp ha K hK
                    have e7 : (ac.tmps[7]?).getD undef = .pointer (some ⟨wr.heap.size, 0, none⟩) := ha 7 (by decide); obtain ⟨w28, h28, r28⟩ := hp 13 (by decide); have e28 : (ac.tmps[28]?).getD undef = .bool false := (ha 28 (by decide)).trans h28; clear h28 ha hp
                    refine Reg.Op1.guarded rfl rfl e28 (fun _ => Reg.Op1.plain rfl ?_) (fun h => absurd rfl h)
                    have hEu : Vec.EBx u wr.heap.size e := Mem.Bx.below (w := w5.drew) HE5.out hR HE5.out.lt
                    refine Mem.load_aggG _ _ entry_agg wr.heap.size 0 (Vec.entCells e) (by simp [Region.wanted]) (Reg.eval_of e7) (Vec.entCells_length _) (fun j u' hu => by rw [Nat.zero_add]; exact hEu.cell hu) ?_
                    exact ⟨rfl, hK _ _ rfl (fun j k _ _ => Reg.Adds.refl _ _ _)⟩
                  · intro val ac u hR hp ha K hK
                    obtain ⟨w32, h32, r32⟩ := hp 17 (by decide); have e32 : (ac.tmps[32]?).getD undef = Vec.C mk := (ha 32 (by decide)).trans h32; obtain ⟨w33, h33, r33⟩ := hp 18 (by decide); have e33 : (ac.tmps[33]?).getD undef = .agg (Vec.entCells e).toArray := (ha 33 (by decide)).trans h33; obtain ⟨w28, h28, r28⟩ := hp 13 (by decide); have e28 : (ac.tmps[28]?).getD undef = .bool false := (ha 28 (by decide)).trans h28; clear h32 h33 h28 ha hp
                    refine Reg.Op1.guarded rfl rfl e28 (fun _ => Reg.Op1.plain rfl ?_) (fun h => absurd rfl h)
                    go_wp2_with fail
                    refine (covered_any mk e u HDC.out).mono ?_
                    rintro x w' ⟨rfl, hbw⟩
                    rw [hr3]
                    go_wp2_with fail
                    exact ⟨rfl, hK _ _ rfl (fun j k _ _ => hbw)⟩
                  · intro val ac u hR hp ha K hK
                    obtain ⟨w28, h28, r28⟩ := hp 13 (by decide); have e28 : (ac.tmps[28]?).getD undef = .bool false := (ha 28 (by decide)).trans h28; obtain ⟨w34, h34, r34⟩ := hp 19 (by decide); have e34 : (ac.tmps[34]?).getD undef = .bool false := (ha 34 (by decide)).trans h34; clear h28 h34 ha hp
                    refine Reg.Op1.plain rfl ?_
                    go_wp2
                    exact ⟨rfl, hK _ _ rfl (fun j k _ _ => Reg.Adds.refl _ _ _)⟩
                  · intro val ac u hR hp ha K hK
                    obtain ⟨w35, h35, r35⟩ := hp 20 (by decide); have e35 : (ac.tmps[35]?).getD undef = .bool false := (ha 35 (by decide)).trans h35; clear h35 ha hp
                    refine Reg.Op1.plain rfl ?_
                    go_wp2
                    exact ⟨rfl, hK _ _ rfl (fun j k _ _ => Reg.Adds.refl _ _ _)⟩
                  · intro val ac u hR hp ha K hK
                    have e0 : (ac.tmps[0]?).getD undef = .pointer (some ⟨g, 0, none⟩) := ha 0 (by decide); obtain ⟨w36, h36, r36⟩ := hp 21 (by decide); have e36 : (ac.tmps[36]?).getD undef = .bool false := (ha 36 (by decide)).trans h36; clear h36 ha hp
                    refine Reg.Op1.guarded rfl rfl e36 (fun _ => Reg.Op1.plain rfl ?_) (fun h => absurd rfl h)
                    go_wp2
                    exact ⟨rfl, hK _ _ rfl (fun j k _ _ => Reg.Adds.refl _ _ _)⟩
                  · intro val ac u hR hp ha K hK
                    have e7 : (ac.tmps[7]?).getD undef = .pointer (some ⟨wr.heap.size, 0, none⟩) := ha 7 (by decide); obtain ⟨w36, h36, r36⟩ := hp 21 (by decide); have e36 : (ac.tmps[36]?).getD undef = .bool false := (ha 36 (by decide)).trans h36; clear h36 ha hp
                    refine Reg.Op1.guarded rfl rfl e36 (fun _ => Reg.Op1.plain rfl ?_) (fun h => absurd rfl h)
                    go_wp2
                    exact ⟨rfl, hK _ _ rfl (fun j k _ _ => Reg.Adds.refl _ _ _)⟩
                  · intro val ac u hR hp ha K hK
                    obtain ⟨w38, h38, r38⟩ := hp 23 (by decide); have e38 : (ac.tmps[38]?).getD undef = .pointer (some ⟨wr.heap.size, 0, none⟩) := (ha 38 (by decide)).trans h38; obtain ⟨w36, h36, r36⟩ := hp 21 (by decide); have e36 : (ac.tmps[36]?).getD undef = .bool false := (ha 36 (by decide)).trans h36; clear h38 h36 ha hp
                    refine Reg.Op1.guarded rfl rfl e36 (fun _ => Reg.Op1.plain rfl ?_) (fun h => absurd rfl h)
                    have x0 := (hR.cell (p := ⟨wr.heap.size, 0, none⟩) HE5.out.lt).trans (HE5.out.cell (j := 0) rfl)
                    have x1 := (hR.cell (p := ⟨wr.heap.size, 1, none⟩) HE5.out.lt).trans (HE5.out.cell (j := 1) rfl)
                    have x2 := (hR.cell (p := ⟨wr.heap.size, 2, none⟩) HE5.out.lt).trans (HE5.out.cell (j := 2) rfl)
                    go_wp2
                    exact ⟨rfl, hK _ _ rfl (fun j k _ _ => Reg.Adds.refl _ _ _)⟩
                  · intro val ac u hR hp ha K hK
                    obtain ⟨w37, h37, r37⟩ := hp 22 (by decide); have e37 : (ac.tmps[37]?).getD undef = .pointer (some ⟨g, 0, none⟩) := (ha 37 (by decide)).trans h37; obtain ⟨w39, h39, r39⟩ := hp 24 (by decide); have e39 : (ac.tmps[39]?).getD undef = .agg (Vec.dtCells (Vec.dotE e)).toArray := (ha 39 (by decide)).trans h39; obtain ⟨w36, h36, r36⟩ := hp 21 (by decide); have e36 : (ac.tmps[36]?).getD undef = .bool false := (ha 36 (by decide)).trans h36; clear h37 h39 h36 ha hp
                    refine Reg.Op1.guarded rfl rfl e36 (fun _ => Reg.Op1.plain rfl ?_) (fun h => absurd rfl h)
                    go_wp2_with fail
                    refine (has_any (HS5.out.drew.below hR) (Vec.dotE e)).mono ?_
                    rintro x w' ⟨rfl, hbw⟩
                    rw [hr4]
                    go_wp2_with fail
                    exact ⟨rfl, hK _ _ rfl (fun j k _ _ => hbw)⟩
                  · intro val ac u hR hp ha K hK
                    obtain ⟨w36, h36, r36⟩ := hp 21 (by decide); have e36 : (ac.tmps[36]?).getD undef = .bool false := (ha 36 (by decide)).trans h36; obtain ⟨w40, h40, r40⟩ := hp 25 (by decide); have e40 : (ac.tmps[40]?).getD undef = .bool false := (ha 40 (by decide)).trans h40; clear h36 h40 ha hp
                    refine Reg.Op1.plain rfl ?_
                    go_wp2
                    exact ⟨rfl, hK _ _ rfl (fun j k _ _ => Reg.Adds.refl _ _ _)⟩
                · intro val u hR H
                  obtain ⟨_, hv, _⟩ := H 26 (by decide)
                  have hv : val 26 = .bool false := hv
                  have HK6 : Hid (Below w5.heap.size w5 u) := (Below.refl _ w5).drew.trans hR
                  simp only [List.map_cons, List.map_nil, Reg.lay, Act.put, List.setIfInBounds_toArray, List.set_cons_succ, List.set_cons_zero, Nat.reduceAdd, hv]
                  clear hR H hv
                  go_wp2
                  go_meet
                  case rel => exact ⟨by rw [hok]; rfl, HK6.out⟩
              · have hok : okP rng mk (states rs) e = false := by unfold okP; rw [hr4]; simp
                refine Reg.wp_region_rel (by kernel_rfl) 65 27 rfl rfl (by kernel_rfl) (Reg.Adds) (Reg.Adds.refl) (Reg.Adds.trans)
                  (fun i v u => match i with
                    | 0 => v = .agg (Vec.entCells e).toArray
                    | 1 => v = .bool true
                    | 2 => v = .bool false
                    | 3 => v = .bool false
                    | 4 => v = .pointer (some ⟨wr.heap.size, 0, none⟩)
                    | 5 => v = .pointer (some ⟨wr.heap.size, 1, none⟩)
                    | 6 => v = .int .i64 e.rng
                    | 7 => v = .pointer (some ⟨g, 0, none⟩)
                    | 8 => v = .pointer (some ⟨g, 0, none⟩)
                    | 9 => v = .pointer (some ⟨g, 0, none⟩)
                    | 10 => v = .int .i64 rng
                    | 11 => v = .bool false
                    | 12 => v = .bool false
                    | 13 => v = .bool false
                    | 14 => v = .pointer (some ⟨g, 0, none⟩)
                    | 15 => v = .pointer (some ⟨g, 0, none⟩)
                    | 16 => v = .pointer (some ⟨g, 2, none⟩)
                    | 17 => v = Vec.C mk
                    | 18 => v = .agg (Vec.entCells e).toArray
                    | 19 => v = .bool false
                    | 20 => v = .bool false
                    | 21 => v = .bool false
                    | 22 => v = .pointer (some ⟨g, 0, none⟩)
                    | 23 => v = .pointer (some ⟨wr.heap.size, 0, none⟩)
                    | 24 => v = .agg (Vec.dtCells (Vec.dotE e)).toArray
                    | 25 => v = .bool true
                    | 26 => v = .bool true
                    | _ => True) ?_ ?_
                · refine Reg.Steps.cons ?_ (Reg.Steps.cons ?_ (Reg.Steps.cons ?_ (Reg.Steps.cons ?_ (Reg.Steps.cons ?_ (Reg.Steps.cons ?_ (Reg.Steps.cons ?_ (Reg.Steps.cons ?_ (Reg.Steps.cons ?_ (Reg.Steps.cons ?_ (Reg.Steps.cons ?_ (Reg.Steps.cons ?_ (Reg.Steps.cons ?_ (Reg.Steps.cons ?_ (Reg.Steps.cons ?_ (Reg.Steps.cons ?_ (Reg.Steps.cons ?_ (Reg.Steps.cons ?_ (Reg.Steps.cons ?_ (Reg.Steps.cons ?_ (Reg.Steps.cons ?_ (Reg.Steps.cons ?_ (Reg.Steps.cons ?_ (Reg.Steps.cons ?_ (Reg.Steps.cons ?_ (Reg.Steps.cons ?_ (Reg.Steps.cons ?_ (Reg.Steps.nil _)))))))))))))))))))))))))))
                  · intro val ac u hR hp ha K hK
                    have e7 : (ac.tmps[7]?).getD undef = .pointer (some ⟨wr.heap.size, 0, none⟩) := ha 7 (by decide); clear ha hp
                    refine Reg.Op1.plain rfl ?_
                    have hEu : Vec.EBx u wr.heap.size e := Mem.Bx.below (w := w5.drew) HE5.out hR HE5.out.lt
                    refine Mem.load_agg _ _ entry_agg wr.heap.size 0 (Vec.entCells e) (Reg.eval_of e7) (Vec.entCells_length _) (fun j u' hu => by rw [Nat.zero_add]; exact hEu.cell hu) ?_
                    exact ⟨rfl, hK _ _ rfl (fun j k _ _ => Reg.Adds.refl _ _ _)⟩
                  · intro val ac u hR hp ha K hK
                    obtain ⟨w15, h15, r15⟩ := hp 0 (by decide); have e15 : (ac.tmps[15]?).getD undef = .agg (Vec.entCells e).toArray := (ha 15 (by decide)).trans h15; clear h15 ha hp
                    refine Reg.Op1.plain rfl ?_
                    go_wp2_with fail
                    refine (rightE_any e u).mono ?_
                    rintro x w' ⟨rfl, hbw⟩
                    rw [hr1]
                    go_wp2_with fail
                    exact ⟨rfl, hK _ _ rfl (fun j k _ _ => hbw)⟩
                  · intro val ac u hR hp ha K hK
                    obtain ⟨w16, h16, r16⟩ := hp 1 (by decide); have e16 : (ac.tmps[16]?).getD undef = .bool true := (ha 16 (by decide)).trans h16; clear h16 ha hp
                    refine Reg.Op1.plain rfl ?_
                    go_wp2
                    exact ⟨rfl, hK _ _ rfl (fun j k _ _ => Reg.Adds.refl _ _ _)⟩
                  · intro val ac u hR hp ha K hK
                    obtain ⟨w17, h17, r17⟩ := hp 2 (by decide); have e17 : (ac.tmps[17]?).getD undef = .bool false := (ha 17 (by decide)).trans h17; clear h17 ha hp
                    refine Reg.Op1.plain rfl ?_
                    go_wp2
                    exact ⟨rfl, hK _ _ rfl (fun j k _ _ => Reg.Adds.refl _ _ _)⟩
                  · intro val ac u hR hp ha K hK
                    have e7 : (ac.tmps[7]?).getD undef = .pointer (some ⟨wr.heap.size, 0, none⟩) := ha 7 (by decide); obtain ⟨w18, h18, r18⟩ := hp 3 (by decide); have e18 : (ac.tmps[18]?).getD undef = .bool false := (ha 18 (by decide)).trans h18; clear h18 ha hp
                    refine Reg.Op1.guarded rfl rfl e18 (fun _ => Reg.Op1.plain rfl ?_) (fun h => absurd rfl h)
                    go_wp2
                    exact ⟨rfl, hK _ _ rfl (fun j k _ _ => Reg.Adds.refl _ _ _)⟩
                  · intro val ac u hR hp ha K hK
                    obtain ⟨w19, h19, r19⟩ := hp 4 (by decide); have e19 : (ac.tmps[19]?).getD undef = .pointer (some ⟨wr.heap.size, 0, none⟩) := (ha 19 (by decide)).trans h19; obtain ⟨w18, h18, r18⟩ := hp 3 (by decide); have e18 : (ac.tmps[18]?).getD undef = .bool false := (ha 18 (by decide)).trans h18; clear h19 h18 ha hp
                    refine Reg.Op1.guarded rfl rfl e18 (fun _ => Reg.Op1.plain rfl ?_) (fun h => absurd rfl h)
                    go_wp2
                    exact ⟨rfl, hK _ _ rfl (fun j k _ _ => Reg.Adds.refl _ _ _)⟩
                  · intro val ac u hR hp ha K hK
                    obtain ⟨w20, h20, r20⟩ := hp 5 (by decide); have e20 : (ac.tmps[20]?).getD undef = .pointer (some ⟨wr.heap.size, 1, none⟩) := (ha 20 (by decide)).trans h20; obtain ⟨w18, h18, r18⟩ := hp 3 (by decide); have e18 : (ac.tmps[18]?).getD undef = .bool false := (ha 18 (by decide)).trans h18; clear h20 h18 ha hp
                    refine Reg.Op1.guarded rfl rfl e18 (fun _ => Reg.Op1.plain rfl ?_) (fun h => absurd rfl h)
                    have x0 := (hR.cell (p := ⟨wr.heap.size, 1, none⟩) HE5.out.lt).trans (HE5.out.cell (j := 1) rfl)
                    go_wp2
                    exact ⟨rfl, hK _ _ rfl (fun j k _ _ => Reg.Adds.refl _ _ _)⟩
                  · intro val ac u hR hp ha K hK
                    have e0 : (ac.tmps[0]?).getD undef = .pointer (some ⟨g, 0, none⟩) := ha 0 (by decide); obtain ⟨w18, h18, r18⟩ := hp 3 (by decide); have e18 : (ac.tmps[18]?).getD undef = .bool false := (ha 18 (by decide)).trans h18; clear h18 ha hp
                    refine Reg.Op1.guarded rfl rfl e18 (fun _ => Reg.Op1.plain rfl ?_) (fun h => absurd rfl h)
                    go_wp2
                    exact ⟨rfl, hK _ _ rfl (fun j k _ _ => Reg.Adds.refl _ _ _)⟩
                  · intro val ac u hR hp ha K hK
                    obtain ⟨w22, h22, r22⟩ := hp 7 (by decide); have e22 : (ac.tmps[22]?).getD undef = .pointer (some ⟨g, 0, none⟩) := (ha 22 (by decide)).trans h22; obtain ⟨w18, h18, r18⟩ := hp 3 (by decide); have e18 : (ac.tmps[18]?).getD undef = .bool false := (ha 18 (by decide)).trans h18; clear h22 h18 ha hp
                    refine Reg.Op1.guarded rfl rfl e18 (fun _ => Reg.Op1.plain rfl ?_) (fun h => absurd rfl h)
                    go_wp2
                    exact ⟨rfl, hK _ _ rfl (fun j k _ _ => Reg.Adds.refl _ _ _)⟩
                  · intro val ac u hR hp ha K hK
                    obtain ⟨w23, h23, r23⟩ := hp 8 (by decide); have e23 : (ac.tmps[23]?).getD undef = .pointer (some ⟨g, 0, none⟩) := (ha 23 (by decide)).trans h23; obtain ⟨w18, h18, r18⟩ := hp 3 (by decide); have e18 : (ac.tmps[18]?).getD undef = .bool false := (ha 18 (by decide)).trans h18; clear h23 h18 ha hp
                    refine Reg.Op1.guarded rfl rfl e18 (fun _ => Reg.Op1.plain rfl ?_) (fun h => absurd rfl h)
                    go_wp2
                    exact ⟨rfl, hK _ _ rfl (fun j k _ _ => Reg.Adds.refl _ _ _)⟩
                  · intro val ac u hR hp ha K hK
                    obtain ⟨w24, h24, r24⟩ := hp 9 (by decide); have e24 : (ac.tmps[24]?).getD undef = .pointer (some ⟨g, 0, none⟩) := (ha 24 (by decide)).trans h24; obtain ⟨w18, h18, r18⟩ := hp 3 (by decide); have e18 : (ac.tmps[18]?).getD undef = .bool false := (ha 18 (by decide)).trans h18; clear h24 h18 ha hp
                    refine Reg.Op1.guarded rfl rfl e18 (fun _ => Reg.Op1.plain rfl ?_) (fun h => absurd rfl h)
                    have x0 := (hR.cell (p := ⟨g, 0, none⟩) HS5.out.B.lt).trans (HS5.out.B.cell (j := 0) rfl)
                    go_wp2
                    exact ⟨rfl, hK _ _ rfl (fun j k _ _ => Reg.Adds.refl _ _ _)⟩
                  · intro val ac u hR hp ha K hK
                    obtain ⟨w21, h21, r21⟩ := hp 6 (by decide); have e21 : (ac.tmps[21]?).getD undef = .int .i64 e.rng := (ha 21 (by decide)).trans h21; obtain ⟨w25, h25, r25⟩ := hp 10 (by decide); have e25 : (ac.tmps[25]?).getD undef = .int .i64 rng := (ha 25 (by decide)).trans h25; obtain ⟨w18, h18, r18⟩ := hp 3 (by decide); have e18 : (ac.tmps[18]?).getD undef = .bool false := (ha 18 (by decide)).trans h18; clear h21 h25 h18 ha hp
                    refine Reg.Op1.guarded rfl rfl e18 (fun _ => Reg.Op1.plain rfl ?_) (fun h => absurd rfl h)
                    go_wp2
                    exact ⟨rfl, hK _ _ rfl (fun j k _ _ => Reg.Adds.refl _ _ _)⟩
                  · intro val ac u hR hp ha K hK
                    obtain ⟨w18, h18, r18⟩ := hp 3 (by decide); have e18 : (ac.tmps[18]?).getD undef = .bool false := (ha 18 (by decide)).trans h18; obtain ⟨w26, h26, r26⟩ := hp 11 (by decide); have e26 : (ac.tmps[26]?).getD undef = .bool false := (ha 26 (by decide)).trans h26; clear h18 h26 ha hp
                    refine Reg.Op1.plain rfl ?_
                    go_wp2
                    exact ⟨rfl, hK _ _ rfl (fun j k _ _ => Reg.Adds.refl _ _ _)⟩
                  · intro val ac u hR hp ha K hK
                    obtain ⟨w27, h27, r27⟩ := hp 12 (by decide); have e27 : (ac.tmps[27]?).getD undef = .bool false := (ha 27 (by decide)).trans h27; clear h27 ha hp
                    refine Reg.Op1.plain rfl ?_
                    go_wp2
                    exact ⟨rfl, hK _ _ rfl (fun j k _ _ => Reg.Adds.refl _ _ _)⟩
                  · intro val ac u hR hp ha K hK
                    have e0 : (ac.tmps[0]?).getD undef = .pointer (some ⟨g, 0, none⟩) := ha 0 (by decide); obtain ⟨w28, h28, r28⟩ := hp 13 (by decide); have e28 : (ac.tmps[28]?).getD undef = .bool false := (ha 28 (by decide)).trans h28; clear h28 ha hp
                    refine Reg.Op1.guarded rfl rfl e28 (fun _ => Reg.Op1.plain rfl ?_) (fun h => absurd rfl h)
                    go_wp2
                    exact ⟨rfl, hK _ _ rfl (fun j k _ _ => Reg.Adds.refl _ _ _)⟩
                  · intro val ac u hR hp ha K hK
                    obtain ⟨w29, h29, r29⟩ := hp 14 (by decide); have e29 : (ac.tmps[29]?).getD undef = .pointer (some ⟨g, 0, none⟩) := (ha 29 (by decide)).trans h29; obtain ⟨w28, h28, r28⟩ := hp 13 (by decide); have e28 : (ac.tmps[28]?).getD undef = .bool false := (ha 28 (by decide)).trans h28; clear h29 h28 ha hp
                    refine Reg.Op1.guarded rfl rfl e28 (fun _ => Reg.Op1.plain rfl ?_) (fun h => absurd rfl h)
                    go_wp2
                    exact ⟨rfl, hK _ _ rfl (fun j k _ _ => Reg.Adds.refl _ _ _)⟩
                  · intro val ac u hR hp ha K hK
                    obtain ⟨w30, h30, r30⟩ := hp 15 (by decide); have e30 : (ac.tmps[30]?).getD undef = .pointer (some ⟨g, 0, none⟩) := (ha 30 (by decide)).trans h30; obtain ⟨w28, h28, r28⟩ := hp 13 (by decide); have e28 : (ac.tmps[28]?).getD undef = .bool false := (ha 28 (by decide)).trans h28; clear h30 h28 ha hp
                    refine Reg.Op1.guarded rfl rfl e28 (fun _ => Reg.Op1.plain rfl ?_) (fun h => absurd rfl h)
                    go_wp2
                    exact ⟨rfl, hK _ _ rfl (fun j k _ _ => Reg.Adds.refl _ _ _)⟩
                  · intro val ac u hR hp ha K hK
                    obtain ⟨w31, h31, r31⟩ := hp 16 (by decide); have e31 : (ac.tmps[31]?).getD undef = .pointer (some ⟨g, 2, none⟩) := (ha 31 (by decide)).trans h31; obtain ⟨w28, h28, r28⟩ := hp 13 (by decide); have e28 : (ac.tmps[28]?).getD undef = .bool false := (ha 28 (by decide)).trans h28; clear h31 h28 ha hp
                    refine Reg.Op1.guarded rfl rfl e28 (fun _ => Reg.Op1.plain rfl ?_) (fun h => absurd rfl h)
                    have x0 := (hR.cell (p := ⟨g, 2, none⟩) HS5.out.B.lt).trans (HS5.out.B.cell (j := 2) rfl)
                    have x1 := (hR.cell (p := ⟨g, 3, none⟩) HS5.out.B.lt).trans (HS5.out.B.cell (j := 3) rfl)
                    have x2 := (hR.cell (p := ⟨g, 4, none⟩) HS5.out.B.lt).trans (HS5.out.B.cell (j := 4) rfl)
                    go_wp2
                    exact ⟨rfl, hK _ _ rfl (fun j k _ _ => Reg.Adds.refl _ _ _)⟩
                  · intro val ac u hR hp ha K hK
                    have e7 : (ac.tmps[7]?).getD undef = .pointer (some ⟨wr.heap.size, 0, none⟩) := ha 7 (by decide); obtain ⟨w28, h28, r28⟩ := hp 13 (by decide); have e28 : (ac.tmps[28]?).getD undef = .bool false := (ha 28 (by decide)).trans h28; clear h28 ha hp
                    refine Reg.Op1.guarded rfl rfl e28 (fun _ => Reg.Op1.plain rfl ?_) (fun h => absurd rfl h)
                    have hEu : Vec.EBx u wr.heap.size e := Mem.Bx.below (w := w5.drew) HE5.out hR HE5.out.lt
                    refine Mem.load_aggG _ _ entry_agg wr.heap.size 0 (Vec.entCells e) (by simp [Region.wanted]) (Reg.eval_of e7) (Vec.entCells_length _) (fun j u' hu => by rw [Nat.zero_add]; exact hEu.cell hu) ?_
                    exact ⟨rfl, hK _ _ rfl (fun j k _ _ => Reg.Adds.refl _ _ _)⟩
                  · intro val ac u hR hp ha K hK
                    obtain ⟨w32, h32, r32⟩ := hp 17 (by decide); have e32 : (ac.tmps[32]?).getD undef = Vec.C mk := (ha 32 (by decide)).trans h32; obtain ⟨w33, h33, r33⟩ := hp 18 (by decide); have e33 : (ac.tmps[33]?).getD undef = .agg (Vec.entCells e).toArray := (ha 33 (by decide)).trans h33; obtain ⟨w28, h28, r28⟩ := hp 13 (by decide); have e28 : (ac.tmps[28]?).getD undef = .bool false := (ha 28 (by decide)).trans h28; clear h32 h33 h28 ha hp
                    refine Reg.Op1.guarded rfl rfl e28 (fun _ => Reg.Op1.plain rfl ?_) (fun h => absurd rfl h)
                    go_wp2_with fail
                    refine (covered_any mk e u HDC.out).mono ?_
                    rintro x w' ⟨rfl, hbw⟩
                    rw [hr3]
                    go_wp2_with fail
                    exact ⟨rfl, hK _ _ rfl (fun j k _ _ => hbw)⟩
                  · intro val ac u hR hp ha K hK
                    obtain ⟨w28, h28, r28⟩ := hp 13 (by decide); have e28 : (ac.tmps[28]?).getD undef = .bool false := (ha 28 (by decide)).trans h28; obtain ⟨w34, h34, r34⟩ := hp 19 (by decide); have e34 : (ac.tmps[34]?).getD undef = .bool false := (ha 34 (by decide)).trans h34; clear h28 h34 ha hp
                    refine Reg.Op1.plain rfl ?_
                    go_wp2
                    exact ⟨rfl, hK _ _ rfl (fun j k _ _ => Reg.Adds.refl _ _ _)⟩
                  · intro val ac u hR hp ha K hK
                    obtain ⟨w35, h35, r35⟩ := hp 20 (by decide); have e35 : (ac.tmps[35]?).getD undef = .bool false := (ha 35 (by decide)).trans h35; clear h35 ha hp
                    refine Reg.Op1.plain rfl ?_
                    go_wp2
                    exact ⟨rfl, hK _ _ rfl (fun j k _ _ => Reg.Adds.refl _ _ _)⟩
                  · intro val ac u hR hp ha K hK
                    have e0 : (ac.tmps[0]?).getD undef = .pointer (some ⟨g, 0, none⟩) := ha 0 (by decide); obtain ⟨w36, h36, r36⟩ := hp 21 (by decide); have e36 : (ac.tmps[36]?).getD undef = .bool false := (ha 36 (by decide)).trans h36; clear h36 ha hp
                    refine Reg.Op1.guarded rfl rfl e36 (fun _ => Reg.Op1.plain rfl ?_) (fun h => absurd rfl h)
                    go_wp2
                    exact ⟨rfl, hK _ _ rfl (fun j k _ _ => Reg.Adds.refl _ _ _)⟩
                  · intro val ac u hR hp ha K hK
                    have e7 : (ac.tmps[7]?).getD undef = .pointer (some ⟨wr.heap.size, 0, none⟩) := ha 7 (by decide); obtain ⟨w36, h36, r36⟩ := hp 21 (by decide); have e36 : (ac.tmps[36]?).getD undef = .bool false := (ha 36 (by decide)).trans h36; clear h36 ha hp
                    refine Reg.Op1.guarded rfl rfl e36 (fun _ => Reg.Op1.plain rfl ?_) (fun h => absurd rfl h)
                    go_wp2
                    exact ⟨rfl, hK _ _ rfl (fun j k _ _ => Reg.Adds.refl _ _ _)⟩
                  · intro val ac u hR hp ha K hK
                    obtain ⟨w38, h38, r38⟩ := hp 23 (by decide); have e38 : (ac.tmps[38]?).getD undef = .pointer (some ⟨wr.heap.size, 0, none⟩) := (ha 38 (by decide)).trans h38; obtain ⟨w36, h36, r36⟩ := hp 21 (by decide); have e36 : (ac.tmps[36]?).getD undef = .bool false := (ha 36 (by decide)).trans h36; clear h38 h36 ha hp
                    refine Reg.Op1.guarded rfl rfl e36 (fun _ => Reg.Op1.plain rfl ?_) (fun h => absurd rfl h)
                    have x0 := (hR.cell (p := ⟨wr.heap.size, 0, none⟩) HE5.out.lt).trans (HE5.out.cell (j := 0) rfl)
                    have x1 := (hR.cell (p := ⟨wr.heap.size, 1, none⟩) HE5.out.lt).trans (HE5.out.cell (j := 1) rfl)
                    have x2 := (hR.cell (p := ⟨wr.heap.size, 2, none⟩) HE5.out.lt).trans (HE5.out.cell (j := 2) rfl)
                    go_wp2
                    exact ⟨rfl, hK _ _ rfl (fun j k _ _ => Reg.Adds.refl _ _ _)⟩
                  · intro val ac u hR hp ha K hK
                    obtain ⟨w37, h37, r37⟩ := hp 22 (by decide); have e37 : (ac.tmps[37]?).getD undef = .pointer (some ⟨g, 0, none⟩) := (ha 37 (by decide)).trans h37; obtain ⟨w39, h39, r39⟩ := hp 24 (by decide); have e39 : (ac.tmps[39]?).getD undef = .agg (Vec.dtCells (Vec.dotE e)).toArray := (ha 39 (by decide)).trans h39; obtain ⟨w36, h36, r36⟩ := hp 21 (by decide); have e36 : (ac.tmps[36]?).getD undef = .bool false := (ha 36 (by decide)).trans h36; clear h37 h39 h36 ha hp
                    refine Reg.Op1.guarded rfl rfl e36 (fun _ => Reg.Op1.plain rfl ?_) (fun h => absurd rfl h)
                    go_wp2_with fail
                    refine (has_any (HS5.out.drew.below hR) (Vec.dotE e)).mono ?_
                    rintro x w' ⟨rfl, hbw⟩
                    rw [hr4]
                    go_wp2_with fail
                    exact ⟨rfl, hK _ _ rfl (fun j k _ _ => hbw)⟩
                  · intro val ac u hR hp ha K hK
                    obtain ⟨w36, h36, r36⟩ := hp 21 (by decide); have e36 : (ac.tmps[36]?).getD undef = .bool false := (ha 36 (by decide)).trans h36; obtain ⟨w40, h40, r40⟩ := hp 25 (by decide); have e40 : (ac.tmps[40]?).getD undef = .bool true := (ha 40 (by decide)).trans h40; clear h36 h40 ha hp
                    refine Reg.Op1.plain rfl ?_
                    go_wp2
                    exact ⟨rfl, hK _ _ rfl (fun j k _ _ => Reg.Adds.refl _ _ _)⟩
                · intro val u hR H
                  obtain ⟨_, hv, _⟩ := H 26 (by decide)
                  have hv : val 26 = .bool true := hv
                  have HK6 : Hid (Below w5.heap.size w5 u) := (Below.refl _ w5).drew.trans hR
                  simp only [List.map_cons, List.map_nil, Reg.lay, Act.put, List.setIfInBounds_toArray, List.set_cons_succ, List.set_cons_zero, Nat.reduceAdd, hv]
                  clear hR H hv
                  go_wp2
                  go_meet
                  case rel => exact ⟨by rw [hok]; rfl, HK6.out⟩
            · have hok : okP rng mk (states rs) e = false := by unfold okP; rw [hr3]; simp
              refine Reg.wp_region_rel (by kernel_rfl) 65 27 rfl rfl (by kernel_rfl) (Reg.Adds) (Reg.Adds.refl) (Reg.Adds.trans)
                (fun i v u => match i with
                  | 0 => v = .agg (Vec.entCells e).toArray
                  | 1 => v = .bool true
                  | 2 => v = .bool false
                  | 3 => v = .bool false
                  | 4 => v = .pointer (some ⟨wr.heap.size, 0, none⟩)
                  | 5 => v = .pointer (some ⟨wr.heap.size, 1, none⟩)
                  | 6 => v = .int .i64 e.rng
                  | 7 => v = .pointer (some ⟨g, 0, none⟩)
                  | 8 => v = .pointer (some ⟨g, 0, none⟩)
                  | 9 => v = .pointer (some ⟨g, 0, none⟩)
                  | 10 => v = .int .i64 rng
                  | 11 => v = .bool false
                  | 12 => v = .bool false
                  | 13 => v = .bool false
                  | 14 => v = .pointer (some ⟨g, 0, none⟩)
                  | 15 => v = .pointer (some ⟨g, 0, none⟩)
                  | 16 => v = .pointer (some ⟨g, 2, none⟩)
                  | 17 => v = Vec.C mk
                  | 18 => v = .agg (Vec.entCells e).toArray
                  | 19 => v = .bool true
                  | 20 => v = .bool true
                  | 21 => v = .bool true
                  | 22 => v = undef
                  | 23 => v = undef
                  | 24 => v = undef
                  | 25 => v = undef
                  | 26 => v = .bool true
                  | _ => True) ?_ ?_
              · refine Reg.Steps.cons ?_ (Reg.Steps.cons ?_ (Reg.Steps.cons ?_ (Reg.Steps.cons ?_ (Reg.Steps.cons ?_ (Reg.Steps.cons ?_ (Reg.Steps.cons ?_ (Reg.Steps.cons ?_ (Reg.Steps.cons ?_ (Reg.Steps.cons ?_ (Reg.Steps.cons ?_ (Reg.Steps.cons ?_ (Reg.Steps.cons ?_ (Reg.Steps.cons ?_ (Reg.Steps.cons ?_ (Reg.Steps.cons ?_ (Reg.Steps.cons ?_ (Reg.Steps.cons ?_ (Reg.Steps.cons ?_ (Reg.Steps.cons ?_ (Reg.Steps.cons ?_ (Reg.Steps.cons ?_ (Reg.Steps.cons ?_ (Reg.Steps.cons ?_ (Reg.Steps.cons ?_ (Reg.Steps.cons ?_ (Reg.Steps.cons ?_ (Reg.Steps.nil _)))))))))))))))))))))))))))
                · intro val ac u hR hp ha K hK
                  have e7 : (ac.tmps[7]?).getD undef = .pointer (some ⟨wr.heap.size, 0, none⟩) := ha 7 (by decide); clear ha hp
                  refine Reg.Op1.plain rfl ?_
                  have hEu : Vec.EBx u wr.heap.size e := Mem.Bx.below (w := w5.drew) HE5.out hR HE5.out.lt
                  refine Mem.load_agg _ _ entry_agg wr.heap.size 0 (Vec.entCells e) (Reg.eval_of e7) (Vec.entCells_length _) (fun j u' hu => by rw [Nat.zero_add]; exact hEu.cell hu) ?_
                  exact ⟨rfl, hK _ _ rfl (fun j k _ _ => Reg.Adds.refl _ _ _)⟩
                · intro val ac u hR hp ha K hK
                  obtain ⟨w15, h15, r15⟩ := hp 0 (by decide); have e15 : (ac.tmps[15]?).getD undef = .agg (Vec.entCells e).toArray := (ha 15 (by decide)).trans h15; clear h15 ha hp
                  refine Reg.Op1.plain rfl ?_
                  go_wp2_with fail
                  refine (rightE_any e u).mono ?_
                  rintro x w' ⟨rfl, hbw⟩
                  rw [hr1]
                  go_wp2_with fail
                  exact ⟨rfl, hK _ _ rfl (fun j k _ _ => hbw)⟩
                · intro val ac u hR hp ha K hK
                  obtain ⟨w16, h16, r16⟩ := hp 1 (by decide); have e16 : (ac.tmps[16]?).getD undef = .bool true := (ha 16 (by decide)).trans h16; clear h16 ha hp
                  refine Reg.Op1.plain rfl ?_
                  go_wp2
                  exact ⟨rfl, hK _ _ rfl (fun j k _ _ => Reg.Adds.refl _ _ _)⟩
                · intro val ac u hR hp ha K hK
                  obtain ⟨w17, h17, r17⟩ := hp 2 (by decide); have e17 : (ac.tmps[17]?).getD undef = .bool false := (ha 17 (by decide)).trans h17; clear h17 ha hp
                  refine Reg.Op1.plain rfl ?_
                  go_wp2
                  exact ⟨rfl, hK _ _ rfl (fun j k _ _ => Reg.Adds.refl _ _ _)⟩
                · intro val ac u hR hp ha K hK
                  have e7 : (ac.tmps[7]?).getD undef = .pointer (some ⟨wr.heap.size, 0, none⟩) := ha 7 (by decide); obtain ⟨w18, h18, r18⟩ := hp 3 (by decide); have e18 : (ac.tmps[18]?).getD undef = .bool false := (ha 18 (by decide)).trans h18; clear h18 ha hp
                  refine Reg.Op1.guarded rfl rfl e18 (fun _ => Reg.Op1.plain rfl ?_) (fun h => absurd rfl h)
                  go_wp2
                  exact ⟨rfl, hK _ _ rfl (fun j k _ _ => Reg.Adds.refl _ _ _)⟩
                · intro val ac u hR hp ha K hK
                  obtain ⟨w19, h19, r19⟩ := hp 4 (by decide); have e19 : (ac.tmps[19]?).getD undef = .pointer (some ⟨wr.heap.size, 0, none⟩) := (ha 19 (by decide)).trans h19; obtain ⟨w18, h18, r18⟩ := hp 3 (by decide); have e18 : (ac.tmps[18]?).getD undef = .bool false := (ha 18 (by decide)).trans h18; clear h19 h18 ha hp
                  refine Reg.Op1.guarded rfl rfl e18 (fun _ => Reg.Op1.plain rfl ?_) (fun h => absurd rfl h)
                  go_wp2
                  exact ⟨rfl, hK _ _ rfl (fun j k _ _ => Reg.Adds.refl _ _ _)⟩
                · intro val ac u hR hp ha K hK
                  obtain ⟨w20, h20, r20⟩ := hp 5 (by decide); have e20 : (ac.tmps[20]?).getD undef = .pointer (some ⟨wr.heap.size, 1, none⟩) := (ha 20 (by decide)).trans h20; obtain ⟨w18, h18, r18⟩ := hp 3 (by decide); have e18 : (ac.tmps[18]?).getD undef = .bool false := (ha 18 (by decide)).trans h18; clear h20 h18 ha hp
                  refine Reg.Op1.guarded rfl rfl e18 (fun _ => Reg.Op1.plain rfl ?_) (fun h => absurd rfl h)
                  have x0 := (hR.cell (p := ⟨wr.heap.size, 1, none⟩) HE5.out.lt).trans (HE5.out.cell (j := 1) rfl)
                  go_wp2
                  exact ⟨rfl, hK _ _ rfl (fun j k _ _ => Reg.Adds.refl _ _ _)⟩
                · intro val ac u hR hp ha K hK
                  have e0 : (ac.tmps[0]?).getD undef = .pointer (some ⟨g, 0, none⟩) := ha 0 (by decide); obtain ⟨w18, h18, r18⟩ := hp 3 (by decide); have e18 : (ac.tmps[18]?).getD undef = .bool false := (ha 18 (by decide)).trans h18; clear h18 ha hp
                  refine Reg.Op1.guarded rfl rfl e18 (fun _ => Reg.Op1.plain rfl ?_) (fun h => absurd rfl h)
                  go_wp2
                  exact ⟨rfl, hK _ _ rfl (fun j k _ _ => Reg.Adds.refl _ _ _)⟩
                · intro val ac u hR hp ha K hK
                  obtain ⟨w22, h22, r22⟩ := hp 7 (by decide); have e22 : (ac.tmps[22]?).getD undef = .pointer (some ⟨g, 0, none⟩) := (ha 22 (by decide)).trans h22; obtain ⟨w18, h18, r18⟩ := hp 3 (by decide); have e18 : (ac.tmps[18]?).getD undef = .bool false := (ha 18 (by decide)).trans h18; clear h22 h18 ha hp
                  refine Reg.Op1.guarded rfl rfl e18 (fun _ => Reg.Op1.plain rfl ?_) (fun h => absurd rfl h)
                  go_wp2
                  exact ⟨rfl, hK _ _ rfl (fun j k _ _ => Reg.Adds.refl _ _ _)⟩
                · intro val ac u hR hp ha K hK
                  obtain ⟨w23, h23, r23⟩ := hp 8 (by decide); have e23 : (ac.tmps[23]?).getD undef = .pointer (some ⟨g, 0, none⟩) := (ha 23 (by decide)).trans h23; obtain ⟨w18, h18, r18⟩ := hp 3 (by decide); have e18 : (ac.tmps[18]?).getD undef = .bool false := (ha 18 (by decide)).trans h18; clear h23 h18 ha hp
                  refine Reg.Op1.guarded rfl rfl e18 (fun _ => Reg.Op1.plain rfl ?_) (fun h => absurd rfl h)
                  go_wp2
                  exact ⟨rfl, hK _ _ rfl (fun j k _ _ => Reg.Adds.refl _ _ _)⟩
                · intro val ac u hR hp ha K hK
                  obtain ⟨w24, h24, r24⟩ := hp 9 (by decide); have e24 : (ac.tmps[24]?).getD undef = .pointer (some ⟨g, 0, none⟩) := (ha 24 (by decide)).trans h24; obtain ⟨w18, h18, r18⟩ := hp 3 (by decide); have e18 : (ac.tmps[18]?).getD undef = .bool false := (ha 18 (by decide)).trans h18; clear h24 h18 ha hp
                  refine Reg.Op1.guarded rfl rfl e18 (fun _ => Reg.Op1.plain rfl ?_) (fun h => absurd rfl h)
                  have x0 := (hR.cell (p := ⟨g, 0, none⟩) HS5.out.B.lt).trans (HS5.out.B.cell (j := 0) rfl)
                  go_wp2
                  exact ⟨rfl, hK _ _ rfl (fun j k _ _ => Reg.Adds.refl _ _ _)⟩
                · intro val ac u hR hp ha K hK
                  obtain ⟨w21, h21, r21⟩ := hp 6 (by decide); have e21 : (ac.tmps[21]?).getD undef = .int .i64 e.rng := (ha 21 (by decide)).trans h21; obtain ⟨w25, h25, r25⟩ := hp 10 (by decide); have e25 : (ac.tmps[25]?).getD undef = .int .i64 rng := (ha 25 (by decide)).trans h25; obtain ⟨w18, h18, r18⟩ := hp 3 (by decide); have e18 : (ac.tmps[18]?).getD undef = .bool false := (ha 18 (by decide)).trans h18; clear h21 h25 h18 ha hp
                  refine Reg.Op1.guarded rfl rfl e18 (fun _ => Reg.Op1.plain rfl ?_) (fun h => absurd rfl h)
                  go_wp2
                  exact ⟨rfl, hK _ _ rfl (fun j k _ _ => Reg.Adds.refl _ _ _)⟩
                · intro val ac u hR hp ha K hK
                  obtain ⟨w18, h18, r18⟩ := hp 3 (by decide); have e18 : (ac.tmps[18]?).getD undef = .bool false := (ha 18 (by decide)).trans h18; obtain ⟨w26, h26, r26⟩ := hp 11 (by decide); have e26 : (ac.tmps[26]?).getD undef = .bool false := (ha 26 (by decide)).trans h26; clear h18 h26 ha hp
                  refine Reg.Op1.plain rfl ?_
                  go_wp2
                  exact ⟨rfl, hK _ _ rfl (fun j k _ _ => Reg.Adds.refl _ _ _)⟩
                · intro val ac u hR hp ha K hK
                  obtain ⟨w27, h27, r27⟩ := hp 12 (by decide); have e27 : (ac.tmps[27]?).getD undef = .bool false := (ha 27 (by decide)).trans h27; clear h27 ha hp
                  refine Reg.Op1.plain rfl ?_
                  go_wp2
                  exact ⟨rfl, hK _ _ rfl (fun j k _ _ => Reg.Adds.refl _ _ _)⟩
                · intro val ac u hR hp ha K hK
                  have e0 : (ac.tmps[0]?).getD undef = .pointer (some ⟨g, 0, none⟩) := ha 0 (by decide); obtain ⟨w28, h28, r28⟩ := hp 13 (by decide); have e28 : (ac.tmps[28]?).getD undef = .bool false := (ha 28 (by decide)).trans h28; clear h28 ha hp
                  refine Reg.Op1.guarded rfl rfl e28 (fun _ => Reg.Op1.plain rfl ?_) (fun h => absurd rfl h)
                  go_wp2
                  exact ⟨rfl, hK _ _ rfl (fun j k _ _ => Reg.Adds.refl _ _ _)⟩
                · intro val ac u hR hp ha K hK
                  obtain ⟨w29, h29, r29⟩ := hp 14 (by decide); have e29 : (ac.tmps[29]?).getD undef = .pointer (some ⟨g, 0, none⟩) := (ha 29 (by decide)).trans h29; obtain ⟨w28, h28, r28⟩ := hp 13 (by decide); have e28 : (ac.tmps[28]?).getD undef = .bool false := (ha 28 (by decide)).trans h28; clear h29 h28 ha hp
                  refine Reg.Op1.guarded rfl rfl e28 (fun _ => Reg.Op1.plain rfl ?_) (fun h => absurd rfl h)
                  go_wp2
                  exact ⟨rfl, hK _ _ rfl (fun j k _ _ => Reg.Adds.refl _ _ _)⟩
                · intro val ac u hR hp ha K hK
                  obtain ⟨w30, h30, r30⟩ := hp 15 (by decide); have e30 : (ac.tmps[30]?).getD undef = .pointer (some ⟨g, 0, none⟩) := (ha 30 (by decide)).trans h30; obtain ⟨w28, h28, r28⟩ := hp 13 (by decide); have e28 : (ac.tmps[28]?).getD undef = .bool false := (ha 28 (by decide)).trans h28; clear h30 h28 ha hp
                  refine Reg.Op1.guarded rfl rfl e28 (fun _ => Reg.Op1.plain rfl ?_) (fun h => absurd rfl h)
                  go_wp2
                  exact ⟨rfl, hK _ _ rfl (fun j k _ _ => Reg.Adds.refl _ _ _)⟩
                · intro val ac u hR hp ha K hK
                  obtain ⟨w31, h31, r31⟩ := hp 16 (by decide); have e31 : (ac.tmps[31]?).getD undef = .pointer (some ⟨g, 2, none⟩) := (ha 31 (by decide)).trans h31; obtain ⟨w28, h28, r28⟩ := hp 13 (by decide); have e28 : (ac.tmps[28]?).getD undef = .bool false := (ha 28 (by decide)).trans h28; clear h31 h28 ha hp
                  refine Reg.Op1.guarded rfl rfl e28 (fun _ => Reg.Op1.plain rfl ?_) (fun h => absurd rfl h)
                  have x0 := (hR.cell (p := ⟨g, 2, none⟩) HS5.out.B.lt).trans (HS5.out.B.cell (j := 2) rfl)
                  have x1 := (hR.cell (p := ⟨g, 3, none⟩) HS5.out.B.lt).trans (HS5.out.B.cell (j := 3) rfl)
                  have x2 := (hR.cell (p := ⟨g, 4, none⟩) HS5.out.B.lt).trans (HS5.out.B.cell (j := 4) rfl)
                  go_wp2
                  exact ⟨rfl, hK _ _ rfl (fun j k _ _ => Reg.Adds.refl _ _ _)⟩
                · intro val ac u hR hp ha K hK
                  have e7 : (ac.tmps[7]?).getD undef = .pointer (some ⟨wr.heap.size, 0, none⟩) := ha 7 (by decide); obtain ⟨w28, h28, r28⟩ := hp 13 (by decide); have e28 : (ac.tmps[28]?).getD undef = .bool false := (ha 28 (by decide)).trans h28; clear h28 ha hp
                  refine Reg.Op1.guarded rfl rfl e28 (fun _ => Reg.Op1.plain rfl ?_) (fun h => absurd rfl h)
                  have hEu : Vec.EBx u wr.heap.size e := Mem.Bx.below (w := w5.drew) HE5.out hR HE5.out.lt
                  refine Mem.load_aggG _ _ entry_agg wr.heap.size 0 (Vec.entCells e) (by simp [Region.wanted]) (Reg.eval_of e7) (Vec.entCells_length _) (fun j u' hu => by rw [Nat.zero_add]; exact hEu.cell hu) ?_
                  exact ⟨rfl, hK _ _ rfl (fun j k _ _ => Reg.Adds.refl _ _ _)⟩
                · intro val ac u hR hp ha K hK
                  obtain ⟨w32, h32, r32⟩ := hp 17 (by decide); have e32 : (ac.tmps[32]?).getD undef = Vec.C mk := (ha 32 (by decide)).trans h32; obtain ⟨w33, h33, r33⟩ := hp 18 (by decide); have e33 : (ac.tmps[33]?).getD undef = .agg (Vec.entCells e).toArray := (ha 33 (by decide)).trans h33; obtain ⟨w28, h28, r28⟩ := hp 13 (by decide); have e28 : (ac.tmps[28]?).getD undef = .bool false := (ha 28 (by decide)).trans h28; clear h32 h33 h28 ha hp
                  refine Reg.Op1.guarded rfl rfl e28 (fun _ => Reg.Op1.plain rfl ?_) (fun h => absurd rfl h)
                  go_wp2_with fail
                  refine (covered_any mk e u HDC.out).mono ?_
                  rintro x w' ⟨rfl, hbw⟩
                  rw [hr3]
                  go_wp2_with fail
                  exact ⟨rfl, hK _ _ rfl (fun j k _ _ => hbw)⟩
                · intro val ac u hR hp ha K hK
                  obtain ⟨w28, h28, r28⟩ := hp 13 (by decide); have e28 : (ac.tmps[28]?).getD undef = .bool false := (ha 28 (by decide)).trans h28; obtain ⟨w34, h34, r34⟩ := hp 19 (by decide); have e34 : (ac.tmps[34]?).getD undef = .bool true := (ha 34 (by decide)).trans h34; clear h28 h34 ha hp
                  refine Reg.Op1.plain rfl ?_
                  go_wp2
                  exact ⟨rfl, hK _ _ rfl (fun j k _ _ => Reg.Adds.refl _ _ _)⟩
                · intro val ac u hR hp ha K hK
                  obtain ⟨w35, h35, r35⟩ := hp 20 (by decide); have e35 : (ac.tmps[35]?).getD undef = .bool true := (ha 35 (by decide)).trans h35; clear h35 ha hp
                  refine Reg.Op1.plain rfl ?_
                  go_wp2
                  exact ⟨rfl, hK _ _ rfl (fun j k _ _ => Reg.Adds.refl _ _ _)⟩
                · intro val ac u hR hp ha K hK; obtain ⟨_, h, _⟩ := hp 21 (by decide); exact Reg.Op1.guarded rfl rfl ((ha 36 (by decide)).trans h) (fun h => by cases h) (fun _ => hK _ _ rfl (fun j k _ _ => Reg.Adds.refl _ _ _))
                · intro val ac u hR hp ha K hK; obtain ⟨_, h, _⟩ := hp 21 (by decide); exact Reg.Op1.guarded rfl rfl ((ha 36 (by decide)).trans h) (fun h => by cases h) (fun _ => hK _ _ rfl (fun j k _ _ => Reg.Adds.refl _ _ _))
                · intro val ac u hR hp ha K hK; obtain ⟨_, h, _⟩ := hp 21 (by decide); exact Reg.Op1.guarded rfl rfl ((ha 36 (by decide)).trans h) (fun h => by cases h) (fun _ => hK _ _ rfl (fun j k _ _ => Reg.Adds.refl _ _ _))
                · intro val ac u hR hp ha K hK; obtain ⟨_, h, _⟩ := hp 21 (by decide); exact Reg.Op1.guarded rfl rfl ((ha 36 (by decide)).trans h) (fun h => by cases h) (fun _ => hK _ _ rfl (fun j k _ _ => Reg.Adds.refl _ _ _))
                · intro val ac u hR hp ha K hK
                  obtain ⟨w36, h36, r36⟩ := hp 21 (by decide); have e36 : (ac.tmps[36]?).getD undef = .bool true := (ha 36 (by decide)).trans h36; obtain ⟨w40, h40, r40⟩ := hp 25 (by decide); have e40 : (ac.tmps[40]?).getD undef = undef := (ha 40 (by decide)).trans h40; clear h36 h40 ha hp
                  refine Reg.Op1.plain rfl ?_
                  go_wp2
                  exact ⟨rfl, hK _ _ rfl (fun j k _ _ => Reg.Adds.refl _ _ _)⟩
              · intro val u hR H
                obtain ⟨_, hv, _⟩ := H 26 (by decide)
                have hv : val 26 = .bool true := hv
                have HK6 : Hid (Below w5.heap.size w5 u) := (Below.refl _ w5).drew.trans hR
                simp only [List.map_cons, List.map_nil, Reg.lay, Act.put, List.setIfInBounds_toArray, List.set_cons_succ, List.set_cons_zero, Nat.reduceAdd, hv]
                clear hR H hv
                go_wp2
                go_meet
                case rel => exact ⟨by rw [hok]; rfl, HK6.out⟩
          · have d2 : (e.rng != rng) = true := by simp [hr2]
            have d2' : (e.rng == rng) = false := by simp [hr2]
            have hok : okP rng mk (states rs) e = false := by unfold okP; rw [d2']; simp
            refine Reg.wp_region_rel (by kernel_rfl) 65 27 rfl rfl (by kernel_rfl) (Reg.Adds) (Reg.Adds.refl) (Reg.Adds.trans)
              (fun i v u => match i with
                | 0 => v = .agg (Vec.entCells e).toArray
                | 1 => v = .bool true
                | 2 => v = .bool false
                | 3 => v = .bool false
                | 4 => v = .pointer (some ⟨wr.heap.size, 0, none⟩)
                | 5 => v = .pointer (some ⟨wr.heap.size, 1, none⟩)
                | 6 => v = .int .i64 e.rng
                | 7 => v = .pointer (some ⟨g, 0, none⟩)
                | 8 => v = .pointer (some ⟨g, 0, none⟩)
                | 9 => v = .pointer (some ⟨g, 0, none⟩)
                | 10 => v = .int .i64 rng
                | 11 => v = .bool true
                | 12 => v = .bool true
                | 13 => v = .bool true
                | 14 => v = undef
                | 15 => v = undef
                | 16 => v = undef
                | 17 => v = undef
                | 18 => v = undef
                | 19 => v = undef
                | 20 => v = .bool true
                | 21 => v = .bool true
                | 22 => v = undef
                | 23 => v = undef
                | 24 => v = undef
                | 25 => v = undef
                | 26 => v = .bool true
                | _ => True) ?_ ?_
            · refine Reg.Steps.cons ?_ (Reg.Steps.cons ?_ (Reg.Steps.cons ?_ (Reg.Steps.cons ?_ (Reg.Steps.cons ?_ (Reg.Steps.cons ?_ (Reg.Steps.cons ?_ (Reg.Steps.cons ?_ (Reg.Steps.cons ?_ (Reg.Steps.cons ?_ (Reg.Steps.cons ?_ (Reg.Steps.cons ?_ (Reg.Steps.cons ?_ (Reg.Steps.cons ?_ (Reg.Steps.cons ?_ (Reg.Steps.cons ?_ (Reg.Steps.cons ?_ (Reg.Steps.cons ?_ (Reg.Steps.cons ?_ (Reg.Steps.cons ?_ (Reg.Steps.cons ?_ (Reg.Steps.cons ?_ (Reg.Steps.cons ?_ (Reg.Steps.cons ?_ (Reg.Steps.cons ?_ (Reg.Steps.cons ?_ (Reg.Steps.cons ?_ (Reg.Steps.nil _)))))))))))))))))))))))))))
              · intro val ac u hR hp ha K hK
                have e7 : (ac.tmps[7]?).getD undef = .pointer (some ⟨wr.heap.size, 0, none⟩) := ha 7 (by decide); clear ha hp
                refine Reg.Op1.plain rfl ?_
                have hEu : Vec.EBx u wr.heap.size e := Mem.Bx.below (w := w5.drew) HE5.out hR HE5.out.lt
                refine Mem.load_agg _ _ entry_agg wr.heap.size 0 (Vec.entCells e) (Reg.eval_of e7) (Vec.entCells_length _) (fun j u' hu => by rw [Nat.zero_add]; exact hEu.cell hu) ?_
                exact ⟨rfl, hK _ _ rfl (fun j k _ _ => Reg.Adds.refl _ _ _)⟩
              · intro val ac u hR hp ha K hK
                obtain ⟨w15, h15, r15⟩ := hp 0 (by decide); have e15 : (ac.tmps[15]?).getD undef = .agg (Vec.entCells e).toArray := (ha 15 (by decide)).trans h15; clear h15 ha hp
                refine Reg.Op1.plain rfl ?_
                go_wp2_with fail
                refine (rightE_any e u).mono ?_
                rintro x w' ⟨rfl, hbw⟩
                rw [hr1]
                go_wp2_with fail
                exact ⟨rfl, hK _ _ rfl (fun j k _ _ => hbw)⟩
              · intro val ac u hR hp ha K hK
                obtain ⟨w16, h16, r16⟩ := hp 1 (by decide); have e16 : (ac.tmps[16]?).getD undef = .bool true := (ha 16 (by decide)).trans h16; clear h16 ha hp
                refine Reg.Op1.plain rfl ?_
                go_wp2
                exact ⟨rfl, hK _ _ rfl (fun j k _ _ => Reg.Adds.refl _ _ _)⟩
              · intro val ac u hR hp ha K hK
                obtain ⟨w17, h17, r17⟩ := hp 2 (by decide); have e17 : (ac.tmps[17]?).getD undef = .bool false := (ha 17 (by decide)).trans h17; clear h17 ha hp
                refine Reg.Op1.plain rfl ?_
                go_wp2
                exact ⟨rfl, hK _ _ rfl (fun j k _ _ => Reg.Adds.refl _ _ _)⟩
              · intro val ac u hR hp ha K hK
                have e7 : (ac.tmps[7]?).getD undef = .pointer (some ⟨wr.heap.size, 0, none⟩) := ha 7 (by decide); obtain ⟨w18, h18, r18⟩ := hp 3 (by decide); have e18 : (ac.tmps[18]?).getD undef = .bool false := (ha 18 (by decide)).trans h18; clear h18 ha hp
                refine Reg.Op1.guarded rfl rfl e18 (fun _ => Reg.Op1.plain rfl ?_) (fun h => absurd rfl h)
                go_wp2
                exact ⟨rfl, hK _ _ rfl (fun j k _ _ => Reg.Adds.refl _ _ _)⟩
              · intro val ac u hR hp ha K hK
                obtain ⟨w19, h19, r19⟩ := hp 4 (by decide); have e19 : (ac.tmps[19]?).getD undef = .pointer (some ⟨wr.heap.size, 0, none⟩) := (ha 19 (by decide)).trans h19; obtain ⟨w18, h18, r18⟩ := hp 3 (by decide); have e18 : (ac.tmps[18]?).getD undef = .bool false := (ha 18 (by decide)).trans h18; clear h19 h18 ha hp
                refine Reg.Op1.guarded rfl rfl e18 (fun _ => Reg.Op1.plain rfl ?_) (fun h => absurd rfl h)
                go_wp2
                exact ⟨rfl, hK _ _ rfl (fun j k _ _ => Reg.Adds.refl _ _ _)⟩
              · intro val ac u hR hp ha K hK
                obtain ⟨w20, h20, r20⟩ := hp 5 (by decide); have e20 : (ac.tmps[20]?).getD undef = .pointer (some ⟨wr.heap.size, 1, none⟩) := (ha 20 (by decide)).trans h20; obtain ⟨w18, h18, r18⟩ := hp 3 (by decide); have e18 : (ac.tmps[18]?).getD undef = .bool false := (ha 18 (by decide)).trans h18; clear h20 h18 ha hp
                refine Reg.Op1.guarded rfl rfl e18 (fun _ => Reg.Op1.plain rfl ?_) (fun h => absurd rfl h)
                have x0 := (hR.cell (p := ⟨wr.heap.size, 1, none⟩) HE5.out.lt).trans (HE5.out.cell (j := 1) rfl)
                go_wp2
                exact ⟨rfl, hK _ _ rfl (fun j k _ _ => Reg.Adds.refl _ _ _)⟩
              · intro val ac u hR hp ha K hK
                have e0 : (ac.tmps[0]?).getD undef = .pointer (some ⟨g, 0, none⟩) := ha 0 (by decide); obtain ⟨w18, h18, r18⟩ := hp 3 (by decide); have e18 : (ac.tmps[18]?).getD undef = .bool false := (ha 18 (by decide)).trans h18; clear h18 ha hp
                refine Reg.Op1.guarded rfl rfl e18 (fun _ => Reg.Op1.plain rfl ?_) (fun h => absurd rfl h)
                go_wp2
                exact ⟨rfl, hK _ _ rfl (fun j k _ _ => Reg.Adds.refl _ _ _)⟩
              · intro val ac u hR hp ha K hK
                obtain ⟨w22, h22, r22⟩ := hp 7 (by decide); have e22 : (ac.tmps[22]?).getD undef = .pointer (some ⟨g, 0, none⟩) := (ha 22 (by decide)).trans h22; obtain ⟨w18, h18, r18⟩ := hp 3 (by decide); have e18 : (ac.tmps[18]?).getD undef = .bool false := (ha 18 (by decide)).trans h18; clear h22 h18 ha hp
                refine Reg.Op1.guarded rfl rfl e18 (fun _ => Reg.Op1.plain rfl ?_) (fun h => absurd rfl h)
                go_wp2
                exact ⟨rfl, hK _ _ rfl (fun j k _ _ => Reg.Adds.refl _ _ _)⟩
              · intro val ac u hR hp ha K hK
                obtain ⟨w23, h23, r23⟩ := hp 8 (by decide); have e23 : (ac.tmps[23]?).getD undef = .pointer (some ⟨g, 0, none⟩) := (ha 23 (by decide)).trans h23; obtain ⟨w18, h18, r18⟩ := hp 3 (by decide); have e18 : (ac.tmps[18]?).getD undef = .bool false := (ha 18 (by decide)).trans h18; clear h23 h18 ha hp
                refine Reg.Op1.guarded rfl rfl e18 (fun _ => Reg.Op1.plain rfl ?_) (fun h => absurd rfl h)
                go_wp2
                exact ⟨rfl, hK _ _ rfl (fun j k _ _ => Reg.Adds.refl _ _ _)⟩
              · intro val ac u hR hp ha K hK
                obtain ⟨w24, h24, r24⟩ := hp 9 (by decide); have e24 : (ac.tmps[24]?).getD undef = .pointer (some ⟨g, 0, none⟩) := (ha 24 (by decide)).trans h24; obtain ⟨w18, h18, r18⟩ := hp 3 (by decide); have e18 : (ac.tmps[18]?).getD undef = .bool false := (ha 18 (by decide)).trans h18; clear h24 h18 ha hp
                refine Reg.Op1.guarded rfl rfl e18 (fun _ => Reg.Op1.plain rfl ?_) (fun h => absurd rfl h)
                have x0 := (hR.cell (p := ⟨g, 0, none⟩) HS5.out.B.lt).trans (HS5.out.B.cell (j := 0) rfl)
                go_wp2
                exact ⟨rfl, hK _ _ rfl (fun j k _ _ => Reg.Adds.refl _ _ _)⟩
              · intro val ac u hR hp ha K hK
                obtain ⟨w21, h21, r21⟩ := hp 6 (by decide); have e21 : (ac.tmps[21]?).getD undef = .int .i64 e.rng := (ha 21 (by decide)).trans h21; obtain ⟨w25, h25, r25⟩ := hp 10 (by decide); have e25 : (ac.tmps[25]?).getD undef = .int .i64 rng := (ha 25 (by decide)).trans h25; obtain ⟨w18, h18, r18⟩ := hp 3 (by decide); have e18 : (ac.tmps[18]?).getD undef = .bool false := (ha 18 (by decide)).trans h18; clear h21 h25 h18 ha hp
                refine Reg.Op1.guarded rfl rfl e18 (fun _ => Reg.Op1.plain rfl ?_) (fun h => absurd rfl h)
                go_wp2
                exact ⟨rfl, hK _ _ rfl (fun j k _ _ => Reg.Adds.refl _ _ _)⟩
              · intro val ac u hR hp ha K hK
                obtain ⟨w18, h18, r18⟩ := hp 3 (by decide); have e18 : (ac.tmps[18]?).getD undef = .bool false := (ha 18 (by decide)).trans h18; obtain ⟨w26, h26, r26⟩ := hp 11 (by decide); have e26 : (ac.tmps[26]?).getD undef = .bool true := (ha 26 (by decide)).trans h26; clear h18 h26 ha hp
                refine Reg.Op1.plain rfl ?_
                go_wp2
                exact ⟨rfl, hK _ _ rfl (fun j k _ _ => Reg.Adds.refl _ _ _)⟩
              · intro val ac u hR hp ha K hK
                obtain ⟨w27, h27, r27⟩ := hp 12 (by decide); have e27 : (ac.tmps[27]?).getD undef = .bool true := (ha 27 (by decide)).trans h27; clear h27 ha hp
                refine Reg.Op1.plain rfl ?_
                go_wp2
                exact ⟨rfl, hK _ _ rfl (fun j k _ _ => Reg.Adds.refl _ _ _)⟩
              · intro val ac u hR hp ha K hK; obtain ⟨_, h, _⟩ := hp 13 (by decide); exact Reg.Op1.guarded rfl rfl ((ha 28 (by decide)).trans h) (fun h => by cases h) (fun _ => hK _ _ rfl (fun j k _ _ => Reg.Adds.refl _ _ _))
              · intro val ac u hR hp ha K hK; obtain ⟨_, h, _⟩ := hp 13 (by decide); exact Reg.Op1.guarded rfl rfl ((ha 28 (by decide)).trans h) (fun h => by cases h) (fun _ => hK _ _ rfl (fun j k _ _ => Reg.Adds.refl _ _ _))
              · intro val ac u hR hp ha K hK; obtain ⟨_, h, _⟩ := hp 13 (by decide); exact Reg.Op1.guarded rfl rfl ((ha 28 (by decide)).trans h) (fun h => by cases h) (fun _ => hK _ _ rfl (fun j k _ _ => Reg.Adds.refl _ _ _))
              · intro val ac u hR hp ha K hK; obtain ⟨_, h, _⟩ := hp 13 (by decide); exact Reg.Op1.guarded rfl rfl ((ha 28 (by decide)).trans h) (fun h => by cases h) (fun _ => hK _ _ rfl (fun j k _ _ => Reg.Adds.refl _ _ _))
              · intro val ac u hR hp ha K hK; obtain ⟨_, h, _⟩ := hp 13 (by decide); exact Reg.Op1.guarded rfl rfl ((ha 28 (by decide)).trans h) (fun h => by cases h) (fun _ => hK _ _ rfl (fun j k _ _ => Reg.Adds.refl _ _ _))
              · intro val ac u hR hp ha K hK; obtain ⟨_, h, _⟩ := hp 13 (by decide); exact Reg.Op1.guarded rfl rfl ((ha 28 (by decide)).trans h) (fun h => by cases h) (fun _ => hK _ _ rfl (fun j k _ _ => Reg.Adds.refl _ _ _))
              · intro val ac u hR hp ha K hK
                obtain ⟨w28, h28, r28⟩ := hp 13 (by decide); have e28 : (ac.tmps[28]?).getD undef = .bool true := (ha 28 (by decide)).trans h28; obtain ⟨w34, h34, r34⟩ := hp 19 (by decide); have e34 : (ac.tmps[34]?).getD undef = undef := (ha 34 (by decide)).trans h34; clear h28 h34 ha hp
                refine Reg.Op1.plain rfl ?_
                go_wp2
                exact ⟨rfl, hK _ _ rfl (fun j k _ _ => Reg.Adds.refl _ _ _)⟩
              · intro val ac u hR hp ha K hK
                obtain ⟨w35, h35, r35⟩ := hp 20 (by decide); have e35 : (ac.tmps[35]?).getD undef = .bool true := (ha 35 (by decide)).trans h35; clear h35 ha hp
                refine Reg.Op1.plain rfl ?_
                go_wp2
                exact ⟨rfl, hK _ _ rfl (fun j k _ _ => Reg.Adds.refl _ _ _)⟩
              · intro val ac u hR hp ha K hK; obtain ⟨_, h, _⟩ := hp 21 (by decide); exact Reg.Op1.guarded rfl rfl ((ha 36 (by decide)).trans h) (fun h => by cases h) (fun _ => hK _ _ rfl (fun j k _ _ => Reg.Adds.refl _ _ _))
              · intro val ac u hR hp ha K hK; obtain ⟨_, h, _⟩ := hp 21 (by decide); exact Reg.Op1.guarded rfl rfl ((ha 36 (by decide)).trans h) (fun h => by cases h) (fun _ => hK _ _ rfl (fun j k _ _ => Reg.Adds.refl _ _ _))
              · intro val ac u hR hp ha K hK; obtain ⟨_, h, _⟩ := hp 21 (by decide); exact Reg.Op1.guarded rfl rfl ((ha 36 (by decide)).trans h) (fun h => by cases h) (fun _ => hK _ _ rfl (fun j k _ _ => Reg.Adds.refl _ _ _))
              · intro val ac u hR hp ha K hK; obtain ⟨_, h, _⟩ := hp 21 (by decide); exact Reg.Op1.guarded rfl rfl ((ha 36 (by decide)).trans h) (fun h => by cases h) (fun _ => hK _ _ rfl (fun j k _ _ => Reg.Adds.refl _ _ _))
              · intro val ac u hR hp ha K hK
                obtain ⟨w36, h36, r36⟩ := hp 21 (by decide); have e36 : (ac.tmps[36]?).getD undef = .bool true := (ha 36 (by decide)).trans h36; obtain ⟨w40, h40, r40⟩ := hp 25 (by decide); have e40 : (ac.tmps[40]?).getD undef = undef := (ha 40 (by decide)).trans h40; clear h36 h40 ha hp
                refine Reg.Op1.plain rfl ?_
                go_wp2
                exact ⟨rfl, hK _ _ rfl (fun j k _ _ => Reg.Adds.refl _ _ _)⟩
            · intro val u hR H
              obtain ⟨_, hv, _⟩ := H 26 (by decide)
              have hv : val 26 = .bool true := hv
              have HK6 : Hid (Below w5.heap.size w5 u) := (Below.refl _ w5).drew.trans hR
              simp only [List.map_cons, List.map_nil, Reg.lay, Act.put, List.setIfInBounds_toArray, List.set_cons_succ, List.set_cons_zero, Nat.reduceAdd, hv]
              clear hR H hv
              go_wp2
              go_meet
              case rel => exact ⟨by rw [hok]; rfl, HK6.out⟩
      case rest =>
        obtain ⟨rfl, hbc⟩ := hcut
        have HS6 := Lib.hid (HS5.out.below hbc)
        have HE6 : Hid (EBx wc wr.heap.size e) := HE5.out.below hbc HE5.out.lt
        have HB6 : Hid (Below wr.heap.size wr wc) := HB5.out.trans (hbc.mono HB5.out.size)
        clear hbc HS5 HE5 HB5 HS
        rename World => w6
        cases hok : okP rng mk (states rs) e
        · have HTS2 : Hid (putL rng mk (states rs0) (news.take (k + 1)) = (states rs, n)) := by show _ = _; rw [HTS.out]; unfold putStep; rw [if_neg (by simp [hok])]
          clear hok
          go_wp2
          go_roundw
          case rel => exact ⟨⟨k + 1, n, rs, by omega, by omega, hls, HTS2, rfl, by go_num, HS6, HG, HK.out.trans (Mem.Keeps.of_below HB6.out) (fun _ h _ => h.elim), HQ⟩⟩
          case measure => simp [intOf]; omega
        · obtain ⟨g1, g2, g3, g4⟩ := okP_spec hok
          have HTS2 : Hid (putL rng mk (states rs0) (news.take (k + 1)) = (putS (states rs) e, n + 1)) := by show _ = _; rw [HTS.out]; unfold putStep; rw [if_pos hok]
          have HG2 : Hid (Sto.Good rng (putS (states rs) e)) := HG.out.put g1 g2 g4
          have hkey : okS e.key := by
            have h1 := g1
            unfold rightE Vec.g3 at h1
            simp only [Bool.and_eq_true, decide_eq_true_eq] at h1
            unfold okS maxLen
            omega
          have HKEY := Lib.hid hkey
          have hapart : ∀ x ∈ vers (states rs) e.key, gtE x e < 0 ∨ gtE e x < 0 := fun x hx => HG.out.apart g1 g4 (vers_all hx)
          have hvso := HG.out.vers_so e.key
          obtain ⟨A, c, es, hlv, hve, hO, hfp, hcase⟩ := HS6.out.list e.key
          have hel : es.length ≤ lenS (states rs) := by
            rw [← hve]; exact vers_len _ _
          rw [hve] at hapart hvso
          have HSI : Hid (∀ ys : List Ent, ys.Perm (es ++ [e]) → ys.Pairwise (fun x y => ¬ gtE y x < 0) → ys = insE e es) := fun ys h1 h2 => sorted_ins hvso hapart h1 h2
          have HPS : Hid (putS (states rs) e = setL (states rs) e.key (insE e es)) := by show _ = _; unfold putS; rw [hve]
          have HLV := Lib.hid hlv
          have HO6 := Lib.hid hO
          have HFP := Lib.hid hfp
          have HCA := Lib.hid hcase
          have HLI : Hid ((insE e es).length = es.length + 1) := by show _ = _; rw [(insE_perm e es).length_eq, List.length_cons]
          have hel2 : es.length ≤ 1000000 := by omega
          clear hok HTS g1 g2 g3 g4 hkey hapart hvso hlv hve hO hfp hcase hel
          go_upto_region 7 with fail
          obtain ⟨gb, hgb⟩ : ∃ gb, wr.heap.size = gb := ⟨_, rfl⟩
          rw [hgb] at HE6 ⊢
          have HGB := Lib.hid hgb
          clear hgb
          refine Reg.wp_region_w (by kernel_rfl) 65 11 rfl rfl (by kernel_rfl) (9) (fun y => Mem.blk A = some y) (0) (fun _ => False) (0) (fun _ => False)
            (fun i v u => match i with
              | 0 => v = .pointer (some ⟨g, 0, none⟩)
              | 1 => v = .pointer (some ⟨g, 0, none⟩)
              | 2 => v = .pointer (some ⟨g, 1, none⟩)
              | 3 => v = .map (some b)
              | 4 => v = .pointer (some ⟨gb, 6, none⟩)
              | 5 => v = .string e.key
              | 6 => v = .slice A es.length c
              | 7 => v = .agg (entCells e).toArray
              | 8 => ∃ s, v = .slice (some ⟨s, 0, none⟩) 1 1 ∧ Mem.Rd u (s + 1) (some ⟨s, 0, none⟩) (entCells e) ∧ s + 1 ≤ u.heap.size
              | 9 => ∃ A2 c2, v = .slice A2 (es.length + 1) c2 ∧ Mem.Own u 40 20 A2 (es.length + 1) c2 (es.flatMap entCells ++ entCells e) ∧ (A2 = A ∨ Mem.From w6.heap.size A2)
              | 10 => ∃ A2 c2, v = .slice A2 (es.length + 1) c2 ∧ Mem.Own u 40 20 A2 (es.length + 1) c2 (es.flatMap entCells ++ entCells e) ∧ (A2 = A ∨ Mem.From w6.heap.size A2)
              | _ => True) ?_ ?_
          · refine Reg.Steps.cons ?_ (Reg.Steps.cons ?_ (Reg.Steps.cons ?_ (Reg.Steps.cons ?_ (Reg.Steps.cons ?_ (Reg.Steps.cons ?_ (Reg.Steps.cons ?_ (Reg.Steps.cons ?_ (Reg.Steps.cons ?_ (Reg.Steps.cons ?_ (Reg.Steps.cons ?_ (Reg.Steps.nil _)))))))))))
            · intro val ac u hR hp ha K hK
              have e0 : (ac.tmps[0]?).getD undef = .pointer (some ⟨g, 0, none⟩) := ha 0 (by decide); clear ha hp
              refine Reg.Op1.plain rfl ?_
              go_wp2
              exact ⟨rfl, hK _ _ rfl (Reg.Wr.same _)⟩
            · intro val ac u hR hp ha K hK
              obtain ⟨w44, h44, r44⟩ := hp 0 (by decide); have e44 : (ac.tmps[44]?).getD undef = .pointer (some ⟨g, 0, none⟩) := (ha 44 (by decide)).trans h44; clear h44 ha hp
              refine Reg.Op1.plain rfl ?_
              go_wp2
              exact ⟨rfl, hK _ _ rfl (Reg.Wr.same _)⟩
            · intro val ac u hR hp ha K hK
              obtain ⟨w45, h45, r45⟩ := hp 1 (by decide); have e45 : (ac.tmps[45]?).getD undef = .pointer (some ⟨g, 0, none⟩) := (ha 45 (by decide)).trans h45; clear h45 ha hp
              refine Reg.Op1.plain rfl ?_
              go_wp2
              exact ⟨rfl, hK _ _ rfl (Reg.Wr.same _)⟩
            · intro val ac u hR hp ha K hK
              obtain ⟨w46, h46, r46⟩ := hp 2 (by decide); have e46 : (ac.tmps[46]?).getD undef = .pointer (some ⟨g, 1, none⟩) := (ha 46 (by decide)).trans h46; clear h46 ha hp
              refine Reg.Op1.plain rfl ?_
              have hq : Mem.Keeps (fun _ => False) w6 u := (Mem.Keeps.refl (fun _ => False) w6).drew.trans (Reg.Wr.not1 hR (by decide +kernel)) (fun _ h _ => h.elim id id)
              have x1 := (HS6.out.B.keeps hq id).cell (j := 1) rfl
              go_wp2
              exact ⟨rfl, hK _ _ rfl (Reg.Wr.same _)⟩
            · intro val ac u hR hp ha K hK
              have e7 : (ac.tmps[7]?).getD undef = .pointer (some ⟨gb, 0, none⟩) := ha 7 (by decide); clear ha hp
              refine Reg.Op1.plain rfl ?_
              go_wp2
              exact ⟨rfl, hK _ _ rfl (Reg.Wr.same _)⟩
            · intro val ac u hR hp ha K hK
              obtain ⟨w48, h48, r48⟩ := hp 4 (by decide); have e48 : (ac.tmps[48]?).getD undef = .pointer (some ⟨gb, 6, none⟩) := (ha 48 (by decide)).trans h48; clear h48 ha hp
              refine Reg.Op1.plain rfl ?_
              have hq : Mem.Keeps (fun _ => False) w6 u := (Mem.Keeps.refl (fun _ => False) w6).drew.trans (Reg.Wr.not1 hR (by decide +kernel)) (fun _ h _ => h.elim id id)
              have x1 := (HE6.out.keeps hq id).cell (j := 6) rfl
              go_wp2
              exact ⟨rfl, hK _ _ rfl (Reg.Wr.same _)⟩
            · intro val ac u hR hp ha K hK
              obtain ⟨w47, h47, r47⟩ := hp 3 (by decide); have e47 : (ac.tmps[47]?).getD undef = .map (some b) := (ha 47 (by decide)).trans h47; obtain ⟨w49, h49, r49⟩ := hp 5 (by decide); have e49 : (ac.tmps[49]?).getD undef = .string e.key := (ha 49 (by decide)).trans h49; clear h47 h49 ha hp
              refine Reg.Op1.plain rfl ?_
              have hq : Mem.Keeps (fun _ => False) w6 u := (Mem.Keeps.refl (fun _ => False) w6).drew.trans (Reg.Wr.not1 hR (by decide +kernel)) (fun _ h _ => h.elim id id)
              have hl := look_at (HS6.out.keeps hq (fun _ _ h => h)) HKEY.out
              rw [HLV.out] at hl
              go_wp2
              exact ⟨rfl, hK _ _ rfl (Reg.Wr.same _)⟩
            · intro val ac u hR hp ha K hK
              have e7 : (ac.tmps[7]?).getD undef = .pointer (some ⟨gb, 0, none⟩) := ha 7 (by decide); clear ha hp
              refine Reg.Op1.plain rfl ?_
              have hq : Mem.Keeps (fun _ => False) w6 u := (Mem.Keeps.refl (fun _ => False) w6).drew.trans (Reg.Wr.not1 hR (by decide +kernel)) (fun _ h _ => h.elim id id)
              have hEu : EBx u gb e := HE6.out.keeps hq id
              refine Mem.load_agg _ _ entry_agg gb 0 (entCells e) (Reg.eval_of e7) (entCells_length _) (fun j u' hu => by rw [Nat.zero_add]; exact hEu.cell hu) ?_
              exact ⟨rfl, hK _ _ rfl (Reg.Wr.same _)⟩
            · intro val ac u hR hp ha K hK
              obtain ⟨w51, h51, r51⟩ := hp 7 (by decide); have e51 : (ac.tmps[51]?).getD undef = .agg (entCells e).toArray := (ha 51 (by decide)).trans h51; clear h51 ha hp
              refine Reg.Op1.plain rfl ?_
              refine Mem.build1_agg _ _ 20 _ Try.underlying22 entry_zero (by decide) (by decide) (entCells e) (Reg.eval_of e51) (entCells_length e) ?_
              exact ⟨rfl, hK _ _ ⟨u.heap.size, rfl, Mem.Rd.alloc_new u _ _ _ rfl, by simp⟩ (Reg.Wr.quiet ((Mem.Keeps.refl _ u).alloc _))⟩
            · intro val ac u hR hp ha K hK
              obtain ⟨w50, h50, r50⟩ := hp 6 (by decide); have e50 : (ac.tmps[50]?).getD undef = .slice A es.length c := (ha 50 (by decide)).trans h50; obtain ⟨w52, h52, r52⟩ := hp 8 (by decide); have e52 : (ac.tmps[52]?).getD undef = val 8 := ha 52 (by decide); clear h50 ha hp
              refine Reg.Op1.plain rfl ?_
              obtain ⟨s, hv, hrd, hsz⟩ := h52
              rw [hv] at e52
              have hq : Mem.Keeps (fun _ => False) w6 u := (Mem.Keeps.refl (fun _ => False) w6).drew.trans (Reg.Wr.not1 hR (by decide +kernel)) (fun _ h _ => h.elim id id)
              have ho := HO6.out.keeps hq (fun _ _ h => h)
              have hrd' := hrd.keeps (Reg.Wr.not1 r52 (by decide +kernel)) (fun _ h => h.elim False.elim False.elim) hsz
              refine Mem.wpList_app u rfl (.tmp 50) (.tmp 52) _ rfl entries_elem A es.length c _ (Reg.eval_of e50) (s + 1) (some ⟨s, 0, none⟩) 1 1 (entCells e) (Reg.eval_of e52) ?_ ho hrd' rfl (ent_one e) (by unfold maxLen; omega) (by omega)
              intro A2 c2 w' hown hgr hat
              exact ⟨rfl, hK _ _ ⟨A2, c2, rfl, hown, hat.elim .inl (fun h => .inr (by rw [h]; exact Mem.From.some_ hq.size))⟩ (Reg.Wr.does1 ((Mem.Keeps.refl _ u).grown hgr (fun k h _ => h)))⟩
            · intro val ac u hR hp ha K hK
              obtain ⟨w53, h53, r53⟩ := hp 9 (by decide); have e53 : (ac.tmps[53]?).getD undef = val 9 := ha 53 (by decide); clear ha hp
              refine Reg.Op1.plain rfl ?_
              obtain ⟨A2, c2, hv, hown, hat⟩ := h53
              rw [hv] at e53
              go_wp2
              exact ⟨rfl, hK _ _ ⟨A2, c2, rfl, hown.keeps (Reg.Wr.not1 r53 (by decide +kernel)) (fun _ _ h => h.elim id id), hat⟩ (Reg.Wr.same _)⟩
          intro val u hR H
          obtain ⟨w8, ⟨A2, c2, hv8, hO8, hat⟩, r8⟩ := H 10 (by decide)
          have hq : Mem.Keeps (fun y => Mem.blk A = some y) w6 u := ((Mem.Keeps.refl (fun y => Mem.blk A = some y ∨ False ∨ False) w6).drew.trans (Reg.Wr.all hR) (fun _ h _ => h)).mono (fun _ h _ => h.elim id (fun h => h.elim False.elim False.elim))
          have HO7 : Hid (EOwn u A2 c2 (es ++ [e])) := by
            show Mem.Own _ _ _ _ _ _ _
            rw [List.length_append, List.length_singleton, List.flatMap_append]
            have := hO8.keeps (Reg.Wr.not1 r8 (by decide +kernel)) (fun _ _ h => h.elim id id)
            simpa using this
          have HAT := Lib.hid hat
          have HK7 := Lib.hid hq
          have HE7 : Hid (EBx u gb e) := HE6.out.keeps hq (fun h => by
            obtain ⟨r, hr, hf⟩ := HFP.out gb h
            have := HLT.out gb (.inr (.inr ⟨r, hr, hf⟩))
            have := HGB.out
            omega)
          have hll : (es ++ [e]).length = es.length + 1 := by simp
          simp only [List.map_cons, List.map_nil, Reg.lay, Act.put, List.setIfInBounds_toArray, List.set_cons_succ, List.set_cons_zero, Nat.reduceAdd, hv8]
          clear hR H hq hv8 hO8 hat r8
          obtain ⟨w7, hw7⟩ : ∃ z, z = u := ⟨_, rfl⟩
          subst hw7
          obtain ⟨g3, o3, hA2⟩ := HO7.out.form (by rw [hll]; omega)
          subst hA2
          have HSO := Lib.hid (sort_any g3 o3 c2 (es ++ [e]) w7 HO7.out (by rw [hll]; omega))
          rw [hll] at HSO
          clear hll
          go_upto_region 9 with (go_at_call 31; refine HSO.out.mono ?_; rintro x w9 ⟨rfl, ys, hpe, hpw, hO9, hK9⟩)
          have hys := HSI.out ys hpe hpw
          subst hys
          have HO9 := Lib.hid hO9
          have hlb : Mem.Keeps (fun _ => False) w6 w6 := Mem.Keeps.refl _ _
          have hg3 : Mem.blk A = some g3 ∨ w6.heap.size ≤ g3 := by
            rcases HAT.out with rfl | hf
            · exact .inl rfl
            · exact .inr (hf.blk g3 rfl)
          have hK69 : Mem.Keeps (fun y => Mem.blk A = some y) w6 w9 := HK7.out.trans hK9 (fun y h hlt => by subst h; exact hg3.elim id (fun h => by omega))
          have hgbA : ¬ Mem.blk A = some gb := fun h => by
            obtain ⟨r, hr, hf⟩ := HFP.out gb h
            have := HLT.out gb (.inr (.inr ⟨r, hr, hf⟩))
            have := HGB.out
            omega
          have hgA : ¬ Mem.blk A = some g := fun h => by
            obtain ⟨r, hr, hf⟩ := HFP.out g h
            exact (HS6.out.S.f r hr g hf).1 rfl
          have hbA : ¬ Mem.blk A = some b := fun h => by
            obtain ⟨r, hr, hf⟩ := HFP.out b h
            exact (HS6.out.S.f r hr b hf).2 rfl
          have HE9 : Hid (EBx w9 gb e) := HE6.out.keeps hK69 hgbA
          have HB9 := Lib.hid (HS6.out.B.keeps hK69 hgA)
          have HM9 := Lib.hid (HS6.out.M.keeps hK69 hbA)
          have HK69 := Lib.hid hK69
          have HG3 := Lib.hid hg3
          have HBA := Lib.hid hbA
          have z1 := HB9.out.cell (j := 1) rfl
          have z2 := HE9.out.cell (j := 6) rfl
          clear hpe hpw hO9 hlb hK69 hK9 hgbA hgA hg3 hbA HO7 HK7 HSO HSI HE6 HE7
          refine Reg.wp_region_w (by kernel_rfl) 65 8 rfl rfl (by kernel_rfl) (7) (fun y => y = b) (0) (fun _ => False) (0) (fun _ => False)
            (fun i v u => match i with
              | 0 => v = .pointer (some ⟨g, 0, none⟩)
              | 1 => v = .pointer (some ⟨g, 0, none⟩)
              | 2 => v = .pointer (some ⟨g, 1, none⟩)
              | 3 => v = .map (some b)
              | 4 => v = .pointer (some ⟨gb, 6, none⟩)
              | 5 => v = .string e.key
              | 6 => v = .slice (some ⟨g3, o3, none⟩) (es.length + 1) c2
              | 7 => ∃ wm, Mem.MapIs Value.string okS wm b (Mem.putL (rs.map ent) e.key (.slice (some ⟨g3, o3, none⟩) (insE e es).length c2)) ∧ wm = u
              | _ => True) ?_ ?_
          · refine Reg.Steps.cons ?_ (Reg.Steps.cons ?_ (Reg.Steps.cons ?_ (Reg.Steps.cons ?_ (Reg.Steps.cons ?_ (Reg.Steps.cons ?_ (Reg.Steps.cons ?_ (Reg.Steps.cons ?_ (Reg.Steps.nil _))))))))
            · intro val ac u hR hp ha K hK
              have e0 : (ac.tmps[0]?).getD undef = .pointer (some ⟨g, 0, none⟩) := ha 0 (by decide); clear ha hp
              refine Reg.Op1.plain rfl ?_
              go_wp2
              exact ⟨rfl, hK _ _ rfl (Reg.Wr.same _)⟩
            · intro val ac u hR hp ha K hK
              obtain ⟨w56, h56, r56⟩ := hp 0 (by decide); have e56 : (ac.tmps[56]?).getD undef = .pointer (some ⟨g, 0, none⟩) := (ha 56 (by decide)).trans h56; clear h56 ha hp
              refine Reg.Op1.plain rfl ?_
              go_wp2
              exact ⟨rfl, hK _ _ rfl (Reg.Wr.same _)⟩
            · intro val ac u hR hp ha K hK
              obtain ⟨w57, h57, r57⟩ := hp 1 (by decide); have e57 : (ac.tmps[57]?).getD undef = .pointer (some ⟨g, 0, none⟩) := (ha 57 (by decide)).trans h57; clear h57 ha hp
              refine Reg.Op1.plain rfl ?_
              go_wp2
              exact ⟨rfl, hK _ _ rfl (Reg.Wr.same _)⟩
            · intro val ac u hR hp ha K hK
              obtain ⟨w58, h58, r58⟩ := hp 2 (by decide); have e58 : (ac.tmps[58]?).getD undef = .pointer (some ⟨g, 1, none⟩) := (ha 58 (by decide)).trans h58; clear h58 ha hp
              refine Reg.Op1.plain rfl ?_
              have x0 := (((Mem.Keeps.refl (fun _ => False) w9).drew.trans (Reg.Wr.not1 hR (by decide +kernel)) (fun _ h _ => h.elim id id)).cell (p := ⟨g, 1, none⟩) (HB9.out.lt) (id)).trans (z1)
              go_wp2
              exact ⟨rfl, hK _ _ rfl (Reg.Wr.same _)⟩
            · intro val ac u hR hp ha K hK
              have e7 : (ac.tmps[7]?).getD undef = .pointer (some ⟨gb, 0, none⟩) := ha 7 (by decide); clear ha hp
              refine Reg.Op1.plain rfl ?_
              go_wp2
              exact ⟨rfl, hK _ _ rfl (Reg.Wr.same _)⟩
            · intro val ac u hR hp ha K hK
              obtain ⟨w60, h60, r60⟩ := hp 4 (by decide); have e60 : (ac.tmps[60]?).getD undef = .pointer (some ⟨gb, 6, none⟩) := (ha 60 (by decide)).trans h60; clear h60 ha hp
              refine Reg.Op1.plain rfl ?_
              have x0 := (((Mem.Keeps.refl (fun _ => False) w9).drew.trans (Reg.Wr.not1 hR (by decide +kernel)) (fun _ h _ => h.elim id id)).cell (p := ⟨gb, 6, none⟩) (HE9.out.lt) (id)).trans (z2)
              go_wp2
              exact ⟨rfl, hK _ _ rfl (Reg.Wr.same _)⟩
            · intro val ac u hR hp ha K hK
              have e8 : (ac.tmps[8]?).getD undef = .slice (some ⟨g3, o3, none⟩) (es.length + 1) c2 := ha 8 (by decide); clear ha hp
              refine Reg.Op1.plain rfl ?_
              go_wp2
              exact ⟨rfl, hK _ _ rfl (Reg.Wr.same _)⟩
            · intro val ac u hR hp ha K hK
              obtain ⟨w59, h59, r59⟩ := hp 3 (by decide); have e59 : (ac.tmps[59]?).getD undef = .map (some b) := (ha 59 (by decide)).trans h59; obtain ⟨w61, h61, r61⟩ := hp 5 (by decide); have e61 : (ac.tmps[61]?).getD undef = .string e.key := (ha 61 (by decide)).trans h61; obtain ⟨w62, h62, r62⟩ := hp 6 (by decide); have e62 : (ac.tmps[62]?).getD undef = .slice (some ⟨g3, o3, none⟩) (es.length + 1) c2 := (ha 62 (by decide)).trans h62; clear h59 h61 h62 ha hp
              refine Reg.Op1.plain rfl ?_
              have hq : Mem.Keeps (fun _ => False) w9 u := (Mem.Keeps.refl (fun _ => False) w9).drew.trans (Reg.Wr.not1 hR (by decide +kernel)) (fun _ h _ => h.elim id id)
              have hM := HM9.out.keeps hq id
              refine Mem.wpList_mapPut strKey Try.underlying69 b (rs.map ent) e.key (.slice (some ⟨g3, o3, none⟩) (es.length + 1) c2) (Reg.eval_of e59) (Reg.eval_of e61) (Reg.eval_of e62) hM HKEY.out ?_
              intro w' hM' hk' hs'
              exact ⟨rfl, hK undef _ ⟨w', by rw [HLI.out]; exact hM', rfl⟩ (Reg.Wr.does1 hk')⟩
          · intro val u hR H
            obtain ⟨w10, ⟨_, hM10, rfl⟩, r10⟩ := H 7 (by decide)
            have hq9 : Mem.Keeps (fun y => y = b) w9 u := ((Mem.Keeps.refl (fun y => y = b ∨ False ∨ False) w9).drew.trans (Reg.Wr.all hR) (fun _ h _ => h)).mono (fun _ h _ => h.elim id (fun h => h.elim False.elim False.elim))
            have hM11 := Mem.MapIs.keeps hM10 (Reg.Wr.not1 r10 (by decide +kernel)) (fun h => h.elim id id)
            have hb3 : g3 ≠ b := fun h => by
              subst h
              exact HG3.out.elim HBA.out (fun h => by have := HS6.out.M.lt; omega)
            have hO11 : EOwn u (some ⟨g3, o3, none⟩) c2 (insE e es) := HO9.out.keeps hq9 (fun k hk h => by cases hk; exact hb3 h)
            have hK11 : Mem.Keeps (fun q => q = b ∨ Mem.blk A = some q) w6 u := (HK69.out.mono (fun _ h _ => .inr h)).trans hq9 (fun _ h _ => .inl h)
            obtain ⟨rs2, s1, s2, s3, s4⟩ := HS6.out.put HCA.out hM11 hO11 hK11 (fun q hq => by cases hq; exact HG3.out)
            have HS12 := Lib.hid s1
            have HST : Hid (states rs2 = putS (states rs) e) := s2.trans HPS.out.symm
            have HK12 : Hid (Mem.Keeps (fpS g b rs0) w u) := (HK.out.trans (Mem.Keeps.of_below HB6.out) (fun _ h _ => h.elim)).trans s3 (fun y h hlt => by
              rcases HQ.out y h with h2 | h2
              · exact h2
              · omega)
            have HQ12 : Hid (∀ q, fpS g b rs2 q → fpS g b rs0 q ∨ w.heap.size ≤ q) := fun q hq2 => by
              rcases s4 q hq2 with h | h
              · exact HQ.out q h
              · have := HB6.out.size; exact .inr (by omega)
            simp only [List.map_cons, List.map_nil, Reg.lay, Act.put, List.setIfInBounds_toArray, List.set_cons_succ, List.set_cons_zero, Nat.reduceAdd]
            clear hR H hM10 r10 hq9 hM11 hb3 hO11 hK11 s1 s2 s3 s4
            go_wp2
            go_roundw
            case rel => exact ⟨⟨k + 1, n + 1, rs2, by omega, by omega, by rw [HST.out, putS_len]; omega, by rw [HST.out]; exact HTS2, by go_num, by go_num, HS12, by rw [HST.out]; exact HG2, HK12, HQ12⟩⟩
            case measure => simp [intOf]; omega
    · obtain rfl : k = news.length := by omega
      rw [List.take_length] at HP
      go_wp2
      go_ret
      refine ⟨rs, ?_, ?_, HS.out, HG.out, HK.out, HQ.out⟩
      · rw [HP.out]; rfl
      · rw [HP.out]
end Go.Proofs.Ytfafehffnjbhnaa
