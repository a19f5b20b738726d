/- Several texts of this proof in one file, in the order in which they build: Rs3, Rs4, Rs2. No conditions but those that each theorem names. -/
import Derived.Test.YtfafehffnjbhnaaMpC
import Derived.Test.YtfafehffnjbhnaaOwnX
import Derived.StillTailTactics
section
/- The document's store: Versions. -/
set_option maxRecDepth 8000
namespace Go.Proofs.Ytfafehffnjbhnaa
open Go.ChangeShapes Go.WideShapes Go.ChangeAt Go.RowKit
set_option linter.unusedVariables false
set_option linter.unusedSimpArgs false
namespace Sto
open Vec
def apartE (x y : Ent) : Prop := gtE x y < 0 ∨ gtE y x < 0
theorem flat_set {k : Nat} {l : List Ent} (hk : k < l.length) (e : Ent) : (l.flatMap entCells).take (k * 20) ++ entCells e ++ (l.flatMap entCells).drop (k * 20 + (entCells e).length) = (l.set k e).flatMap entCells := by
  rw [entCells_length, show k * 20 + 20 = (k + 1) * 20 by omega]
  induction l generalizing k with
  | nil => simp at hk
  | cons a l ih =>
    rw [List.flatMap_cons]
    cases k with
    | zero =>
      rw [List.set_cons_zero, List.flatMap_cons, Nat.zero_mul, List.take_zero, List.nil_append, Nat.zero_add, Nat.one_mul]
      congr 1
    | succ k =>
      have h1 : (entCells a ++ l.flatMap entCells).take ((k + 1) * 20) = entCells a ++ (l.flatMap entCells).take (k * 20) := by
        rw [show (k + 1) * 20 = (entCells a).length + k * 20 by rw [entCells_length]; omega, List.take_length_add_append]
      have h2 : (entCells a ++ l.flatMap entCells).drop ((k + 1 + 1) * 20) = (l.flatMap entCells).drop ((k + 1) * 20) := by
        rw [show (k + 1 + 1) * 20 = (entCells a).length + (k + 1) * 20 by rw [entCells_length]; omega, List.drop_length_add_append]
      rw [List.set_cons_succ, List.flatMap_cons, ← ih (by simpa using hk), h1, h2]
      simp only [List.append_assoc]
theorem swap1 (pre post : List Ent) (y e : Ent) : (pre ++ y :: e :: post).set (pre.length + 1) y = pre ++ y :: y :: post := by
  rw [List.set_append_right _ _ (by omega), show pre.length + 1 - pre.length = 1 by omega]
  rfl
theorem swap2 (pre post : List Ent) (y e : Ent) : (pre ++ y :: y :: post).set pre.length e = pre ++ e :: y :: post := by
  rw [List.set_append_right _ _ (by omega), Nat.sub_self]
  rfl
theorem ins_sorted {pre post : List Ent} {e : Ent} (h : (pre ++ post).Pairwise fun x y => gtE x y < 0) (h1 : ∀ y ∈ post, gtE e y < 0) (h2 : ∀ y ∈ pre, gtE y e < 0) : (pre ++ e :: post).Pairwise fun x y => gtE x y < 0 := by
  rw [List.pairwise_append] at h ⊢
  rw [List.pairwise_cons]
  exact ⟨h.1, ⟨h1, h.2.1⟩, fun x hx y hy => (List.mem_cons.1 hy).elim (fun e => by rw [e]; exact h2 x hx) (h.2.2 x hx y)⟩
theorem last_below {pre : List Ent} {y e : Ent} (h : (pre ++ [y]).Pairwise fun x y => gtE x y < 0) (hy : gtE y e < 0) : ∀ x ∈ pre ++ [y], gtE x e < 0 := fun x hx => by
  rw [List.pairwise_append] at h
  rcases List.mem_append.1 hx with hx | hx
  · exact gtE_trans (h.2.2 x hx y (List.mem_singleton.2 rfl)) hy
  · rw [List.mem_singleton.1 hx]; exact hy
theorem apart_at {es : List Ent} {k : Nat} {e : Ent} (h : es.Pairwise apartE) (he : es[k]? = some e) : ∀ x ∈ es.take k, apartE x e := fun x hx => by
  have h1 : (es.take (k + 1)).Pairwise apartE := h.sublist (List.take_sublist _ _)
  rw [Mem.take_snoc he, List.pairwise_append] at h1
  exact h1.2.2 x hx e (List.mem_singleton.2 rfl)
theorem flat_at (pre : List Ent) (y : Ent) (rest : List Ent) (j : Nat) (u : Value) (hu : (entCells y)[j]? = some u) : ((pre ++ y :: rest).flatMap entCells)[pre.length * 20 + j]? = some u := by
  rw [Mem.flat_get entCells_length (pre ++ y :: rest) pre.length j y (by simp) (by rw [← entCells_length y]; exact (List.getElem?_eq_some_iff.1 hu).1)]
  exact hu
/-- behind the insertion -/
theorem ins_end {es l0 pre post : List Ent} {key : ByteArray} {k : Nat} {e : Ent} (hap : es.Pairwise apartE) (he : es[k]? = some e) (hk : e.key = key) (hp : l0.Perm ((es.take k).filter (keyB key))) (hs : l0.Pairwise fun x y => gtE x y < 0) (hl : l0 = pre ++ post) (h1 : ∀ y ∈ post, gtE e y < 0)
    (h2 : pre = [] ∨ ∃ p y, pre = p ++ [y] ∧ gtE y e ≤ 0) : (pre ++ e :: post).Perm ((es.take (k + 1)).filter (keyB key)) ∧ (pre ++ e :: post).Pairwise fun x y => gtE x y < 0 := by
  subst hl
  refine ⟨?_, ins_sorted hs h1 ?_⟩
  · rw [Mem.take_snoc he, List.filter_append, List.filter_cons, if_pos (by unfold keyB; simpa using hk), List.filter_nil]
    refine List.perm_middle.trans ?_
    exact (List.perm_append_comm (l₁ := [e])).trans (hp.append_right _)
  · rcases h2 with rfl | ⟨p, y, rfl, hn⟩
    · intro y hy; cases hy
    · have hy : y ∈ es.take k := (List.mem_filter.1 (hp.subset (by simp))).1
      refine last_below ?_ ?_
      · rw [List.pairwise_append] at hs
        exact hs.1
      · rcases apart_at hap he y hy with h | h
        · exact h
        · have := (gtE_gt _ _).2 h; omega
theorem vskip {es K : List Ent} {key : ByteArray} {k : Nat} {e : Ent} (he : es[k]? = some e) (hk : ¬ e.key = key) (hp : K.Perm ((es.take k).filter (keyB key))) : K.Perm ((es.take (k + 1)).filter (keyB key)) := by
  rw [Mem.take_snoc he, List.filter_append, List.filter_cons, if_neg (by unfold keyB; simpa using hk), List.filter_nil, List.append_nil]
  exact hp
structure RvRel (w : World) (key : ByteArray) (es : List Ent) (v5 v6 : Value) (wr : World) : Prop where
  out : ∃ (k : Nat) (A : Option Addr) (c : Nat) (K : List Ent), k ≤ es.length ∧ K.length ≤ k ∧ v5 = .slice A K.length c ∧ v6 = .int .i64 k ∧ Hid (K.Perm ((es.take k).filter (keyB key))) ∧ Hid (K.Pairwise fun x y => gtE x y < 0) ∧ Hid (EOwn wr A c K) ∧ Hid (∀ q, Mem.blk A = some q → w.heap.size ≤ q) ∧ Hid (Below w.heap.size w wr)
structure RwRel (w7 : World) (b7 o7 c7 : Nat) (l0 : List Ent) (e : Ent) (v7 : Value) (wr : World) : Prop where
  out : ∃ (m : Nat) (pre post : List Ent), m = pre.length ∧ v7 = .int .i64 m ∧ l0 = pre ++ post ∧ Hid (∀ y ∈ post, gtE e y < 0) ∧ Hid (Mem.Own wr 40 20 (some ⟨b7, o7, none⟩) (l0.length + 1) c7 ((pre ++ e :: post).flatMap entCells)) ∧ Hid (Mem.Keeps (fun q => q = b7) w7 wr)
def RvEnd (w : World) (key : ByteArray) (es : List Ent) (x : Ending) (w' : World) : Prop :=
  ∃ A c ys, x = .returned (.slice A ys.length c) ∧ ys.Perm (es.filter (keyB key)) ∧ ys.Pairwise (fun x y => gtE x y < 0) ∧ EOwn w' A c ys ∧ Mem.From w.heap.size A ∧ Below w.heap.size w w'
theorem from_of {B : Nat} {A : Option Addr} (h : ∀ q, Mem.blk A = some q → B ≤ q) (hA : A = none ∨ ∃ b o, A = some ⟨b, o, none⟩) : Mem.From B A := by
  rcases hA with rfl | ⟨b, o, rfl⟩
  · exact Mem.From.none_ _
  · exact Mem.From.some_ (h b rfl)
theorem own_form {w : World} {e : TypeId} {sz n c : Nat} {A : Option Addr} {xs : List Value} (h : Mem.Own w e sz A n c xs) : A = none ∨ ∃ b o, A = some ⟨b, o, none⟩ := by
  rcases h.2 with ⟨h0, _⟩ | ⟨g, o, _, h0, _⟩
  · exact .inl h0
  · exact .inr ⟨g, o, h0⟩
end Sto
open Vec Sto in
set_option maxRecDepth 20000 in
set_option maxHeartbeats 8000000 in
theorem refVersions_any (rng : Int) (mk : Vec.Col) (g : Nat) (A : Option Addr) (c : Nat) (es : List Vec.Ent) (key : ByteArray) (w : World) (hA : Sto.RAt w g A c rng mk es) (hu : es.length ≤ 1000000) (hap : es.Pairwise Sto.apartE) :
    Calls Try.prog 49 #[.pointer (some ⟨g, 0, none⟩), .string key] w (Sto.RvEnd w key es) := by
  have HA0 := Lib.hid hA
  have HAP := Lib.hid hap
  clear hA hap
  go_enter Try.func49, Try.ntmps49
  go_wp2
  go_loopw [5, 6] (RvRel w key es) (fun _ t _ => es.length - (intOf t).toNat)
  case atStart => exact ⟨⟨0, none, 0, [], by omega, by simp, rfl, rfl, List.Perm.refl _, List.Pairwise.nil, Mem.Own.nil _ _ _, fun q h => by (cases h), Below.refl _ _⟩⟩
  case round =>
    obtain ⟨k, A5, c5, K, hk, hKk, rfl, rfl, HP, HS, HO, HQ, HB⟩ := hrel.out
    clear hrel
    have HAr := Lib.hid (HA0.out.below HB.out)
    have x1 := HAr.out.B.cell (j := 1) rfl
    by_cases hlt : k < es.length
    · obtain ⟨b, o, e, rfl, hb, hep, hat⟩ := ent_elem HAr.out.O.rd hlt
      have x6 := hat.c 6 _ rfl
      have HAT := Lib.hid hat
      have he := Lib.hid hep
      clear hat hep HA0
      obtain ⟨wk, hwk⟩ : ∃ wk, wk = wr := ⟨_, rfl⟩
      subst hwk
      by_cases hkey : e.key = key
      · have hkd : (e.key.toList == key.toList) = true := str_eq hkey
        have HKY := Lib.hid hkey
        clear hkey
        go_wp2_with (first | ((with_reducible refine Mem.load_agg _ _ entry_agg b (o + k * 20) (entCells e) ?hx (entCells_length e) HAT.out.c ?_); case hx => exact rfl) | ((with_reducible refine Mem.build1_agg _ _ 20 _ Try.underlying22 entry_zero (by decide) (by decide) (entCells e) ?hra (entCells_length _) ?_); (case hra => exact rfl)) | (at_builtin; refine Mem.wpList_app _ rfl (.tmp 29) (.tmp 37) _ rfl entries_elem A5 K.length c5 _ rfl (wk.heap.size + 1) (some ⟨wk.heap.size, 0, none⟩) 1 1 (entCells e) rfl ?_ (HO.out.alloc _) (Mem.Rd.alloc_new wk _ _ _ rfl) rfl (ent_one e) (by unfold maxLen; omega) (by omega); intro A7 c7 w7 hown hgr hat; have HO7 := Lib.hid hown; have HG7 := Lib.hid hgr; have HT7 := Lib.hid hat; clear hown hgr hat))
        obtain ⟨b7, o7, hA7⟩ := HO7.out.form (by omega)
        subst hA7
        have HK7 : Hid (Mem.Keeps (fun q => w.heap.size ≤ q) wk w7) := ((Mem.Keeps.refl (fun q => w.heap.size ≤ q) wk).alloc _).grown HG7.out (fun k hk _ => HQ.out k hk)
        have HB7 : Hid (Below w.heap.size w w7) := HB.out.trans (HK7.out.below (fun q h => h) HB.out.size)
        have HQ7 : Hid (∀ q, Mem.blk (some (⟨b7, o7, none⟩ : Addr)) = some q → w.heap.size ≤ q) := fun q hq => by
          rcases HT7.out with h | h
          · rw [h] at hq; exact HQ.out q hq
          · rw [h] at hq; cases hq
            have := HB.out.size; simp; omega
        obtain ⟨l7, hl7⟩ : ∃ l7, K.length + 1 = l7 := ⟨_, rfl⟩
        have HL7 := Lib.hid hl7
        have HO7' : Hid (Mem.Own w7 40 20 (some ⟨b7, o7, none⟩) (K.length + 1) c7 ((K ++ e :: []).flatMap entCells)) := by show Mem.Own _ _ _ _ _ _ _; rw [List.flatMap_append]; simpa using HO7.out
        have hl7k : l7 ≤ k + 1 := by omega
        rw [hl7]
        clear HO7 HG7 HT7 HK7 x1 x6 HAT hkd HO HQ HB HAr hl7
        go_loopw [7] (RwRel w7 b7 o7 c7 K e) (fun t _ => (intOf t).toNat)
        case atStart => exact ⟨⟨K.length, K, [], rfl, rfl, by simp, fun y hy => (by cases hy), HO7', Mem.Keeps.refl _ _⟩⟩
        case round =>
          obtain ⟨m, pre, post, hm, rfl, hl0, HPO, HOr, HKr⟩ := hrel.out
          have HL0 := Lib.hid hl0
          rw [HL7.out] at HOr
          clear hrel HO7' hl0
          rcases List.eq_nil_or_concat pre with hp0 | ⟨pre', y, hp1⟩
          · have HPE : Hid (pre = [] ∨ ∃ p y, pre = p ++ [y] ∧ gtE y e ≤ 0) := .inl hp0
            have hm0 : m = 0 := by rw [hm, hp0]; rfl
            subst hm0
            have d0 : decide ((0 : Int) < ((0 : Nat) : Int)) = false := rfl
            clear hm hp0
            go_wp2
            go_quiet (fail)
            obtain ⟨w8, hw8⟩ : ∃ z, wr.drewN nq = z := ⟨_, rfl⟩
            have HO8 : Hid (Mem.Own w8 40 20 (some ⟨b7, o7, none⟩) l7 c7 ((pre ++ e :: post).flatMap entCells)) := by show Mem.Own _ _ _ _ _ _ _; rw [← hw8]; exact HOr.out
            have HK8 : Hid (Mem.Keeps (fun q => q = b7) w7 w8) := by show Mem.Keeps _ _ _; rw [← hw8]; exact HKr.out.trans (Mem.Keeps.drewN (Mem.Keeps.refl _ _) _) (fun _ h _ => h)
            rw [hw8]
            clear HOr HKr hw8
            have hin := ins_end HAP.out he.out HKY.out HP.out HS.out HL0.out HPO.out HPE.out
            have HP9 := Lib.hid hin.1
            have HS9 := Lib.hid hin.2
            have hlen : (pre ++ e :: post).length = l7 := by have h1 := congrArg List.length HL0.out; have h2 := HL7.out; simp at h1 ⊢; omega
            have HO9 : Hid (EOwn w8 (some ⟨b7, o7, none⟩) c7 (pre ++ e :: post)) := by
              show Mem.Own _ _ _ _ _ _ _
              rw [hlen]
              exact HO8.out
            have HB9 : Hid (Below w.heap.size w w8) := HB7.out.trans (HK8.out.below (fun q h => by rw [h]; exact HQ7.out b7 rfl) HB7.out.size)
            have HLN := Lib.hid hlen
            obtain ⟨K9, hK9⟩ : ∃ K9, pre ++ e :: post = K9 := ⟨_, rfl⟩
            rw [hK9] at HP9 HS9 HO9 HLN
            clear hin hlen hK9 HO8 HK8 HPO
            go_wp2
            go_roundw
            case rel => exact ⟨⟨k + 1, some ⟨b7, o7, none⟩, c7, K9, by omega, by have := HLN.out; omega, by rw [HLN.out], by go_num, HP9, HS9, HO9, HQ7, HB9⟩⟩
            case measure => simp [intOf]; omega
          · rw [List.concat_eq_append] at hp1
            subst hp1
            obtain ⟨n, hn⟩ : ∃ n, pre'.length = n := ⟨_, rfl⟩
            have hmn : m = n + 1 := by rw [hm, List.length_append, hn]; rfl
            have e0 : (pre' ++ [y]) ++ e :: post = pre' ++ y :: e :: post := by simp
            rw [e0] at HOr
            have HG1 : Hid (∀ j u, (entCells y)[j]? = some u → ((pre' ++ y :: e :: post).flatMap entCells)[n * 20 + j]? = some u) := fun j u hu => by
              rw [← hn]; exact flat_at pre' y (e :: post) j u hu
            have HG2 : Hid (∀ j u, (entCells e)[j]? = some u → ((pre' ++ y :: e :: post).flatMap entCells)[m * 20 + j]? = some u) := fun j u hu => by
              have h := flat_at (pre' ++ [y]) e post j u hu
              rw [e0, ← hm] at h
              exact h
            have hml : n + 1 < l7 := by
              have h1 := congrArg List.length HL0.out
              have h2 := HL7.out
              simp at h1
              omega
            have HD0 : Hid (decide (0 < m) = true) := by show _ = _; simp; omega
            have HWR : Hid (IntKind.i64.wrap ((m : Int) - 1) = (n : Int)) := by show _ = _; rw [IntWalk.i64_in _ (by omega)]; omega
            have hnl : n < l7 := by omega
            have hml2 : m < l7 := by omega
            have HMN := Lib.hid hmn
            have HPN := Lib.hid hn
            have HML := Lib.hid hml2
            have HNL := Lib.hid hnl
            have HF1 : Hid (((pre' ++ y :: e :: post).flatMap entCells).take (m * 20) ++ entCells y ++ ((pre' ++ y :: e :: post).flatMap entCells).drop (m * 20 + (entCells y).length) = (pre' ++ y :: y :: post).flatMap entCells) := by
              show _ = _
              rw [flat_set (by simp; omega), hmn, ← hn, swap1]
            have HF2 : Hid (((pre' ++ y :: y :: post).flatMap entCells).take (n * 20) ++ entCells e ++ ((pre' ++ y :: y :: post).flatMap entCells).drop (n * 20 + (entCells e).length) = (pre' ++ e :: y :: post).flatMap entCells) := by
              show _ = _
              rw [flat_set (by simp; omega), ← hn, swap2]
            clear hm hmn hn e0
            go_upto_region 8 with fail
            by_cases hgt : 0 < gtE y e
            · have HGT : Hid (decide (0 < gtE y e) = true) := by show _ = _; simpa using hgt
              have HGY := Lib.hid hgt
              clear hgt
              refine Reg.wp_region_rel (by kernel_rfl) 72 14 rfl rfl (by kernel_rfl) (Reg.Adds) (Reg.Adds.refl) (Reg.Adds.trans)
                (fun i v u => match i with
                  | 0 => v = .int .i64 m
                  | 1 => v = .bool true
                  | 2 => v = .bool true
                  | 3 => v = .slice (some ⟨b7, o7, none⟩) l7 c7
                  | 4 => v = .int .i64 m
                  | 5 => v = .int .i64 n
                  | 6 => v = .pointer (some ⟨b7, o7 + n * 20, none⟩)
                  | 7 => v = .agg (entCells y).toArray
                  | 8 => v = .slice (some ⟨b7, o7, none⟩) l7 c7
                  | 9 => v = .int .i64 m
                  | 10 => v = .pointer (some ⟨b7, o7 + m * 20, none⟩)
                  | 11 => v = .agg (entCells e).toArray
                  | 12 => v = .bool true
                  | 13 => v = .bool true
                  | _ => True) ?_ ?_
              · refine Reg.Steps.cons ?_ (Reg.Steps.cons ?_ (Reg.Steps.cons ?_ (Reg.Steps.cons ?_ (Reg.Steps.cons ?_ (Reg.Steps.cons ?_ (Reg.Steps.cons ?_ (Reg.Steps.cons ?_ (Reg.Steps.cons ?_ (Reg.Steps.cons ?_ (Reg.Steps.cons ?_ (Reg.Steps.cons ?_ (Reg.Steps.cons ?_ (Reg.Steps.cons ?_ (Reg.Steps.nil _))))))))))))))
                · intro val ac u hR hp ha K hK
                  have e7 : (ac.tmps[7]?).getD undef = .int .i64 m := ha 7 (by decide); clear ha hp
                  refine Reg.Op1.plain rfl ?_
                  go_wp2
                  exact ⟨rfl, hK _ _ rfl (fun j k _ _ => Reg.Adds.refl _ _ _)⟩
                · intro val ac u hR hp ha K hK
                  obtain ⟨w39, h39, r39⟩ := hp 0 (by decide); have e39 : (ac.tmps[39]?).getD undef = .int .i64 m := (ha 39 (by decide)).trans h39; clear h39 ha hp
                  have hd0 := HD0.out
                  refine Reg.Op1.plain rfl ?_
                  go_wp2
                  exact ⟨rfl, hK _ _ rfl (fun j k _ _ => Reg.Adds.refl _ _ _)⟩
                · intro val ac u hR hp ha K hK
                  obtain ⟨w40, h40, r40⟩ := hp 1 (by decide); have e40 : (ac.tmps[40]?).getD undef = .bool true := (ha 40 (by decide)).trans h40; clear h40 ha hp
                  refine Reg.Op1.plain rfl ?_
                  go_wp2
                  exact ⟨rfl, hK _ _ rfl (fun j k _ _ => Reg.Adds.refl _ _ _)⟩
                · intro val ac u hR hp ha K hK
                  have e5 : (ac.tmps[5]?).getD undef = .slice (some ⟨b7, o7, none⟩) l7 c7 := ha 5 (by decide); obtain ⟨w41, h41, r41⟩ := hp 2 (by decide); have e41 : (ac.tmps[41]?).getD undef = .bool true := (ha 41 (by decide)).trans h41; clear h41 ha hp
                  refine Reg.Op1.guarded rfl rfl e41 (fun _ => Reg.Op1.plain rfl ?_) (fun h => absurd rfl h)
                  go_wp2
                  exact ⟨rfl, hK _ _ rfl (fun j k _ _ => Reg.Adds.refl _ _ _)⟩
                · intro val ac u hR hp ha K hK
                  have e7 : (ac.tmps[7]?).getD undef = .int .i64 m := ha 7 (by decide); obtain ⟨w41, h41, r41⟩ := hp 2 (by decide); have e41 : (ac.tmps[41]?).getD undef = .bool true := (ha 41 (by decide)).trans h41; clear h41 ha hp
                  refine Reg.Op1.guarded rfl rfl e41 (fun _ => Reg.Op1.plain rfl ?_) (fun h => absurd rfl h)
                  go_wp2
                  exact ⟨rfl, hK _ _ rfl (fun j k _ _ => Reg.Adds.refl _ _ _)⟩
                · intro val ac u hR hp ha K hK
                  obtain ⟨w43, h43, r43⟩ := hp 4 (by decide); have e43 : (ac.tmps[43]?).getD undef = .int .i64 m := (ha 43 (by decide)).trans h43; obtain ⟨w41, h41, r41⟩ := hp 2 (by decide); have e41 : (ac.tmps[41]?).getD undef = .bool true := (ha 41 (by decide)).trans h41; clear h43 h41 ha hp
                  have hwr := HWR.out
                  refine Reg.Op1.guarded rfl rfl e41 (fun _ => Reg.Op1.plain rfl ?_) (fun h => absurd rfl h)
                  go_wp2
                  exact ⟨rfl, hK _ _ rfl (fun j k _ _ => Reg.Adds.refl _ _ _)⟩
                · intro val ac u hR hp ha K hK
                  obtain ⟨w42, h42, r42⟩ := hp 3 (by decide); have e42 : (ac.tmps[42]?).getD undef = .slice (some ⟨b7, o7, none⟩) l7 c7 := (ha 42 (by decide)).trans h42; obtain ⟨w44, h44, r44⟩ := hp 5 (by decide); have e44 : (ac.tmps[44]?).getD undef = .int .i64 n := (ha 44 (by decide)).trans h44; obtain ⟨w41, h41, r41⟩ := hp 2 (by decide); have e41 : (ac.tmps[41]?).getD undef = .bool true := (ha 41 (by decide)).trans h41; clear h42 h44 h41 ha hp
                  refine Reg.Op1.guarded rfl rfl e41 (fun _ => Reg.Op1.plain rfl ?_) (fun h => absurd rfl h)
                  go_wp2
                  exact ⟨rfl, hK _ _ rfl (fun j k _ _ => Reg.Adds.refl _ _ _)⟩
                · intro val ac u hR hp ha K hK
                  obtain ⟨w45, h45, r45⟩ := hp 6 (by decide); have e45 : (ac.tmps[45]?).getD undef = .pointer (some ⟨b7, o7 + n * 20, none⟩) := (ha 45 (by decide)).trans h45; obtain ⟨w41, h41, r41⟩ := hp 2 (by decide); have e41 : (ac.tmps[41]?).getD undef = .bool true := (ha 41 (by decide)).trans h41; clear h45 h41 ha hp
                  refine Reg.Op1.guarded rfl rfl e41 (fun _ => Reg.Op1.plain rfl ?_) (fun h => absurd rfl h)
                  have hO := HOr.out.below ((Below.refl _ wr).drew.trans hR) (fun k hk => HOr.out.lt hk)
                  refine Mem.load_aggG _ _ entry_agg b7 (o7 + n * 20) (entCells y) (by simp [Region.wanted]) (Reg.eval_of e45) (entCells_length _) (fun j u' hu => by rw [Nat.add_assoc]; exact hO.cell (HG1.out j u' hu)) ?_
                  exact ⟨rfl, hK _ _ rfl (fun j k _ _ => Reg.Adds.refl _ _ _)⟩
                · intro val ac u hR hp ha K hK
                  have e5 : (ac.tmps[5]?).getD undef = .slice (some ⟨b7, o7, none⟩) l7 c7 := ha 5 (by decide); obtain ⟨w41, h41, r41⟩ := hp 2 (by decide); have e41 : (ac.tmps[41]?).getD undef = .bool true := (ha 41 (by decide)).trans h41; clear h41 ha hp
                  refine Reg.Op1.guarded rfl rfl e41 (fun _ => Reg.Op1.plain rfl ?_) (fun h => absurd rfl h)
                  go_wp2
                  exact ⟨rfl, hK _ _ rfl (fun j k _ _ => Reg.Adds.refl _ _ _)⟩
                · intro val ac u hR hp ha K hK
                  have e7 : (ac.tmps[7]?).getD undef = .int .i64 m := ha 7 (by decide); obtain ⟨w41, h41, r41⟩ := hp 2 (by decide); have e41 : (ac.tmps[41]?).getD undef = .bool true := (ha 41 (by decide)).trans h41; clear h41 ha hp
                  refine Reg.Op1.guarded rfl rfl e41 (fun _ => Reg.Op1.plain rfl ?_) (fun h => absurd rfl h)
                  go_wp2
                  exact ⟨rfl, hK _ _ rfl (fun j k _ _ => Reg.Adds.refl _ _ _)⟩
                · intro val ac u hR hp ha K hK
                  obtain ⟨w47, h47, r47⟩ := hp 8 (by decide); have e47 : (ac.tmps[47]?).getD undef = .slice (some ⟨b7, o7, none⟩) l7 c7 := (ha 47 (by decide)).trans h47; obtain ⟨w48, h48, r48⟩ := hp 9 (by decide); have e48 : (ac.tmps[48]?).getD undef = .int .i64 m := (ha 48 (by decide)).trans h48; obtain ⟨w41, h41, r41⟩ := hp 2 (by decide); have e41 : (ac.tmps[41]?).getD undef = .bool true := (ha 41 (by decide)).trans h41; clear h47 h48 h41 ha hp
                  refine Reg.Op1.guarded rfl rfl e41 (fun _ => Reg.Op1.plain rfl ?_) (fun h => absurd rfl h)
                  go_wp2
                  exact ⟨rfl, hK _ _ rfl (fun j k _ _ => Reg.Adds.refl _ _ _)⟩
                · intro val ac u hR hp ha K hK
                  obtain ⟨w49, h49, r49⟩ := hp 10 (by decide); have e49 : (ac.tmps[49]?).getD undef = .pointer (some ⟨b7, o7 + m * 20, none⟩) := (ha 49 (by decide)).trans h49; obtain ⟨w41, h41, r41⟩ := hp 2 (by decide); have e41 : (ac.tmps[41]?).getD undef = .bool true := (ha 41 (by decide)).trans h41; clear h49 h41 ha hp
                  refine Reg.Op1.guarded rfl rfl e41 (fun _ => Reg.Op1.plain rfl ?_) (fun h => absurd rfl h)
                  have hO := HOr.out.below ((Below.refl _ wr).drew.trans hR) (fun k hk => HOr.out.lt hk)
                  refine Mem.load_aggG _ _ entry_agg b7 (o7 + m * 20) (entCells e) (by simp [Region.wanted]) (Reg.eval_of e49) (entCells_length _) (fun j u' hu => by rw [Nat.add_assoc]; exact hO.cell (HG2.out j u' hu)) ?_
                  exact ⟨rfl, hK _ _ rfl (fun j k _ _ => Reg.Adds.refl _ _ _)⟩
                · intro val ac u hR hp ha K hK
                  obtain ⟨w46, h46, r46⟩ := hp 7 (by decide); have e46 : (ac.tmps[46]?).getD undef = .agg (entCells y).toArray := (ha 46 (by decide)).trans h46; obtain ⟨w50, h50, r50⟩ := hp 11 (by decide); have e50 : (ac.tmps[50]?).getD undef = .agg (entCells e).toArray := (ha 50 (by decide)).trans h50; obtain ⟨w41, h41, r41⟩ := hp 2 (by decide); have e41 : (ac.tmps[41]?).getD undef = .bool true := (ha 41 (by decide)).trans h41; clear h46 h50 h41 ha hp
                  refine Reg.Op1.guarded rfl rfl e41 (fun _ => Reg.Op1.plain rfl ?_) (fun h => absurd rfl h)
                  go_wp2_with fail
                  refine (refGreater_any y e u).mono ?_
                  rintro x w' ⟨rfl, hbw⟩
                  rw [HGT.out]
                  go_wp2_with fail
                  exact ⟨rfl, hK _ _ rfl (fun j k _ _ => hbw)⟩
                · intro val ac u hR hp ha K hK
                  obtain ⟨w41, h41, r41⟩ := hp 2 (by decide); have e41 : (ac.tmps[41]?).getD undef = .bool true := (ha 41 (by decide)).trans h41; obtain ⟨w51, h51, r51⟩ := hp 12 (by decide); have e51 : (ac.tmps[51]?).getD undef = .bool true := (ha 51 (by decide)).trans h51; clear h41 h51 ha hp
                  refine Reg.Op1.plain rfl ?_
                  go_wp2
                  exact ⟨rfl, hK _ _ rfl (fun j k _ _ => Reg.Adds.refl _ _ _)⟩
              intro val u hR H
              obtain ⟨_, hv, _⟩ := H 13 (by decide)
              have hv : val 13 = .bool true := hv
              have HBu : Hid (Below wr.heap.size wr u) := (Below.refl _ wr).drew.trans hR
              simp only [List.map_cons, List.map_nil, Reg.lay, Act.put, List.setIfInBounds_toArray, List.set_cons_succ, List.set_cons_zero, Nat.reduceAdd, hv]
              clear hR H hv
              obtain ⟨w8, hw8⟩ : ∃ z, z = u := ⟨_, rfl⟩
              subst hw8
              have HO8 : Hid (Mem.Own w8 40 20 (some ⟨b7, o7, none⟩) l7 c7 ((pre' ++ y :: e :: post).flatMap entCells)) := HOr.out.below HBu.out (fun k hk => HOr.out.lt hk)
              have HK8 : Hid (Mem.Keeps (fun q => q = b7) w7 w8) := HKr.out.trans (Mem.Keeps.of_below HBu.out) (fun _ h _ => h.elim)
              clear HOr HKr HBu
              go_upto_region 9 with fail
              refine Reg.wp_region_w (by kernel_rfl) 72 18 rfl rfl (by kernel_rfl) (15) (fun q => q = b7) (17) (fun q => q = b7) (15) (fun _ => False)
                (fun i v u => match i with
                  | 0 => v = .slice (some ⟨b7, o7, none⟩) l7 c7
                  | 1 => v = .int .i64 m
                  | 2 => v = .slice (some ⟨b7, o7, none⟩) l7 c7
                  | 3 => v = .int .i64 m
                  | 4 => v = .int .i64 n
                  | 5 => v = .slice (some ⟨b7, o7, none⟩) l7 c7
                  | 6 => v = .int .i64 m
                  | 7 => v = .int .i64 n
                  | 8 => v = .pointer (some ⟨b7, o7 + n * 20, none⟩)
                  | 9 => v = .agg (entCells y).toArray
                  | 10 => v = .slice (some ⟨b7, o7, none⟩) l7 c7
                  | 11 => v = .int .i64 m
                  | 12 => v = .pointer (some ⟨b7, o7 + m * 20, none⟩)
                  | 13 => v = .agg (entCells e).toArray
                  | 14 => v = .pointer (some ⟨b7, o7 + m * 20, none⟩)
                  | 15 => Mem.Own u 40 20 (some ⟨b7, o7, none⟩) l7 c7 ((pre' ++ y :: y :: post).flatMap entCells)
                  | 16 => v = .pointer (some ⟨b7, o7 + n * 20, none⟩)
                  | 17 => Mem.Own u 40 20 (some ⟨b7, o7, none⟩) l7 c7 ((pre' ++ e :: y :: post).flatMap entCells)
                  | _ => True) ?_ ?_
              · refine Reg.Steps.cons ?_ (Reg.Steps.cons ?_ (Reg.Steps.cons ?_ (Reg.Steps.cons ?_ (Reg.Steps.cons ?_ (Reg.Steps.cons ?_ (Reg.Steps.cons ?_ (Reg.Steps.cons ?_ (Reg.Steps.cons ?_ (Reg.Steps.cons ?_ (Reg.Steps.cons ?_ (Reg.Steps.cons ?_ (Reg.Steps.cons ?_ (Reg.Steps.cons ?_ (Reg.Steps.cons ?_ (Reg.Steps.cons ?_ (Reg.Steps.cons ?_ (Reg.Steps.cons ?_ (Reg.Steps.nil _))))))))))))))))))
                · intro val ac u hR hp ha K hK
                  have e5 : (ac.tmps[5]?).getD undef = .slice (some ⟨b7, o7, none⟩) l7 c7 := ha 5 (by decide); clear ha hp
                  refine Reg.Op1.plain rfl ?_
                  go_wp2
                  exact ⟨rfl, hK _ _ rfl (Reg.Wr.same _)⟩
                · intro val ac u hR hp ha K hK
                  have e7 : (ac.tmps[7]?).getD undef = .int .i64 m := ha 7 (by decide); clear ha hp
                  refine Reg.Op1.plain rfl ?_
                  go_wp2
                  exact ⟨rfl, hK _ _ rfl (Reg.Wr.same _)⟩
                · intro val ac u hR hp ha K hK
                  have e5 : (ac.tmps[5]?).getD undef = .slice (some ⟨b7, o7, none⟩) l7 c7 := ha 5 (by decide); clear ha hp
                  refine Reg.Op1.plain rfl ?_
                  go_wp2
                  exact ⟨rfl, hK _ _ rfl (Reg.Wr.same _)⟩
                · intro val ac u hR hp ha K hK
                  have e7 : (ac.tmps[7]?).getD undef = .int .i64 m := ha 7 (by decide); clear ha hp
                  refine Reg.Op1.plain rfl ?_
                  go_wp2
                  exact ⟨rfl, hK _ _ rfl (Reg.Wr.same _)⟩
                · intro val ac u hR hp ha K hK
                  obtain ⟨w56, h56, r56⟩ := hp 3 (by decide); have e56 : (ac.tmps[56]?).getD undef = .int .i64 m := (ha 56 (by decide)).trans h56; clear h56 ha hp
                  have hwr := HWR.out
                  refine Reg.Op1.plain rfl ?_
                  go_wp2
                  exact ⟨rfl, hK _ _ rfl (Reg.Wr.same _)⟩
                · intro val ac u hR hp ha K hK
                  have e5 : (ac.tmps[5]?).getD undef = .slice (some ⟨b7, o7, none⟩) l7 c7 := ha 5 (by decide); clear ha hp
                  refine Reg.Op1.plain rfl ?_
                  go_wp2
                  exact ⟨rfl, hK _ _ rfl (Reg.Wr.same _)⟩
                · intro val ac u hR hp ha K hK
                  have e7 : (ac.tmps[7]?).getD undef = .int .i64 m := ha 7 (by decide); clear ha hp
                  refine Reg.Op1.plain rfl ?_
                  go_wp2
                  exact ⟨rfl, hK _ _ rfl (Reg.Wr.same _)⟩
                · intro val ac u hR hp ha K hK
                  obtain ⟨w59, h59, r59⟩ := hp 6 (by decide); have e59 : (ac.tmps[59]?).getD undef = .int .i64 m := (ha 59 (by decide)).trans h59; clear h59 ha hp
                  have hwr := HWR.out
                  refine Reg.Op1.plain rfl ?_
                  go_wp2
                  exact ⟨rfl, hK _ _ rfl (Reg.Wr.same _)⟩
                · intro val ac u hR hp ha K hK
                  obtain ⟨w58, h58, r58⟩ := hp 5 (by decide); have e58 : (ac.tmps[58]?).getD undef = .slice (some ⟨b7, o7, none⟩) l7 c7 := (ha 58 (by decide)).trans h58; obtain ⟨w60, h60, r60⟩ := hp 7 (by decide); have e60 : (ac.tmps[60]?).getD undef = .int .i64 n := (ha 60 (by decide)).trans h60; clear h58 h60 ha hp
                  refine Reg.Op1.plain rfl ?_
                  go_wp2
                  exact ⟨rfl, hK _ _ rfl (Reg.Wr.same _)⟩
                · intro val ac u hR hp ha K hK
                  obtain ⟨w61, h61, r61⟩ := hp 8 (by decide); have e61 : (ac.tmps[61]?).getD undef = .pointer (some ⟨b7, o7 + n * 20, none⟩) := (ha 61 (by decide)).trans h61; clear h61 ha hp
                  refine Reg.Op1.plain rfl ?_
                  have hq := (Mem.Keeps.refl (fun _ => False) w8).drew.trans (Reg.Wr.none hR (by decide +kernel) (by decide +kernel) (by decide +kernel)) (fun _ h _ => h)
                  have hO := HO8.out.keeps hq (fun _ _ h => h)
                  refine Mem.load_agg _ _ entry_agg b7 (o7 + n * 20) (entCells y) (Reg.eval_of e61) (entCells_length _) (fun j u' hu => by rw [Nat.add_assoc]; exact hO.cell (HG1.out j u' hu)) ?_
                  exact ⟨rfl, hK _ _ rfl (Reg.Wr.same _)⟩
                · intro val ac u hR hp ha K hK
                  have e5 : (ac.tmps[5]?).getD undef = .slice (some ⟨b7, o7, none⟩) l7 c7 := ha 5 (by decide); clear ha hp
                  refine Reg.Op1.plain rfl ?_
                  go_wp2
                  exact ⟨rfl, hK _ _ rfl (Reg.Wr.same _)⟩
                · intro val ac u hR hp ha K hK
                  have e7 : (ac.tmps[7]?).getD undef = .int .i64 m := ha 7 (by decide); clear ha hp
                  refine Reg.Op1.plain rfl ?_
                  go_wp2
                  exact ⟨rfl, hK _ _ rfl (Reg.Wr.same _)⟩
                · intro val ac u hR hp ha K hK
                  obtain ⟨w63, h63, r63⟩ := hp 10 (by decide); have e63 : (ac.tmps[63]?).getD undef = .slice (some ⟨b7, o7, none⟩) l7 c7 := (ha 63 (by decide)).trans h63; obtain ⟨w64, h64, r64⟩ := hp 11 (by decide); have e64 : (ac.tmps[64]?).getD undef = .int .i64 m := (ha 64 (by decide)).trans h64; clear h63 h64 ha hp
                  refine Reg.Op1.plain rfl ?_
                  go_wp2
                  exact ⟨rfl, hK _ _ rfl (Reg.Wr.same _)⟩
                · intro val ac u hR hp ha K hK
                  obtain ⟨w65, h65, r65⟩ := hp 12 (by decide); have e65 : (ac.tmps[65]?).getD undef = .pointer (some ⟨b7, o7 + m * 20, none⟩) := (ha 65 (by decide)).trans h65; clear h65 ha hp
                  refine Reg.Op1.plain rfl ?_
                  have hq := (Mem.Keeps.refl (fun _ => False) w8).drew.trans (Reg.Wr.none hR (by decide +kernel) (by decide +kernel) (by decide +kernel)) (fun _ h _ => h)
                  have hO := HO8.out.keeps hq (fun _ _ h => h)
                  refine Mem.load_agg _ _ entry_agg b7 (o7 + m * 20) (entCells e) (Reg.eval_of e65) (entCells_length _) (fun j u' hu => by rw [Nat.add_assoc]; exact hO.cell (HG2.out j u' hu)) ?_
                  exact ⟨rfl, hK _ _ rfl (Reg.Wr.same _)⟩
                · intro val ac u hR hp ha K hK
                  obtain ⟨w53, h53, r53⟩ := hp 0 (by decide); have e53 : (ac.tmps[53]?).getD undef = .slice (some ⟨b7, o7, none⟩) l7 c7 := (ha 53 (by decide)).trans h53; obtain ⟨w54, h54, r54⟩ := hp 1 (by decide); have e54 : (ac.tmps[54]?).getD undef = .int .i64 m := (ha 54 (by decide)).trans h54; clear h53 h54 ha hp
                  refine Reg.Op1.plain rfl ?_
                  go_wp2
                  exact ⟨rfl, hK _ _ rfl (Reg.Wr.same _)⟩
                · intro val ac u hR hp ha K hK
                  obtain ⟨w67, h67, r67⟩ := hp 14 (by decide); have e67 : (ac.tmps[67]?).getD undef = .pointer (some ⟨b7, o7 + m * 20, none⟩) := (ha 67 (by decide)).trans h67; obtain ⟨w62, h62, r62⟩ := hp 9 (by decide); have e62 : (ac.tmps[62]?).getD undef = .agg (entCells y).toArray := (ha 62 (by decide)).trans h62; clear h67 h62 ha hp
                  refine Reg.Op1.plain rfl ?_
                  have hq := (Mem.Keeps.refl (fun _ => False) w8).drew.trans (Reg.Wr.none hR (by decide +kernel) (by decide +kernel) (by decide +kernel)) (fun _ h _ => h)
                  have hO := HO8.out.keeps hq (fun _ _ h => h)
                  refine Mem.store_elem _ 20 entry_agg _ l7 c7 b7 o7 m _ (entCells y) (Reg.eval_of e67) (Reg.eval_of e62) hO (entCells_length _) HML.out (ent_one y) ?_
                  intro w' ho hk hs'
                  refine ⟨rfl, hK undef _ ?_ (Reg.Wr.does1 hk)⟩
                  rw [HF1.out] at ho
                  exact ho
                · intro val ac u hR hp ha K hK
                  obtain ⟨w55, h55, r55⟩ := hp 2 (by decide); have e55 : (ac.tmps[55]?).getD undef = .slice (some ⟨b7, o7, none⟩) l7 c7 := (ha 55 (by decide)).trans h55; obtain ⟨w57, h57, r57⟩ := hp 4 (by decide); have e57 : (ac.tmps[57]?).getD undef = .int .i64 n := (ha 57 (by decide)).trans h57; clear h55 h57 ha hp
                  refine Reg.Op1.plain rfl ?_
                  go_wp2
                  exact ⟨rfl, hK _ _ rfl (Reg.Wr.same _)⟩
                · intro val ac u hR hp ha K hK
                  obtain ⟨w68, h68, r68⟩ := hp 16 (by decide); have e68 : (ac.tmps[68]?).getD undef = .pointer (some ⟨b7, o7 + n * 20, none⟩) := (ha 68 (by decide)).trans h68; obtain ⟨w66, h66, r66⟩ := hp 13 (by decide); have e66 : (ac.tmps[66]?).getD undef = .agg (entCells e).toArray := (ha 66 (by decide)).trans h66; obtain ⟨w_15, h_15, r_15⟩ := hp 15 (by decide); clear h68 h66 ha hp
                  refine Reg.Op1.plain rfl ?_
                  have hO := h_15.keeps (Reg.Wr.none r_15 (by decide +kernel) (by decide +kernel) (by decide +kernel)) (fun _ _ h => h)
                  refine Mem.store_elem _ 20 entry_agg _ l7 c7 b7 o7 n _ (entCells e) (Reg.eval_of e68) (Reg.eval_of e66) hO (entCells_length _) HNL.out (ent_one e) ?_
                  intro w' ho hk hs'
                  refine ⟨rfl, hK undef _ ?_ (Reg.Wr.does2 hk)⟩
                  rw [HF2.out] at ho
                  exact ho
              intro val u hR H
              obtain ⟨wA, hb1, rA⟩ := H 17 (by decide)
              have HO10 : Hid (Mem.Own u 40 20 (some ⟨b7, o7, none⟩) l7 c7 ((pre' ++ e :: y :: post).flatMap entCells)) := hb1.keeps (Reg.Wr.none rA (by decide +kernel) (by decide +kernel) (by decide +kernel)) (fun _ _ h => h)
              have hk1 : Mem.Keeps (fun y => y = b7) w8 u := ((Mem.Keeps.refl (fun y => y = b7) w8).drew.trans (Reg.Wr.all hR) (fun _ h _ => by rcases h with h | h | h; exact h; exact h; exact h.elim))
              have HK10 : Hid (Mem.Keeps (fun q => q = b7) w7 u) := HK8.out.trans hk1 (fun _ h _ => h)
              simp only [List.map_cons, List.map_nil, Reg.lay, Act.put, List.setIfInBounds_toArray, List.set_cons_succ, List.set_cons_zero, Nat.reduceAdd]
              clear hR H hk1 hb1 rA HO8 HK8
              have hwr := HWR.out
              go_wp2
              go_roundw
              case rel =>
                refine ⟨⟨n, pre', y :: post, HPN.out.symm, by go_num, by rw [HL0.out]; simp, fun z hz => ?_, ?_, HK10⟩⟩
                · rcases List.mem_cons.1 hz with rfl | hz
                  · exact (gtE_gt _ _).1 HGY.out
                  · exact HPO.out z hz
                · show Mem.Own _ _ _ _ _ _ _
                  rw [HL7.out]
                  exact HO10.out
              case measure => have := HMN.out; simp [intOf]; omega
            · have HGT : Hid (decide (0 < gtE y e) = false) := by show _ = _; simpa using hgt
              have HPE : Hid ((pre' ++ [y]) = [] ∨ ∃ p z, (pre' ++ [y]) = p ++ [z] ∧ gtE z e ≤ 0) := .inr ⟨pre', y, rfl, by omega⟩
              clear hgt
              refine Reg.wp_region_rel (by kernel_rfl) 72 14 rfl rfl (by kernel_rfl) (Reg.Adds) (Reg.Adds.refl) (Reg.Adds.trans)
                (fun i v u => match i with
                  | 0 => v = .int .i64 m
                  | 1 => v = .bool true
                  | 2 => v = .bool true
                  | 3 => v = .slice (some ⟨b7, o7, none⟩) l7 c7
                  | 4 => v = .int .i64 m
                  | 5 => v = .int .i64 n
                  | 6 => v = .pointer (some ⟨b7, o7 + n * 20, none⟩)
                  | 7 => v = .agg (entCells y).toArray
                  | 8 => v = .slice (some ⟨b7, o7, none⟩) l7 c7
                  | 9 => v = .int .i64 m
                  | 10 => v = .pointer (some ⟨b7, o7 + m * 20, none⟩)
                  | 11 => v = .agg (entCells e).toArray
                  | 12 => v = .bool false
                  | 13 => v = .bool false
                  | _ => True) ?_ ?_
              · refine Reg.Steps.cons ?_ (Reg.Steps.cons ?_ (Reg.Steps.cons ?_ (Reg.Steps.cons ?_ (Reg.Steps.cons ?_ (Reg.Steps.cons ?_ (Reg.Steps.cons ?_ (Reg.Steps.cons ?_ (Reg.Steps.cons ?_ (Reg.Steps.cons ?_ (Reg.Steps.cons ?_ (Reg.Steps.cons ?_ (Reg.Steps.cons ?_ (Reg.Steps.cons ?_ (Reg.Steps.nil _))))))))))))))
                · intro val ac u hR hp ha K hK
                  have e7 : (ac.tmps[7]?).getD undef = .int .i64 m := ha 7 (by decide); clear ha hp
                  refine Reg.Op1.plain rfl ?_
                  go_wp2
                  exact ⟨rfl, hK _ _ rfl (fun j k _ _ => Reg.Adds.refl _ _ _)⟩
                · intro val ac u hR hp ha K hK
                  obtain ⟨w39, h39, r39⟩ := hp 0 (by decide); have e39 : (ac.tmps[39]?).getD undef = .int .i64 m := (ha 39 (by decide)).trans h39; clear h39 ha hp
                  have hd0 := HD0.out
                  refine Reg.Op1.plain rfl ?_
                  go_wp2
                  exact ⟨rfl, hK _ _ rfl (fun j k _ _ => Reg.Adds.refl _ _ _)⟩
                · intro val ac u hR hp ha K hK
                  obtain ⟨w40, h40, r40⟩ := hp 1 (by decide); have e40 : (ac.tmps[40]?).getD undef = .bool true := (ha 40 (by decide)).trans h40; clear h40 ha hp
                  refine Reg.Op1.plain rfl ?_
                  go_wp2
                  exact ⟨rfl, hK _ _ rfl (fun j k _ _ => Reg.Adds.refl _ _ _)⟩
                · intro val ac u hR hp ha K hK
                  have e5 : (ac.tmps[5]?).getD undef = .slice (some ⟨b7, o7, none⟩) l7 c7 := ha 5 (by decide); obtain ⟨w41, h41, r41⟩ := hp 2 (by decide); have e41 : (ac.tmps[41]?).getD undef = .bool true := (ha 41 (by decide)).trans h41; clear h41 ha hp
                  refine Reg.Op1.guarded rfl rfl e41 (fun _ => Reg.Op1.plain rfl ?_) (fun h => absurd rfl h)
                  go_wp2
                  exact ⟨rfl, hK _ _ rfl (fun j k _ _ => Reg.Adds.refl _ _ _)⟩
                · intro val ac u hR hp ha K hK
                  have e7 : (ac.tmps[7]?).getD undef = .int .i64 m := ha 7 (by decide); obtain ⟨w41, h41, r41⟩ := hp 2 (by decide); have e41 : (ac.tmps[41]?).getD undef = .bool true := (ha 41 (by decide)).trans h41; clear h41 ha hp
                  refine Reg.Op1.guarded rfl rfl e41 (fun _ => Reg.Op1.plain rfl ?_) (fun h => absurd rfl h)
                  go_wp2
                  exact ⟨rfl, hK _ _ rfl (fun j k _ _ => Reg.Adds.refl _ _ _)⟩
                · intro val ac u hR hp ha K hK
                  obtain ⟨w43, h43, r43⟩ := hp 4 (by decide); have e43 : (ac.tmps[43]?).getD undef = .int .i64 m := (ha 43 (by decide)).trans h43; obtain ⟨w41, h41, r41⟩ := hp 2 (by decide); have e41 : (ac.tmps[41]?).getD undef = .bool true := (ha 41 (by decide)).trans h41; clear h43 h41 ha hp
                  have hwr := HWR.out
                  refine Reg.Op1.guarded rfl rfl e41 (fun _ => Reg.Op1.plain rfl ?_) (fun h => absurd rfl h)
                  go_wp2
                  exact ⟨rfl, hK _ _ rfl (fun j k _ _ => Reg.Adds.refl _ _ _)⟩
                · intro val ac u hR hp ha K hK
                  obtain ⟨w42, h42, r42⟩ := hp 3 (by decide); have e42 : (ac.tmps[42]?).getD undef = .slice (some ⟨b7, o7, none⟩) l7 c7 := (ha 42 (by decide)).trans h42; obtain ⟨w44, h44, r44⟩ := hp 5 (by decide); have e44 : (ac.tmps[44]?).getD undef = .int .i64 n := (ha 44 (by decide)).trans h44; obtain ⟨w41, h41, r41⟩ := hp 2 (by decide); have e41 : (ac.tmps[41]?).getD undef = .bool true := (ha 41 (by decide)).trans h41; clear h42 h44 h41 ha hp
                  refine Reg.Op1.guarded rfl rfl e41 (fun _ => Reg.Op1.plain rfl ?_) (fun h => absurd rfl h)
                  go_wp2
                  exact ⟨rfl, hK _ _ rfl (fun j k _ _ => Reg.Adds.refl _ _ _)⟩
                · intro val ac u hR hp ha K hK
                  obtain ⟨w45, h45, r45⟩ := hp 6 (by decide); have e45 : (ac.tmps[45]?).getD undef = .pointer (some ⟨b7, o7 + n * 20, none⟩) := (ha 45 (by decide)).trans h45; obtain ⟨w41, h41, r41⟩ := hp 2 (by decide); have e41 : (ac.tmps[41]?).getD undef = .bool true := (ha 41 (by decide)).trans h41; clear h45 h41 ha hp
                  refine Reg.Op1.guarded rfl rfl e41 (fun _ => Reg.Op1.plain rfl ?_) (fun h => absurd rfl h)
                  have hO := HOr.out.below ((Below.refl _ wr).drew.trans hR) (fun k hk => HOr.out.lt hk)
                  refine Mem.load_aggG _ _ entry_agg b7 (o7 + n * 20) (entCells y) (by simp [Region.wanted]) (Reg.eval_of e45) (entCells_length _) (fun j u' hu => by rw [Nat.add_assoc]; exact hO.cell (HG1.out j u' hu)) ?_
                  exact ⟨rfl, hK _ _ rfl (fun j k _ _ => Reg.Adds.refl _ _ _)⟩
                · intro val ac u hR hp ha K hK
                  have e5 : (ac.tmps[5]?).getD undef = .slice (some ⟨b7, o7, none⟩) l7 c7 := ha 5 (by decide); obtain ⟨w41, h41, r41⟩ := hp 2 (by decide); have e41 : (ac.tmps[41]?).getD undef = .bool true := (ha 41 (by decide)).trans h41; clear h41 ha hp
                  refine Reg.Op1.guarded rfl rfl e41 (fun _ => Reg.Op1.plain rfl ?_) (fun h => absurd rfl h)
                  go_wp2
                  exact ⟨rfl, hK _ _ rfl (fun j k _ _ => Reg.Adds.refl _ _ _)⟩
                · intro val ac u hR hp ha K hK
                  have e7 : (ac.tmps[7]?).getD undef = .int .i64 m := ha 7 (by decide); obtain ⟨w41, h41, r41⟩ := hp 2 (by decide); have e41 : (ac.tmps[41]?).getD undef = .bool true := (ha 41 (by decide)).trans h41; clear h41 ha hp
                  refine Reg.Op1.guarded rfl rfl e41 (fun _ => Reg.Op1.plain rfl ?_) (fun h => absurd rfl h)
                  go_wp2
                  exact ⟨rfl, hK _ _ rfl (fun j k _ _ => Reg.Adds.refl _ _ _)⟩
                · intro val ac u hR hp ha K hK
                  obtain ⟨w47, h47, r47⟩ := hp 8 (by decide); have e47 : (ac.tmps[47]?).getD undef = .slice (some ⟨b7, o7, none⟩) l7 c7 := (ha 47 (by decide)).trans h47; obtain ⟨w48, h48, r48⟩ := hp 9 (by decide); have e48 : (ac.tmps[48]?).getD undef = .int .i64 m := (ha 48 (by decide)).trans h48; obtain ⟨w41, h41, r41⟩ := hp 2 (by decide); have e41 : (ac.tmps[41]?).getD undef = .bool true := (ha 41 (by decide)).trans h41; clear h47 h48 h41 ha hp
                  refine Reg.Op1.guarded rfl rfl e41 (fun _ => Reg.Op1.plain rfl ?_) (fun h => absurd rfl h)
                  go_wp2
                  exact ⟨rfl, hK _ _ rfl (fun j k _ _ => Reg.Adds.refl _ _ _)⟩
                · intro val ac u hR hp ha K hK
                  obtain ⟨w49, h49, r49⟩ := hp 10 (by decide); have e49 : (ac.tmps[49]?).getD undef = .pointer (some ⟨b7, o7 + m * 20, none⟩) := (ha 49 (by decide)).trans h49; obtain ⟨w41, h41, r41⟩ := hp 2 (by decide); have e41 : (ac.tmps[41]?).getD undef = .bool true := (ha 41 (by decide)).trans h41; clear h49 h41 ha hp
                  refine Reg.Op1.guarded rfl rfl e41 (fun _ => Reg.Op1.plain rfl ?_) (fun h => absurd rfl h)
                  have hO := HOr.out.below ((Below.refl _ wr).drew.trans hR) (fun k hk => HOr.out.lt hk)
                  refine Mem.load_aggG _ _ entry_agg b7 (o7 + m * 20) (entCells e) (by simp [Region.wanted]) (Reg.eval_of e49) (entCells_length _) (fun j u' hu => by rw [Nat.add_assoc]; exact hO.cell (HG2.out j u' hu)) ?_
                  exact ⟨rfl, hK _ _ rfl (fun j k _ _ => Reg.Adds.refl _ _ _)⟩
                · intro val ac u hR hp ha K hK
                  obtain ⟨w46, h46, r46⟩ := hp 7 (by decide); have e46 : (ac.tmps[46]?).getD undef = .agg (entCells y).toArray := (ha 46 (by decide)).trans h46; obtain ⟨w50, h50, r50⟩ := hp 11 (by decide); have e50 : (ac.tmps[50]?).getD undef = .agg (entCells e).toArray := (ha 50 (by decide)).trans h50; obtain ⟨w41, h41, r41⟩ := hp 2 (by decide); have e41 : (ac.tmps[41]?).getD undef = .bool true := (ha 41 (by decide)).trans h41; clear h46 h50 h41 ha hp
                  refine Reg.Op1.guarded rfl rfl e41 (fun _ => Reg.Op1.plain rfl ?_) (fun h => absurd rfl h)
                  go_wp2_with fail
                  refine (refGreater_any y e u).mono ?_
                  rintro x w' ⟨rfl, hbw⟩
                  rw [HGT.out]
                  go_wp2_with fail
                  exact ⟨rfl, hK _ _ rfl (fun j k _ _ => hbw)⟩
                · intro val ac u hR hp ha K hK
                  obtain ⟨w41, h41, r41⟩ := hp 2 (by decide); have e41 : (ac.tmps[41]?).getD undef = .bool true := (ha 41 (by decide)).trans h41; obtain ⟨w51, h51, r51⟩ := hp 12 (by decide); have e51 : (ac.tmps[51]?).getD undef = .bool false := (ha 51 (by decide)).trans h51; clear h41 h51 ha hp
                  refine Reg.Op1.plain rfl ?_
                  go_wp2
                  exact ⟨rfl, hK _ _ rfl (fun j k _ _ => Reg.Adds.refl _ _ _)⟩
              intro val u hR H
              obtain ⟨_, hv, _⟩ := H 13 (by decide)
              have hv : val 13 = .bool false := hv
              have HBu : Hid (Below wr.heap.size wr u) := (Below.refl _ wr).drew.trans hR
              simp only [List.map_cons, List.map_nil, Reg.lay, Act.put, List.setIfInBounds_toArray, List.set_cons_succ, List.set_cons_zero, Nat.reduceAdd, hv]
              clear hR H hv
              obtain ⟨w8, hw8⟩ : ∃ z, z = u := ⟨_, rfl⟩
              subst hw8
              have HO8 : Hid (Mem.Own w8 40 20 (some ⟨b7, o7, none⟩) l7 c7 ((pre' ++ y :: e :: post).flatMap entCells)) := HOr.out.below HBu.out (fun k hk => HOr.out.lt hk)
              have HK8 : Hid (Mem.Keeps (fun q => q = b7) w7 w8) := HKr.out.trans (Mem.Keeps.of_below HBu.out) (fun _ h _ => h.elim)
              clear HOr HKr HBu
              have HO9' : Hid (Mem.Own w8 40 20 (some ⟨b7, o7, none⟩) l7 c7 (((pre' ++ [y]) ++ e :: post).flatMap entCells)) := by show Mem.Own _ _ _ _ _ _ _; simpa using HO8.out
              obtain ⟨pre, hpre⟩ : ∃ pre, pre' ++ [y] = pre := ⟨_, rfl⟩
              rw [hpre] at HO9' HPE HL0
              clear HO8 hpre HG1 HG2
              have hin := ins_end HAP.out he.out HKY.out HP.out HS.out HL0.out HPO.out HPE.out
              have HP9 := Lib.hid hin.1
              have HS9 := Lib.hid hin.2
              have hlen : (pre ++ e :: post).length = l7 := by have h1 := congrArg List.length HL0.out; have h2 := HL7.out; simp at h1 ⊢; omega
              have HO9 : Hid (EOwn w8 (some ⟨b7, o7, none⟩) c7 (pre ++ e :: post)) := by
                show Mem.Own _ _ _ _ _ _ _
                rw [hlen]
                exact HO9'.out
              have HB9 : Hid (Below w.heap.size w w8) := HB7.out.trans (HK8.out.below (fun q h => by rw [h]; exact HQ7.out b7 rfl) HB7.out.size)
              have HLN := Lib.hid hlen
              obtain ⟨K9, hK9⟩ : ∃ K9, pre ++ e :: post = K9 := ⟨_, rfl⟩
              rw [hK9] at HP9 HS9 HO9 HLN
              clear hin hlen hK9 HO9' HK8 HPO
              go_wp2
              go_roundw
              case rel => exact ⟨⟨k + 1, some ⟨b7, o7, none⟩, c7, K9, by omega, by have := HLN.out; omega, by rw [HLN.out], by go_num, HP9, HS9, HO9, HQ7, HB9⟩⟩
              case measure => simp [intOf]; omega
      · have hkd : (e.key.toList == key.toList) = false := str_ne hkey
        have HP2 := Lib.hid (vskip he.out hkey HP.out)
        clear hkey
        go_wp2
        go_roundw
        case rel => exact ⟨⟨k + 1, A5, c5, K, by omega, by omega, rfl, by go_num, HP2, HS, HO, HQ, HB⟩⟩
        case measure => simp [intOf]; omega
    · obtain rfl : k = es.length := by omega
      rw [List.take_length] at HP
      go_wp2
      go_ret
      exact ⟨A5, c5, K, rfl, HP.out, HS.out, HO.out, from_of HQ.out (own_form HO.out), HB.out⟩
end Go.Proofs.Ytfafehffnjbhnaa
end
section
/- The document's store: Keys. -/
set_option maxRecDepth 8000
namespace Go.Proofs.Ytfafehffnjbhnaa
open Go.ChangeShapes Go.WideShapes Go.ChangeAt Go.RowKit
set_option linter.unusedVariables false
set_option linter.unusedSimpArgs false
namespace Sto
open Vec
theorem less_eq : ∀ (x y : List UInt8), Op.bytesLess x y = decide (x < y)
  | [], [] => by simp [Op.bytesLess]
  | _ :: _, [] => by simp [Op.bytesLess]
  | [], _ :: _ => by simp [Op.bytesLess]
  | a :: x, b :: y => by
    rw [Op.bytesLess, less_eq x y]
    simp only [List.cons_lt_cons_iff]
    by_cases h1 : a < b <;> by_cases h2 : a = b <;> by_cases h3 : x < y <;> simp [h1, h2, h3]
theorem lessK (a b : ByteArray) : Op.bytesLess a.toList b.toList = decide (bB a < bB b) := by rw [less_eq, ByteArray.toList_eq, ByteArray.toList_eq]; rfl
theorem bB_inj {a b : ByteArray} (h : bB a = bB b) : a = b := by rw [← toB_bB a, ← toB_bB b, h]
theorem keys_ins {K : List ByteArray} {key : ByteArray} (j : Nat) (hs : K.Pairwise fun x y => bB x < bB y) (h1 : ∀ q ∈ K.take j, bB q < bB key) (h2 : ∀ q, K[j]? = some q → bB key < bB q) : (K.take j ++ key :: K.drop j).Pairwise fun x y => bB x < bB y := by
  have hs2 := hs
  rw [← List.take_append_drop j K, List.pairwise_append] at hs2
  have h3 : ∀ q ∈ K.drop j, bB key < bB q := by
    cases hd : K.drop j with
    | nil => intro q hq; cases hq
    | cons a l =>
      have ha : K[j]? = some a := by
        have h9 : (K.drop j)[0]? = some a := by rw [hd]; rfl
        rwa [List.getElem?_drop, Nat.add_zero] at h9
      have hka := h2 a ha
      have hp := hs2.2.1
      rw [hd, List.pairwise_cons] at hp
      intro q hq
      rcases List.mem_cons.1 hq with rfl | hq
      · exact hka
      · exact List.lt_trans hka (hp.1 q hq)
  rw [List.pairwise_append, List.pairwise_cons]
  exact ⟨hs2.1, ⟨h3, hs2.2.1⟩, fun x hx y hy => (List.mem_cons.1 hy).elim (fun e => by rw [e]; exact h1 x hx) (hs2.2.2 x hx y)⟩
theorem keys_mem {K : List ByteArray} {es : List Ent} {k : Nat} {e : Ent} (he : es[k]? = some e) (hm : ∀ q, q ∈ K ↔ ∃ x ∈ es.take k, x.key = q) (j : Nat) : ∀ q, q ∈ K.take j ++ e.key :: K.drop j ↔ ∃ x ∈ es.take (k + 1), x.key = q := fun q => by
  have h1 : q ∈ K.take j ++ e.key :: K.drop j ↔ q = e.key ∨ q ∈ K := by
    conv => rhs; rw [← List.take_append_drop j K]
    simp only [List.mem_append, List.mem_cons]
    constructor
    · rintro (h | h | h)
      · exact .inr (.inl h)
      · exact .inl h
      · exact .inr (.inr h)
    · rintro (h | h | h)
      · exact .inr (.inl h)
      · exact .inl h
      · exact .inr (.inr h)
  rw [h1, Mem.take_snoc he, hm]
  constructor
  · rintro (h | ⟨x, hx, h⟩)
    · exact ⟨e, by simp, h.symm⟩
    · exact ⟨x, List.mem_append_left _ hx, h⟩
  · rintro ⟨x, hx, h⟩
    rcases List.mem_append.1 hx with hx | hx
    · exact .inr ⟨x, hx, h⟩
    · rw [List.mem_singleton.1 hx] at h; exact .inl h.symm
theorem keys_skip {K : List ByteArray} {es : List Ent} {k : Nat} {e : Ent} (he : es[k]? = some e) (hm : ∀ q, q ∈ K ↔ ∃ x ∈ es.take k, x.key = q) (hq : e.key ∈ K) : ∀ q, q ∈ K ↔ ∃ x ∈ es.take (k + 1), x.key = q := fun q => by
  rw [hm, Mem.take_snoc he]
  constructor
  · rintro ⟨x, hx, h⟩
    exact ⟨x, List.mem_append_left _ hx, h⟩
  · rintro ⟨x, hx, h⟩
    rcases List.mem_append.1 hx with hx | hx
    · exact ⟨x, hx, h⟩
    · rw [List.mem_singleton.1 hx] at h; rw [h] at hq; exact (hm q).1 hq
theorem own_none {w : World} {e : TypeId} {sz n c : Nat} {xs : List Value} (h : Mem.Own w e sz none n c xs) : n = 0 ∧ c = 0 := by
  rcases h.2 with ⟨_, h1, h2⟩ | ⟨g, o, _, h0, _⟩
  · exact ⟨h1, h2⟩
  · cases h0
structure RkRel (w : World) (es : List Ent) (v3 v4 : Value) (wr : World) : Prop where
  out : ∃ (k n : Nat) (A : Option Addr) (c : Nat) (K : List ByteArray), k ≤ es.length ∧ n ≤ k ∧ v3 = .slice A n c ∧ v4 = .int .i64 k ∧ Hid (K.length = n) ∧ Hid (K.Pairwise fun x y => bB x < bB y) ∧ Hid (∀ q, q ∈ K ↔ ∃ x ∈ es.take k, x.key = q) ∧ Hid (Mem.Own wr 9 1 A n c (K.map Value.string)) ∧ Hid (∀ q, Mem.blk A = some q → w.heap.size ≤ q) ∧ Hid (Below w.heap.size w wr)
structure RjRel (wk : World) (K : List ByteArray) (n : Nat) (key : ByteArray) (v5 : Value) (wr : World) : Prop where
  out : ∃ j : Nat, j ≤ n ∧ v5 = .int .i64 j ∧ Hid (∀ q ∈ K.take j, bB q < bB key) ∧ Hid (Below wk.heap.size wk wr)
def RkEnd (w : World) (es : List Ent) (x : Ending) (w' : World) : Prop :=
  ∃ (A : Option Addr) (c : Nat) (K : List ByteArray), x = .returned (.slice A K.length c) ∧ K.Pairwise (fun x y => bB x < bB y) ∧ (∀ q, q ∈ K ↔ ∃ x ∈ es, x.key = q) ∧ Mem.Own w' 9 1 A K.length c (K.map Value.string) ∧ Mem.From w.heap.size A ∧ Below w.heap.size w w'
theorem str_len1 (K : List ByteArray) {n : Nat} (h : K.length = n) : (K.map Value.string).length = n * 1 := by simp [h]
theorem str_one1 (K : List ByteArray) : ∀ u ∈ K.map Value.string, u.oneCell' = true := fun u hu => by
  obtain ⟨s, _, rfl⟩ := List.mem_map.1 hu
  rfl
end Sto
open Vec Sto in
set_option maxRecDepth 20000 in
set_option maxHeartbeats 8000000 in
theorem refKeys_any (rng : Int) (mk : Vec.Col) (g : Nat) (A : Option Addr) (c : Nat) (es : List Vec.Ent) (w : World) (hA : Sto.RAt w g A c rng mk es) (hu : es.length ≤ 1000000) :
    Calls Try.prog 48 #[.pointer (some ⟨g, 0, none⟩)] w (Sto.RkEnd w es) := by
  have HA0 := Lib.hid hA
  clear hA
  go_enter Try.func48, Try.ntmps48
  go_wp2
  go_loopw [3, 4] (RkRel w es) (fun _ t _ => es.length - (intOf t).toNat)
  case atStart => exact ⟨⟨0, 0, none, 0, [], by omega, by omega, rfl, rfl, rfl, List.Pairwise.nil, fun q => by simp, Mem.Own.nil _ _ _, fun q h => by (cases h), Below.refl _ _⟩⟩
  case round =>
    obtain ⟨k, n, A5, c5, K, hk, hnk, rfl, rfl, HLK, HS, HM, HO, HQ, HB⟩ := hrel.out
    clear hrel
    have HAr := Lib.hid (HA0.out.below HB.out)
    have x1 := HAr.out.B.cell (j := 1) rfl
    by_cases hlt : k < es.length
    · obtain ⟨b, o, e, rfl, hb, hep, hat⟩ := ent_elem HAr.out.O.rd hlt
      have HAT := Lib.hid hat
      have he := Lib.hid hep
      clear hat hep HA0
      obtain ⟨wk, hwk⟩ : ∃ wk, wk = wr := ⟨_, rfl⟩
      subst hwk
      go_wp2
      clear x1
      go_loopw [5] (RjRel wk K n e.key) (fun t _ => n - (intOf t).toNat)
      case atStart => exact ⟨⟨0, by omega, rfl, fun q h => by simp at h, Below.refl _ _⟩⟩
      case round =>
        obtain ⟨j, hj, rfl, HJ, HBj⟩ := hrel.out
        clear hrel
        have HOj : Hid (Mem.Own wr 9 1 A5 n c5 (K.map Value.string)) := HO.out.below HBj.out (fun k hk => HO.out.lt hk)
        by_cases hlj : j < n
        · obtain ⟨b5, o5, hA5⟩ := HOj.out.form (by omega)
          subst hA5
          obtain ⟨q, hq⟩ : ∃ q, K[j]? = some q := ⟨_, List.getElem?_eq_getElem (by rw [HLK.out]; exact hlj)⟩
          have HAj := Lib.hid (HAr.out.below HBj.out)
          have x1 := HAj.out.B.cell (j := 1) rfl
          have x6 := (HAT.out.below HBj.out hb).c 6 _ rfl
          have xq := HOj.out.cell (j := j) (u := .string q) (by rw [List.getElem?_map, hq]; rfl)
          have HQK := Lib.hid hq
          have dj : decide (j < n) = true := by simp; omega
          clear hq
          by_cases hls : bB q < bB e.key
          · have hl2 : Op.bytesLess q.toList e.key.toList = true := by rw [lessK]; simpa using hls
            have HJ3 : Hid (∀ p ∈ K.take (j + 1), bB p < bB e.key) := fun p hp => by
              rw [Mem.take_snoc HQK.out] at hp
              rcases List.mem_append.1 hp with hp | hp
              · exact HJ.out p hp
              · rw [List.mem_singleton.1 hp]; exact hls
            clear hls
            go_wp2
            go_quiet (fail)
            clear x1 x6 xq dj hl2
            have HBq : Hid (Below wk.heap.size wk (wr.drewN nq)) := Mem.below_drewN HBj.out _
            obtain ⟨w6, hw6⟩ : ∃ z, wr.drewN nq = z := ⟨_, rfl⟩
            rw [hw6] at HBq ⊢
            clear hw6
            go_wp2
            go_roundw
            case rel => exact ⟨⟨j + 1, by omega, by go_num, HJ3, HBq⟩⟩
            case measure => simp [intOf]; omega
          · have hl2 : Op.bytesLess q.toList e.key.toList = false := by rw [lessK]; simpa using hls
            go_wp2
            go_quiet (fail)
            clear x1 x6 xq hl2 HAj
            have HBq : Hid (Below wk.heap.size wk (wr.drewN nq)) := Mem.below_drewN HBj.out _
            obtain ⟨w5, hw5⟩ : ∃ z, wr.drewN nq = z := ⟨_, rfl⟩
            rw [hw5] at HBq ⊢
            have HO5 : Hid (Mem.Own w5 9 1 (some ⟨b5, o5, none⟩) n c5 (K.map Value.string)) := HO.out.below HBq.out (fun k hk => HO.out.lt hk)
            have HA5 := Lib.hid (HAr.out.below HBq.out)
            have x1 := HA5.out.B.cell (j := 1) rfl
            have x6 := (HAT.out.below HBq.out hb).c 6 _ rfl
            have xq := HO5.out.cell (j := j) (u := .string q) (by rw [List.getElem?_map, HQK.out]; rfl)
            clear hw5 HOj HBj
            by_cases heq : q = e.key
            · have hkd : (q.toList == e.key.toList) = true := str_eq heq
              have HMM := Lib.hid (keys_skip he.out HM.out (heq ▸ List.mem_of_getElem? HQK.out))
              clear heq hls
              go_upto_region 8 with fail
              go_quiet (fail)
              clear x1 x6 xq hkd dj
              have HB7 : Hid (Below wk.heap.size wk (w5.drewN nq)) := Mem.below_drewN HBq.out _
              obtain ⟨w6, hw6⟩ : ∃ z, w5.drewN nq = z := ⟨_, rfl⟩
              rw [hw6] at HB7 ⊢
              clear hw6
              have HO6 : Hid (Mem.Own w6 9 1 (some ⟨b5, o5, none⟩) n c5 (K.map Value.string)) := HO.out.below HB7.out (fun k hk => HO.out.lt hk)
              have HB8 : Hid (Below w.heap.size w w6) := HB.out.trans (HB7.out.mono HB.out.size)
              go_wp2
              go_roundw
              case rel => exact ⟨⟨k + 1, n, some ⟨b5, o5, none⟩, c5, K, by omega, by omega, rfl, by go_num, HLK, HS, HMM, HO6, HQ, HB8⟩⟩
              case measure => simp [intOf]; omega
            · have hkd : (q.toList == e.key.toList) = false := str_ne heq
              have HJ2 : Hid (∀ p, K[j]? = some p → bB e.key < bB p) := fun p hp => by
                rw [HQK.out] at hp
                cases hp
                rcases List.le_iff_lt_or_eq.1 (List.not_lt.1 hls) with h | h
                · exact h
                · exact (heq (bB_inj h.symm)).elim
              clear heq hls
              go_upto_region 8 with fail
              go_quiet (fail)
              clear x1 x6 xq hkd dj HA5 HO5
              have HB6b : Hid (Below wk.heap.size wk (w5.drewN nq)) := Mem.below_drewN HBq.out _
              obtain ⟨w6, hw6⟩ : ∃ z, w5.drewN nq = z := ⟨_, rfl⟩
              rw [hw6] at HB6b ⊢
              clear hw6 HBq
              have HO6 : Hid (Mem.Own w6 9 1 (some ⟨b5, o5, none⟩) n c5 (K.map Value.string)) := HO.out.below HB6b.out (fun k hk => HO.out.lt hk)
              have HA6 := Lib.hid (HAr.out.below HB6b.out)
              have HAT6 := Lib.hid (HAT.out.below HB6b.out hb)
              have hnc := HO6.out.le
              have hcj : ¬ c5 = j := by omega
              clear HQK
              have HBX6 : Hid (Below w.heap.size w w6) := HB.out.trans (HB6b.out.mono HB.out.size)
              have HB6 : Hid (b < w6.heap.size) := Nat.lt_of_lt_of_le hb HB6b.out.size
              have HTK0 := (HO6.out.take (k := j) hj).rd
              rw [Nat.mul_one, ← List.map_take] at HTK0
              have HTK := Lib.hid HTK0
              have htl : Hid (((K.take j).map Value.string).length = j * 1) := by show _ = _; have := HLK.out; simp; omega
              have hto := Lib.hid (str_one1 (K.take j))
              have HDR0 := (HO6.out.drop (k := j) hj).rd
              rw [Nat.mul_one, ← List.map_drop] at HDR0
              obtain ⟨dn, hdn⟩ : ∃ dn, (K.drop j).map Value.string = dn := ⟨_, rfl⟩
              have hdl : Hid (dn.length = (n - j) * 1) := by show _ = _; rw [← hdn]; have := HLK.out; simp; omega
              have hdo : Hid (∀ u ∈ dn, u.oneCell' = true) := by rw [← hdn]; exact str_one1 (K.drop j)
              rw [hdn] at HDR0
              have HDR := Lib.hid HDR0
              have HTAIL := Lib.hid hdn
              clear HDR0 HTK0 hdn
              go_upto_region 11 with (at_builtin; refine Mem.wpList_app _ rfl (.tmp 56) (.tmp 59) _ rfl strs_elem none 0 0 [] rfl w6.heap.size (some ⟨b5, o5, none⟩) j c5 ((K.take j).map Value.string) rfl ?_ (Mem.Own.nil _ _ _) HTK.out htl.out hto.out (by unfold maxLen; omega) (by omega); intro A8 c8 w8 hown hgr hat; rw [Nat.zero_add] at hown; have HO8 := Lib.hid hown; have HG8 := Lib.hid hgr; have HT8 := Lib.hid hat; clear hown hgr hat)
              have HB8 : Hid (Below w6.heap.size w6 w8) := ((Mem.Keeps.refl (fun _ => False) w6).grown HG8.out (fun k hk _ => by cases hk)).belowAll
              have HA8 := Lib.hid (HA6.out.below HB8.out)
              have x1 := HA8.out.B.cell (j := 1) rfl
              have x6 := (HAT6.out.below HB8.out HB6.out).c 6 _ rfl
              have HF8 : Hid (∀ q, Mem.blk A8 = some q → w6.heap.size ≤ q) := fun q hq => by
                rcases HT8.out with h | h
                · rw [h] at hq; cases hq
                · rw [h] at hq; cases hq; exact Nat.le_refl _
              clear HG8 HT8
              go_upto_region 12 with (at_builtin; refine Mem.wpList_app _ rfl (.tmp 61) (.tmp 70) _ rfl strs_elem A8 j c8 _ rfl (w8.heap.size + 1) (some ⟨w8.heap.size, 0, none⟩) 1 1 [.string e.key] rfl ?_ (HO8.out.alloc _) (Mem.Rd.alloc_new _ _ _ _ (by simp)) rfl (by simp [Value.oneCell']) (by unfold maxLen; omega) (by omega); intro A9 c9 w9 hown hgr hat; have HO9 := Lib.hid hown; have HG9 := Lib.hid hgr; have HT9 := Lib.hid hat; clear hown hgr hat)
              have HK9 : Hid (Mem.Keeps (fun q => w6.heap.size ≤ q) w6 w9) := (((Mem.Keeps.of_below HB8.out).mono (T := fun q => w6.heap.size ≤ q) (fun _ h _ => h.elim)).alloc _).grown HG9.out (fun k hk _ => HF8.out k hk)
              have HF9 : Hid (∀ q, Mem.blk A9 = some q → w6.heap.size ≤ q) := fun q hq => by
                rcases HT9.out with h | h
                · rw [h] at hq; exact HF8.out q hq
                · rw [h] at hq; cases hq
                  have := HB8.out.size; simp; omega
              have HDR9 : Hid (Mem.Rd w9 w9.heap.size (some ⟨b5, o5 + j, none⟩) dn) := ((HDR.out.below (HK9.out.below (fun q h => h) (Nat.le_refl _))).more HK9.out.size)
              clear x1 x6 HG9 HT9 HO8 HF8 HB8 HA8
              go_wp2_with (at_builtin; refine Mem.wpList_app _ rfl (.tmp 72) (.tmp 75) _ rfl strs_elem A9 (j + 1) c9 _ rfl w9.heap.size (some ⟨b5, o5 + j, none⟩) (n - j) _ dn rfl ?_ HO9.out HDR9.out hdl.out hdo.out (by unfold maxLen; omega) (by omega); intro A10 c10 w10 hown hgr hat; have HO10 := Lib.hid hown; have HG10 := Lib.hid hgr; have HT10 := Lib.hid hat; clear hown hgr hat)
              have HK10 : Hid (Mem.Keeps (fun q => w6.heap.size ≤ q) w6 w10) := HK9.out.grown HG10.out (fun k hk _ => HF9.out k hk)
              have HF10 : Hid (∀ q, Mem.blk A10 = some q → w.heap.size ≤ q) := fun q hq => by
                have := HBX6.out.size
                rcases HT10.out with h | h
                · rw [h] at hq; have := HF9.out q hq; omega
                · rw [h] at hq; cases hq
                  have := HK9.out.size; simp; omega
              have HB10 : Hid (Below w.heap.size w w10) := HBX6.out.trans (HK10.out.below (fun q h => Nat.le_trans HBX6.out.size h) HBX6.out.size)
              have hlen : (K.take j ++ e.key :: K.drop j).length = j + 1 + (n - j) := by have := HLK.out; simp only [List.length_append, List.length_take, List.length_cons, List.length_drop]; omega
              have HLN := Lib.hid hlen
              have HO11 : Hid (Mem.Own w10 9 1 A10 (j + 1 + (n - j)) c10 ((K.take j ++ e.key :: K.drop j).map Value.string)) := by
                show Mem.Own _ _ _ _ _ _ _
                have h9 := HO10.out
                have e9 : (K.take j).map Value.string ++ [.string e.key] ++ dn = (K.take j ++ e.key :: K.drop j).map Value.string := by rw [List.map_append, List.map_cons, HTAIL.out]; simp
                simp only [List.nil_append] at h9
                rw [e9] at h9
                exact h9
              have HMM := Lib.hid (keys_mem he.out HM.out j)
              have HSS := Lib.hid (keys_ins j HS.out HJ.out HJ2.out)
              have hbnd : j + 1 + (n - j) ≤ k + 1 := by omega
              clear HO9 HO10 HK9 HG10 HT10 HF9 HDR9 HK10 hlen
              go_roundw
              case rel => exact ⟨⟨k + 1, j + 1 + (n - j), A10, c10, K.take j ++ e.key :: K.drop j, by omega, hbnd, by first | rfl | simp, by go_num, HLN, HSS, HMM, HO11, HF10, HB10⟩⟩
              case measure => simp [intOf]; omega
        · have dj : decide (j < n) = false := by simp; omega
          have HJ2 : Hid (∀ p, K[j]? = some p → bB e.key < bB p) := fun p hp => by
            have h1 := (List.getElem?_eq_some_iff.1 hp).1
            have h2 := HLK.out
            omega
          go_wp2
          go_quiet (fail)
          have HBq : Hid (Below wk.heap.size wk (wr.drewN nq)) := Mem.below_drewN HBj.out _
          obtain ⟨w5, hw5⟩ : ∃ z, wr.drewN nq = z := ⟨_, rfl⟩
          rw [hw5] at HBq ⊢
          clear hw5 HOj HBj
          go_upto_region 8 with fail
          go_quiet (fail)
          have HB6b : Hid (Below wk.heap.size wk (w5.drewN nq)) := Mem.below_drewN HBq.out _
          obtain ⟨w6, hw6⟩ : ∃ z, w5.drewN nq = z := ⟨_, rfl⟩
          rw [hw6] at HB6b ⊢
          clear hw6 HBq dj
          have HO6 : Hid (Mem.Own w6 9 1 A5 n c5 (K.map Value.string)) := HO.out.below HB6b.out (fun k hk => HO.out.lt hk)
          have HA6 := Lib.hid (HAr.out.below HB6b.out)
          have HAT6 := Lib.hid (HAT.out.below HB6b.out hb)
          have HBX6 : Hid (Below w.heap.size w w6) := HB.out.trans (HB6b.out.mono HB.out.size)
          have HB6 : Hid (b < w6.heap.size) := Nat.lt_of_lt_of_le hb HB6b.out.size
          rcases own_form HO6.out with hA0 | ⟨b5, o5, hA0⟩
          · subst hA0
            obtain ⟨h0, hc0⟩ := own_none HO6.out
            subst h0 hc0
            obtain rfl : j = 0 := by omega
            have hK0 : K = [] := List.eq_nil_of_length_eq_zero HLK.out
            subst hK0
            have HTK : Hid (Mem.Rd w6 w6.heap.size none ((([] : List ByteArray).take 0).map Value.string)) := .inl rfl
            have htl : Hid (((([] : List ByteArray).take 0).map Value.string).length = 0 * 1) := rfl
            have hto : Hid (∀ u ∈ (([] : List ByteArray).take 0).map Value.string, u.oneCell' = true) := fun u hu => by cases hu
            have HDR : Hid (Mem.Rd w6 w6.heap.size none []) := .inl rfl
            have hdl : Hid (([] : List Value).length = 0 * 1) := rfl
            have hdo : Hid (∀ u ∈ ([] : List Value), u.oneCell' = true) := fun u hu => by cases hu
            have HTAIL : Hid ((([] : List ByteArray).drop 0).map Value.string = []) := rfl
            obtain ⟨K, hK⟩ : ∃ K : List ByteArray, [] = K := ⟨_, rfl⟩
            rw [hK] at HTK htl hto HTAIL HLK HS HM HJ HJ2
            clear hK
            go_upto_region 11 with (at_builtin; refine Mem.wpList_app _ rfl (.tmp 56) (.tmp 59) _ rfl strs_elem none 0 0 [] rfl w6.heap.size none 0 0 ((K.take 0).map Value.string) rfl ?_ (Mem.Own.nil _ _ _) HTK.out htl.out hto.out (by unfold maxLen; omega) (by omega); intro A8 c8 w8 hown hgr hat; rw [Nat.zero_add] at hown; have HO8 := Lib.hid hown; have HG8 := Lib.hid hgr; have HT8 := Lib.hid hat; clear hown hgr hat)
            have HB8 : Hid (Below w6.heap.size w6 w8) := ((Mem.Keeps.refl (fun _ => False) w6).grown HG8.out (fun k hk _ => by cases hk)).belowAll
            have HA8 := Lib.hid (HA6.out.below HB8.out)
            have x1 := HA8.out.B.cell (j := 1) rfl
            have x6 := (HAT6.out.below HB8.out HB6.out).c 6 _ rfl
            have HF8 : Hid (∀ q, Mem.blk A8 = some q → w6.heap.size ≤ q) := fun q hq => by
              rcases HT8.out with h | h
              · rw [h] at hq; cases hq
              · rw [h] at hq; cases hq; exact Nat.le_refl _
            clear HG8 HT8
            go_upto_region 12 with (at_builtin; refine Mem.wpList_app _ rfl (.tmp 61) (.tmp 70) _ rfl strs_elem A8 0 c8 _ rfl (w8.heap.size + 1) (some ⟨w8.heap.size, 0, none⟩) 1 1 [.string e.key] rfl ?_ (HO8.out.alloc _) (Mem.Rd.alloc_new _ _ _ _ (by simp)) rfl (by simp [Value.oneCell']) (by unfold maxLen; omega) (by omega); intro A9 c9 w9 hown hgr hat; have HO9 := Lib.hid hown; have HG9 := Lib.hid hgr; have HT9 := Lib.hid hat; clear hown hgr hat)
            have HK9 : Hid (Mem.Keeps (fun q => w6.heap.size ≤ q) w6 w9) := (((Mem.Keeps.of_below HB8.out).mono (T := fun q => w6.heap.size ≤ q) (fun _ h _ => h.elim)).alloc _).grown HG9.out (fun k hk _ => HF8.out k hk)
            have HF9 : Hid (∀ q, Mem.blk A9 = some q → w6.heap.size ≤ q) := fun q hq => by
              rcases HT9.out with h | h
              · rw [h] at hq; exact HF8.out q hq
              · rw [h] at hq; cases hq
                have := HB8.out.size; simp; omega
            have HDR9 : Hid (Mem.Rd w9 w9.heap.size none ([]:List Value)) := ((HDR.out.below (HK9.out.below (fun q h => h) (Nat.le_refl _))).more HK9.out.size)
            clear x1 x6 HG9 HT9 HO8 HF8 HB8 HA8
            go_wp2_with (at_builtin; refine Mem.wpList_app _ rfl (.tmp 72) (.tmp 75) _ rfl strs_elem A9 (0 + 1) c9 _ rfl w9.heap.size none 0 0 ([]:List Value) rfl ?_ HO9.out HDR9.out hdl.out hdo.out (by unfold maxLen; omega) (by omega); intro A10 c10 w10 hown hgr hat; have HO10 := Lib.hid hown; have HG10 := Lib.hid hgr; have HT10 := Lib.hid hat; clear hown hgr hat)
            have HK10 : Hid (Mem.Keeps (fun q => w6.heap.size ≤ q) w6 w10) := HK9.out.grown HG10.out (fun k hk _ => HF9.out k hk)
            have HF10 : Hid (∀ q, Mem.blk A10 = some q → w.heap.size ≤ q) := fun q hq => by
              have := HBX6.out.size
              rcases HT10.out with h | h
              · rw [h] at hq; have := HF9.out q hq; omega
              · rw [h] at hq; cases hq
                have := HK9.out.size; simp; omega
            have HB10 : Hid (Below w.heap.size w w10) := HBX6.out.trans (HK10.out.below (fun q h => Nat.le_trans HBX6.out.size h) HBX6.out.size)
            have hlen : (K.take 0 ++ e.key :: K.drop 0).length = 0 + 1 + 0 := by have := HLK.out; simp only [List.length_append, List.length_take, List.length_cons, List.length_drop]; omega
            have HLN := Lib.hid hlen
            have HO11 : Hid (Mem.Own w10 9 1 A10 (0 + 1 + 0) c10 ((K.take 0 ++ e.key :: K.drop 0).map Value.string)) := by
              show Mem.Own _ _ _ _ _ _ _
              have h9 := HO10.out
              have e9 : (K.take 0).map Value.string ++ [.string e.key] ++ ([]:List Value) = (K.take 0 ++ e.key :: K.drop 0).map Value.string := by rw [List.map_append, List.map_cons, HTAIL.out]; simp
              simp only [List.nil_append] at h9
              rw [e9] at h9
              exact h9
            have HMM := Lib.hid (keys_mem he.out HM.out 0)
            have HSS := Lib.hid (keys_ins 0 HS.out HJ.out HJ2.out)
            have hbnd : 0 + 1 + 0 ≤ k + 1 := by omega
            clear HO9 HO10 HK9 HG10 HT10 HF9 HDR9 HK10 hlen
            go_roundw
            case rel => exact ⟨⟨k + 1, 0 + 1 + 0, A10, c10, K.take 0 ++ e.key :: K.drop 0, by omega, hbnd, by first | rfl | simp, by go_num, HLN, HSS, HMM, HO11, HF10, HB10⟩⟩
            case measure => simp [intOf]; omega
          · subst hA0
            have hnc := HO6.out.le
            by_cases hcj : c5 = j
            ·
              have HTK0 := (HO6.out.take (k := j) hj).rd
              rw [Nat.mul_one, ← List.map_take] at HTK0
              have HTK := Lib.hid HTK0
              have htl : Hid (((K.take j).map Value.string).length = j * 1) := by show _ = _; have := HLK.out; simp; omega
              have hto := Lib.hid (str_one1 (K.take j))
              subst hcj
              obtain rfl : n = c5 := by omega
              have HDR : Hid (Mem.Rd w6 w6.heap.size (some ⟨b5, o5, none⟩) []) := .inl rfl
              have hdl : Hid (([] : List Value).length = 0 * 1) := rfl
              have hdo : Hid (∀ u ∈ ([] : List Value), u.oneCell' = true) := fun u hu => by cases hu
              have HTAIL : Hid ((K.drop n).map Value.string = []) := by show _ = _; rw [List.drop_eq_nil_of_le (Nat.le_of_eq HLK.out)]; rfl
              clear HTK0
              go_upto_region 11 with (at_builtin; refine Mem.wpList_app _ rfl (.tmp 56) (.tmp 59) _ rfl strs_elem none 0 0 [] rfl w6.heap.size (some ⟨b5, o5, none⟩) n n ((K.take n).map Value.string) rfl ?_ (Mem.Own.nil _ _ _) HTK.out htl.out hto.out (by unfold maxLen; omega) (by omega); intro A8 c8 w8 hown hgr hat; rw [Nat.zero_add] at hown; have HO8 := Lib.hid hown; have HG8 := Lib.hid hgr; have HT8 := Lib.hid hat; clear hown hgr hat)
              have HB8 : Hid (Below w6.heap.size w6 w8) := ((Mem.Keeps.refl (fun _ => False) w6).grown HG8.out (fun k hk _ => by cases hk)).belowAll
              have HA8 := Lib.hid (HA6.out.below HB8.out)
              have x1 := HA8.out.B.cell (j := 1) rfl
              have x6 := (HAT6.out.below HB8.out HB6.out).c 6 _ rfl
              have HF8 : Hid (∀ q, Mem.blk A8 = some q → w6.heap.size ≤ q) := fun q hq => by
                rcases HT8.out with h | h
                · rw [h] at hq; cases hq
                · rw [h] at hq; cases hq; exact Nat.le_refl _
              clear HG8 HT8
              go_upto_region 12 with (at_builtin; refine Mem.wpList_app _ rfl (.tmp 61) (.tmp 70) _ rfl strs_elem A8 n c8 _ rfl (w8.heap.size + 1) (some ⟨w8.heap.size, 0, none⟩) 1 1 [.string e.key] rfl ?_ (HO8.out.alloc _) (Mem.Rd.alloc_new _ _ _ _ (by simp)) rfl (by simp [Value.oneCell']) (by unfold maxLen; omega) (by omega); intro A9 c9 w9 hown hgr hat; have HO9 := Lib.hid hown; have HG9 := Lib.hid hgr; have HT9 := Lib.hid hat; clear hown hgr hat)
              have HK9 : Hid (Mem.Keeps (fun q => w6.heap.size ≤ q) w6 w9) := (((Mem.Keeps.of_below HB8.out).mono (T := fun q => w6.heap.size ≤ q) (fun _ h _ => h.elim)).alloc _).grown HG9.out (fun k hk _ => HF8.out k hk)
              have HF9 : Hid (∀ q, Mem.blk A9 = some q → w6.heap.size ≤ q) := fun q hq => by
                rcases HT9.out with h | h
                · rw [h] at hq; exact HF8.out q hq
                · rw [h] at hq; cases hq
                  have := HB8.out.size; simp; omega
              have HDR9 : Hid (Mem.Rd w9 w9.heap.size (some ⟨b5, o5, none⟩) ([]:List Value)) := ((HDR.out.below (HK9.out.below (fun q h => h) (Nat.le_refl _))).more HK9.out.size)
              clear x1 x6 HG9 HT9 HO8 HF8 HB8 HA8
              go_wp2_with (at_builtin; refine Mem.wpList_app _ rfl (.tmp 72) (.tmp 75) _ rfl strs_elem A9 (n + 1) c9 _ rfl w9.heap.size (some ⟨b5, o5, none⟩) 0 _ ([]:List Value) rfl ?_ HO9.out HDR9.out hdl.out hdo.out (by unfold maxLen; omega) (by omega); intro A10 c10 w10 hown hgr hat; have HO10 := Lib.hid hown; have HG10 := Lib.hid hgr; have HT10 := Lib.hid hat; clear hown hgr hat)
              have HK10 : Hid (Mem.Keeps (fun q => w6.heap.size ≤ q) w6 w10) := HK9.out.grown HG10.out (fun k hk _ => HF9.out k hk)
              have HF10 : Hid (∀ q, Mem.blk A10 = some q → w.heap.size ≤ q) := fun q hq => by
                have := HBX6.out.size
                rcases HT10.out with h | h
                · rw [h] at hq; have := HF9.out q hq; omega
                · rw [h] at hq; cases hq
                  have := HK9.out.size; simp; omega
              have HB10 : Hid (Below w.heap.size w w10) := HBX6.out.trans (HK10.out.below (fun q h => Nat.le_trans HBX6.out.size h) HBX6.out.size)
              have hlen : (K.take n ++ e.key :: K.drop n).length = n + 1 + 0 := by have := HLK.out; simp only [List.length_append, List.length_take, List.length_cons, List.length_drop]; omega
              have HLN := Lib.hid hlen
              have HO11 : Hid (Mem.Own w10 9 1 A10 (n + 1 + 0) c10 ((K.take n ++ e.key :: K.drop n).map Value.string)) := by
                show Mem.Own _ _ _ _ _ _ _
                have h9 := HO10.out
                have e9 : (K.take n).map Value.string ++ [.string e.key] ++ ([]:List Value) = (K.take n ++ e.key :: K.drop n).map Value.string := by rw [List.map_append, List.map_cons, HTAIL.out]; simp
                simp only [List.nil_append] at h9
                rw [e9] at h9
                exact h9
              have HMM := Lib.hid (keys_mem he.out HM.out n)
              have HSS := Lib.hid (keys_ins n HS.out HJ.out HJ2.out)
              have hbnd : n + 1 + 0 ≤ k + 1 := by omega
              clear HO9 HO10 HK9 HG10 HT10 HF9 HDR9 HK10 hlen
              go_roundw
              case rel => exact ⟨⟨k + 1, n + 1 + 0, A10, c10, K.take n ++ e.key :: K.drop n, by omega, hbnd, by first | rfl | simp, by go_num, HLN, HSS, HMM, HO11, HF10, HB10⟩⟩
              case measure => simp [intOf]; omega
            ·
              have HTK0 := (HO6.out.take (k := j) hj).rd
              rw [Nat.mul_one, ← List.map_take] at HTK0
              have HTK := Lib.hid HTK0
              have htl : Hid (((K.take j).map Value.string).length = j * 1) := by show _ = _; have := HLK.out; simp; omega
              have hto := Lib.hid (str_one1 (K.take j))
              have HDR0 := (HO6.out.drop (k := j) hj).rd
              rw [Nat.mul_one, ← List.map_drop] at HDR0
              obtain ⟨dn, hdn⟩ : ∃ dn, (K.drop j).map Value.string = dn := ⟨_, rfl⟩
              have hdl : Hid (dn.length = (n - j) * 1) := by show _ = _; rw [← hdn]; have := HLK.out; simp; omega
              have hdo : Hid (∀ u ∈ dn, u.oneCell' = true) := by rw [← hdn]; exact str_one1 (K.drop j)
              rw [hdn] at HDR0
              have HDR := Lib.hid HDR0
              have HTAIL := Lib.hid hdn
              clear HDR0 HTK0 hdn
              go_upto_region 11 with (at_builtin; refine Mem.wpList_app _ rfl (.tmp 56) (.tmp 59) _ rfl strs_elem none 0 0 [] rfl w6.heap.size (some ⟨b5, o5, none⟩) j c5 ((K.take j).map Value.string) rfl ?_ (Mem.Own.nil _ _ _) HTK.out htl.out hto.out (by unfold maxLen; omega) (by omega); intro A8 c8 w8 hown hgr hat; rw [Nat.zero_add] at hown; have HO8 := Lib.hid hown; have HG8 := Lib.hid hgr; have HT8 := Lib.hid hat; clear hown hgr hat)
              have HB8 : Hid (Below w6.heap.size w6 w8) := ((Mem.Keeps.refl (fun _ => False) w6).grown HG8.out (fun k hk _ => by cases hk)).belowAll
              have HA8 := Lib.hid (HA6.out.below HB8.out)
              have x1 := HA8.out.B.cell (j := 1) rfl
              have x6 := (HAT6.out.below HB8.out HB6.out).c 6 _ rfl
              have HF8 : Hid (∀ q, Mem.blk A8 = some q → w6.heap.size ≤ q) := fun q hq => by
                rcases HT8.out with h | h
                · rw [h] at hq; cases hq
                · rw [h] at hq; cases hq; exact Nat.le_refl _
              clear HG8 HT8
              go_upto_region 12 with (at_builtin; refine Mem.wpList_app _ rfl (.tmp 61) (.tmp 70) _ rfl strs_elem A8 j c8 _ rfl (w8.heap.size + 1) (some ⟨w8.heap.size, 0, none⟩) 1 1 [.string e.key] rfl ?_ (HO8.out.alloc _) (Mem.Rd.alloc_new _ _ _ _ (by simp)) rfl (by simp [Value.oneCell']) (by unfold maxLen; omega) (by omega); intro A9 c9 w9 hown hgr hat; have HO9 := Lib.hid hown; have HG9 := Lib.hid hgr; have HT9 := Lib.hid hat; clear hown hgr hat)
              have HK9 : Hid (Mem.Keeps (fun q => w6.heap.size ≤ q) w6 w9) := (((Mem.Keeps.of_below HB8.out).mono (T := fun q => w6.heap.size ≤ q) (fun _ h _ => h.elim)).alloc _).grown HG9.out (fun k hk _ => HF8.out k hk)
              have HF9 : Hid (∀ q, Mem.blk A9 = some q → w6.heap.size ≤ q) := fun q hq => by
                rcases HT9.out with h | h
                · rw [h] at hq; exact HF8.out q hq
                · rw [h] at hq; cases hq
                  have := HB8.out.size; simp; omega
              have HDR9 : Hid (Mem.Rd w9 w9.heap.size (some ⟨b5, o5 + j, none⟩) dn) := ((HDR.out.below (HK9.out.below (fun q h => h) (Nat.le_refl _))).more HK9.out.size)
              clear x1 x6 HG9 HT9 HO8 HF8 HB8 HA8
              go_wp2_with (at_builtin; refine Mem.wpList_app _ rfl (.tmp 72) (.tmp 75) _ rfl strs_elem A9 (j + 1) c9 _ rfl w9.heap.size (some ⟨b5, o5 + j, none⟩) (n - j) _ dn rfl ?_ HO9.out HDR9.out hdl.out hdo.out (by unfold maxLen; omega) (by omega); intro A10 c10 w10 hown hgr hat; have HO10 := Lib.hid hown; have HG10 := Lib.hid hgr; have HT10 := Lib.hid hat; clear hown hgr hat)
              have HK10 : Hid (Mem.Keeps (fun q => w6.heap.size ≤ q) w6 w10) := HK9.out.grown HG10.out (fun k hk _ => HF9.out k hk)
              have HF10 : Hid (∀ q, Mem.blk A10 = some q → w.heap.size ≤ q) := fun q hq => by
                have := HBX6.out.size
                rcases HT10.out with h | h
                · rw [h] at hq; have := HF9.out q hq; omega
                · rw [h] at hq; cases hq
                  have := HK9.out.size; simp; omega
              have HB10 : Hid (Below w.heap.size w w10) := HBX6.out.trans (HK10.out.below (fun q h => Nat.le_trans HBX6.out.size h) HBX6.out.size)
              have hlen : (K.take j ++ e.key :: K.drop j).length = j + 1 + (n - j) := by have := HLK.out; simp only [List.length_append, List.length_take, List.length_cons, List.length_drop]; omega
              have HLN := Lib.hid hlen
              have HO11 : Hid (Mem.Own w10 9 1 A10 (j + 1 + (n - j)) c10 ((K.take j ++ e.key :: K.drop j).map Value.string)) := by
                show Mem.Own _ _ _ _ _ _ _
                have h9 := HO10.out
                have e9 : (K.take j).map Value.string ++ [.string e.key] ++ dn = (K.take j ++ e.key :: K.drop j).map Value.string := by rw [List.map_append, List.map_cons, HTAIL.out]; simp
                simp only [List.nil_append] at h9
                rw [e9] at h9
                exact h9
              have HMM := Lib.hid (keys_mem he.out HM.out j)
              have HSS := Lib.hid (keys_ins j HS.out HJ.out HJ2.out)
              have hbnd : j + 1 + (n - j) ≤ k + 1 := by omega
              clear HO9 HO10 HK9 HG10 HT10 HF9 HDR9 HK10 hlen
              go_roundw
              case rel => exact ⟨⟨k + 1, j + 1 + (n - j), A10, c10, K.take j ++ e.key :: K.drop j, by omega, hbnd, by first | rfl | simp, by go_num, HLN, HSS, HMM, HO11, HF10, HB10⟩⟩
              case measure => simp [intOf]; omega
    · obtain rfl : k = es.length := by omega
      rw [List.take_length] at HM
      go_wp2
      go_ret
      refine ⟨A5, c5, K, by rw [HLK.out]; rfl, HS.out, HM.out, ?_, from_of HQ.out (own_form HO.out), HB.out⟩
      rw [HLK.out]
      exact HO.out
end Go.Proofs.Ytfafehffnjbhnaa
end
section
/- The document's store: Collect. -/
set_option maxRecDepth 8000
namespace Go.Proofs.Ytfafehffnjbhnaa
open Go.ChangeShapes Go.WideShapes Go.ChangeAt Go.RowKit
set_option linter.unusedVariables false
set_option linter.unusedSimpArgs false
namespace Sto
open Vec
/-- what the document's collection keeps -/
def rKeep (mk : Col) (es : List Ent) (e : Ent) : Bool := !under mk e || eqEnt (greatest e.key mk false es).1 e
def rColl (mk : Col) (es : List Ent) : List Ent := es.filter (rKeep mk es)
theorem RAt.mark {w w' : World} {g : Nat} {A : Option Addr} {c : Nat} {rng : Int} {mk mk' : Col} {es : List Ent} (h : RAt w g A c rng mk es) (hB : Mem.Bx w' 64 5 g (rCells rng A es.length c mk')) (hk : Mem.Keeps (fun q => q = g) w w') : RAt w' g A c rng mk' es :=
  ⟨hB, h.O.keeps hk h.ne, h.ne⟩
structure RmRel (w : World) (g : Nat) (A : Option Addr) (c : Nat) (rng : Int) (mk cc : Col) (es : List Ent) (v5 : Value) (wr : World) : Prop where
  out : ∃ k : Nat, k ≤ 3 ∧ v5 = .int .i64 k ∧ Hid (RAt wr g A c rng (mkTo mk cc k) es) ∧ Hid (CBx wr w.heap.size cc) ∧ Hid (Mem.Keeps (fun q => q = g) w wr)
structure RcRel (w5 : World) (mk : Col) (es : List Ent) (v6 v7 : Value) (wr : World) : Prop where
  out : ∃ (k : Nat) (A : Option Addr) (c : Nat) (K : List Ent), k ≤ es.length ∧ K.length ≤ k ∧ v6 = .slice A K.length c ∧ v7 = .int .i64 k ∧ Hid ((es.take k).filter (rKeep mk es) = K) ∧ Hid (EOwn wr A c K) ∧ Hid (∀ q, Mem.blk A = some q → w5.heap.size ≤ q) ∧ Hid (Below w5.heap.size w5 wr)
def RcEnd (w : World) (g : Nat) (rng : Int) (mk : Col) (es : List Ent) (x : Ending) (w' : World) : Prop :=
  ∃ A c, x = .returned (.int .i64 ((es.length - (rColl mk es).length : Nat))) ∧ RAt w' g A c rng mk (rColl mk es) ∧ Mem.Keeps (fun q => q = g) w w' ∧ (∀ q, Mem.blk A = some q → w.heap.size ≤ q)
theorem filter_snoc1 {p : Ent → Bool} {es K : List Ent} {k : Nat} {e : Ent} (he : es[k]? = some e) (hP : (es.take k).filter p = K) {b : Bool} (hb : p e = b) : (es.take (k + 1)).filter p = if b = true then K ++ [e] else K := by
  rw [Mem.take_snoc he, List.filter_append, hP, List.filter_cons, hb]
  cases b <;> simp
end Sto
open Vec Sto in
set_option maxRecDepth 20000 in
set_option maxHeartbeats 8000000 in
theorem refCollect_any (rng : Int) (mk0 cc : Vec.Col) (g : Nat) (A : Option Addr) (c : Nat) (es : List Vec.Ent) (w : World) (hA : Sto.RAt w g A c rng mk0 es) (hu : es.length ≤ 1000000) (hdc : ∀ e ∈ es, 0 ≤ e.dc ∧ e.dc < 3) :
    Calls Try.prog 27 #[.pointer (some ⟨g, 0, none⟩), Vec.C cc] w (Sto.RcEnd w g rng (Sto.maxC mk0 cc) es) := by
  have HA0 := Lib.hid hA
  have HDC := Lib.hid hdc
  have hgw := hA.B.lt
  clear hA hdc
  go_enter Try.func27, Try.ntmps27
  go_upto_region 1 with fail
  refine Reg.wp_gen (fun w0 => CBx w0 w.heap.size cc ∧ Below w.heap.size w w0) ⟨?_, ?_⟩ ?_
  · exact Mem.Bx.new w 26 (colCells cc).toArray rfl rfl
  · exact Reg.below_new _ _
  rintro w0 ⟨hC0, hb0⟩
  have HC0 := Lib.hid hC0
  have HB0 := Lib.hid hb0
  clear hC0 hb0
  go_wp2
  go_loopw [5] (RmRel w g A c rng mk0 cc es) (fun t _ => 3 - (intOf t).toNat)
  case atStart => exact ⟨⟨0, by omega, rfl, HA0.out.below HB0.out, HC0, (Mem.Keeps.of_below HB0.out).mono (fun _ h _ => h.elim)⟩⟩
  case round =>
    obtain ⟨d, hd, rfl, HA, HC, HK⟩ := hrel.out
    clear hrel HC0 HA0 HB0
    obtain ⟨mk, hmk⟩ : ∃ mk, mk = mk0 := ⟨_, rfl⟩
    subst hmk
    have hc : d = 0 ∨ d = 1 ∨ d = 2 ∨ d = 3 := by omega
    rcases hc with rfl | rfl | rfl | rfl
    ·
      have y0 := HA.out.B.cell (j := 2) rfl
      have f1 := HA.out.B.fr 2
      have c0 := HC.out.cell (j := 0) rfl
      have hmx : ∀ ts t W, (Builtin.max_ ts t #[.int .i64 mk.a, .int .i64 cc.a]).run Try.prog W = .ok (.int .i64 (max mk.a cc.a)) W := fun ts t W => run_max2 ts t W _ _
      go_upto_region 4 with fail
      refine Reg.still_tail 15 (by kernel_rfl) (by kernel_rfl) ?_
      intro w5 hw5
      simp only [List.take_succ_cons, List.take_zero, List.drop_succ_cons, List.drop_zero]
      have y0' : w5.cell? ⟨g, 2, none⟩ = some (.int .i64 mk.a) := by rw [hw5]; exact y0
      have f1' : w5.frozen? ⟨g, 2, none⟩ = false := by rw [hw5]; exact f1
      have c0' : w5.cell? ⟨w.heap.size, 0, none⟩ = some (.int .i64 cc.a) := by rw [hw5]; exact c0
      have HK5 : Hid (Mem.Keeps (fun _ => False) wr w5) := by show Mem.Keeps _ _ _; rw [hw5]; exact (Mem.Keeps.refl _ wr).drew
      clear hw5 y0 f1 c0
      repeat still_step
      refine wpStill_nil ?_
      go_wp2
      go_roundw
      case rel =>
        have hk6 : Mem.Keeps (fun q => q = g) w5 (w5.setCell ⟨g, 2, none⟩ (.int .i64 (max mk.a cc.a))) := (Mem.Keeps.refl (fun q => q = g) w5).setCell (p := ⟨g, 2, none⟩) (fun _ => rfl) _
        have hk7 := ((HK5.out.mono (T := fun q => q = g) (fun _ h _ => h.elim)).trans hk6 (fun _ h _ => h))
        refine ⟨⟨0 + 1, by omega, rfl, HA.out.mark ((HA.out.B.keeps HK5.out id).set 2 (.int .i64 (max mk.a cc.a))) hk7, HC.out.keeps hk7 (by omega), HK.out.trans hk7 (fun _ h _ => h)⟩⟩
      case measure => simp [intOf]
    ·
      have y0 := HA.out.B.cell (j := 3) rfl
      have f1 := HA.out.B.fr 3
      have c0 := HC.out.cell (j := 1) rfl
      have hmx : ∀ ts t W, (Builtin.max_ ts t #[.int .i64 mk.b, .int .i64 cc.b]).run Try.prog W = .ok (.int .i64 (max mk.b cc.b)) W := fun ts t W => run_max2 ts t W _ _
      go_upto_region 4 with fail
      refine Reg.still_tail 15 (by kernel_rfl) (by kernel_rfl) ?_
      intro w5 hw5
      simp only [List.take_succ_cons, List.take_zero, List.drop_succ_cons, List.drop_zero]
      have y0' : w5.cell? ⟨g, 3, none⟩ = some (.int .i64 mk.b) := by rw [hw5]; exact y0
      have f1' : w5.frozen? ⟨g, 3, none⟩ = false := by rw [hw5]; exact f1
      have c0' : w5.cell? ⟨w.heap.size, 1, none⟩ = some (.int .i64 cc.b) := by rw [hw5]; exact c0
      have HK5 : Hid (Mem.Keeps (fun _ => False) wr w5) := by show Mem.Keeps _ _ _; rw [hw5]; exact (Mem.Keeps.refl _ wr).drew
      clear hw5 y0 f1 c0
      repeat still_step
      refine wpStill_nil ?_
      go_wp2
      go_roundw
      case rel =>
        have hk6 : Mem.Keeps (fun q => q = g) w5 (w5.setCell ⟨g, 3, none⟩ (.int .i64 (max mk.b cc.b))) := (Mem.Keeps.refl (fun q => q = g) w5).setCell (p := ⟨g, 3, none⟩) (fun _ => rfl) _
        have hk7 := ((HK5.out.mono (T := fun q => q = g) (fun _ h _ => h.elim)).trans hk6 (fun _ h _ => h))
        refine ⟨⟨1 + 1, by omega, rfl, HA.out.mark ((HA.out.B.keeps HK5.out id).set 3 (.int .i64 (max mk.b cc.b))) hk7, HC.out.keeps hk7 (by omega), HK.out.trans hk7 (fun _ h _ => h)⟩⟩
      case measure => simp [intOf]
    ·
      have y0 := HA.out.B.cell (j := 4) rfl
      have f1 := HA.out.B.fr 4
      have c0 := HC.out.cell (j := 2) rfl
      have hmx : ∀ ts t W, (Builtin.max_ ts t #[.int .i64 mk.c, .int .i64 cc.c]).run Try.prog W = .ok (.int .i64 (max mk.c cc.c)) W := fun ts t W => run_max2 ts t W _ _
      go_upto_region 4 with fail
      refine Reg.still_tail 15 (by kernel_rfl) (by kernel_rfl) ?_
      intro w5 hw5
      simp only [List.take_succ_cons, List.take_zero, List.drop_succ_cons, List.drop_zero]
      have y0' : w5.cell? ⟨g, 4, none⟩ = some (.int .i64 mk.c) := by rw [hw5]; exact y0
      have f1' : w5.frozen? ⟨g, 4, none⟩ = false := by rw [hw5]; exact f1
      have c0' : w5.cell? ⟨w.heap.size, 2, none⟩ = some (.int .i64 cc.c) := by rw [hw5]; exact c0
      have HK5 : Hid (Mem.Keeps (fun _ => False) wr w5) := by show Mem.Keeps _ _ _; rw [hw5]; exact (Mem.Keeps.refl _ wr).drew
      clear hw5 y0 f1 c0
      repeat still_step
      refine wpStill_nil ?_
      go_wp2
      go_roundw
      case rel =>
        have hk6 : Mem.Keeps (fun q => q = g) w5 (w5.setCell ⟨g, 4, none⟩ (.int .i64 (max mk.c cc.c))) := (Mem.Keeps.refl (fun q => q = g) w5).setCell (p := ⟨g, 4, none⟩) (fun _ => rfl) _
        have hk7 := ((HK5.out.mono (T := fun q => q = g) (fun _ h _ => h.elim)).trans hk6 (fun _ h _ => h))
        refine ⟨⟨2 + 1, by omega, rfl, HA.out.mark ((HA.out.B.keeps HK5.out id).set 4 (.int .i64 (max mk.c cc.c))) hk7, HC.out.keeps hk7 (by omega), HK.out.trans hk7 (fun _ h _ => h)⟩⟩
      case measure => simp [intOf]
    · have HA5 : Hid (RAt wr g A c rng (maxC mk cc) es) := HA.out
      obtain ⟨mkn, hmkn⟩ : ∃ m, maxC mk cc = m := ⟨_, rfl⟩
      rw [hmkn] at HA5 ⊢
      obtain ⟨w5, hw5⟩ : ∃ z, z = wr := ⟨_, rfl⟩
      subst hw5
      have HMK := Lib.hid hmkn
      clear HA HC hd hmkn
      obtain ⟨mk2, hmk2⟩ : ∃ mk2, mk2 = mkn := ⟨_, rfl⟩
      subst hmk2
      go_wp2
      go_loopw [6, 7] (RcRel w5 mk2 es) (fun _ t _ => es.length - (intOf t).toNat)
      case atStart => exact ⟨⟨0, none, 0, [], by omega, by simp, rfl, rfl, rfl, Mem.Own.nil _ _ _, fun q h => by (cases h), Below.refl _ _⟩⟩
      case round =>
        obtain ⟨k, A6, c6, K, hk, hKk, rfl, rfl, HP, HO, HQ, HB⟩ := hrel.out
        clear hrel
        have HAr := Lib.hid (HA5.out.below HB.out)
        have x1 := HAr.out.B.cell (j := 1) rfl
        by_cases hlt : k < es.length
        · obtain ⟨b, o, e, rfl, hb, hep, hat⟩ := ent_elem HAr.out.O.rd hlt
          have he := Lib.hid hep
          have HAT := Lib.hid hat
          have HDE := Lib.hid (HDC.out e (List.mem_of_getElem? hep))
          clear hat hep
          go_upto_region 10 with (first | ((with_reducible refine Mem.load_agg _ _ entry_agg b (o + k * 20) (entCells e) ?hx (entCells_length e) HAT.out.c ?_); case hx => exact rfl) | ((with_reducible refine Mem.store_agg _ _ entry_agg wr.heap.size (entCells ent0) (entCells e) ?hxa ?hya ?hba (entCells_length e) (ent_one e) ?_); ((case hxa => exact rfl); (case hya => exact rfl); (case hba => exact Mem.Bx.new wr _ (entCells ent0).toArray rfl rfl); intro w6 hb2 hk2 hs2)))
          have HE6 : Hid (EBx w6 wr.heap.size e) := hb2
          have HB6 : Hid (Below wr.heap.size wr w6) := (hk2.newBox rfl).belowAll
          have HA6 := Lib.hid (HAr.out.below HB6.out)
          have HO6 : Hid (EOwn w6 A6 c6 K) := HO.out.below HB6.out (fun k hk => HO.out.lt hk)
          have HBX6 : Hid (Below w5.heap.size w5 w6) := HB.out.trans (HB6.out.mono HB.out.size)
          obtain ⟨ge, hge⟩ : ∃ ge, wr.heap.size = ge := ⟨_, rfl⟩
          rw [hge] at HE6 ⊢
          obtain ⟨gr, hgr⟩ : ∃ gr, greatest e.key mk2 false es = gr := ⟨_, rfl⟩
          have HGR := Lib.hid hgr
          clear hb2 hk2 hs2 HAT hge HAr HO HB HB6 x1 hgr
          refine Reg.wp_region_z (by kernel_rfl) 90 17 rfl rfl (by kernel_rfl) 90 91 (by decide) (15) (fun y => w6.heap.size ≤ y) (0) (fun _ => False) (0) (fun _ => False)
            (fun i f v u => match i with
              | 0 => v = .pointer (some ⟨g, 0, none⟩)
              | 1 => v = .pointer (some ⟨g, 0, none⟩)
              | 2 => v = .pointer (some ⟨g, 1, none⟩)
              | 3 => v = .slice (some ⟨b, o, none⟩) es.length c
              | 4 => v = .pointer (some ⟨ge, 6, none⟩)
              | 5 => v = .string e.key
              | 6 => v = .pointer (some ⟨g, 0, none⟩)
              | 7 => v = .pointer (some ⟨g, 0, none⟩)
              | 8 => v = .pointer (some ⟨g, 2, none⟩)
              | 9 => v = Vec.C mk2
              | 10 => v = .tuple #[Vec.E gr.1, .bool gr.2]
              | 11 => v = .tuple #[Vec.E gr.1, .bool gr.2]
              | 12 => v = Vec.E gr.1
              | 13 => v = .bool gr.2
              | 14 => ∃ s, v = .pointer (some ⟨s, 0, none⟩) ∧ w6.heap.size ≤ s ∧ EBx u s ent0
              | 15 => ∃ s, f 9 = .pointer (some ⟨s, 0, none⟩) ∧ w6.heap.size ≤ s ∧ EBx u s gr.1
              | 16 => v = .bool gr.2
              | _ => True) ?_ ?_
          · refine Reg.StepsZ.cons ?_ (Reg.StepsZ.cons ?_ (Reg.StepsZ.cons ?_ (Reg.StepsZ.cons ?_ (Reg.StepsZ.cons ?_ (Reg.StepsZ.cons ?_ (Reg.StepsZ.cons ?_ (Reg.StepsZ.cons ?_ (Reg.StepsZ.cons ?_ (Reg.StepsZ.cons ?_ (Reg.StepsZ.cons ?_ (Reg.StepsZ.cons ?_ (Reg.StepsZ.cons ?_ (Reg.StepsZ.cons ?_ (Reg.StepsZ.cons ?_ (Reg.StepsZ.cons ?_ (Reg.StepsZ.cons ?_ (Reg.StepsZ.nil _)))))))))))))))))
            · intro val ac u hR hp hpq ha K hK0
              have hK := fun v w' h1 h2 => hK0 v w' h1 h2 (fun j f v' h _ => by omega); have e0 : (ac.tmps[0]?).getD undef = .pointer (some ⟨g, 0, none⟩) := ha 0 (by decide); clear ha hp
              refine Reg.Op1.plain rfl ?_
              go_wp2
              exact ⟨rfl, hK _ _ rfl (Reg.Wr.same _)⟩
            · intro val ac u hR hp hpq ha K hK0
              have hK := fun v w' h1 h2 => hK0 v w' h1 h2 (fun j f v' h _ => by omega); obtain ⟨w48, h48, r48⟩ := hp 0 (by decide); have e48 : (ac.tmps[48]?).getD undef = .pointer (some ⟨g, 0, none⟩) := (ha 48 (by decide)).trans h48; clear h48 ha hp
              refine Reg.Op1.plain rfl ?_
              go_wp2
              exact ⟨rfl, hK _ _ rfl (Reg.Wr.same _)⟩
            · intro val ac u hR hp hpq ha K hK0
              have hK := fun v w' h1 h2 => hK0 v w' h1 h2 (fun j f v' h _ => by omega); obtain ⟨w49, h49, r49⟩ := hp 1 (by decide); have e49 : (ac.tmps[49]?).getD undef = .pointer (some ⟨g, 0, none⟩) := (ha 49 (by decide)).trans h49; clear h49 ha hp
              refine Reg.Op1.plain rfl ?_
              go_wp2
              exact ⟨rfl, hK _ _ rfl (Reg.Wr.same _)⟩
            · intro val ac u hR hp hpq ha K hK0
              have hK := fun v w' h1 h2 => hK0 v w' h1 h2 (fun j f v' h _ => by omega); obtain ⟨w50, h50, r50⟩ := hp 2 (by decide); have e50 : (ac.tmps[50]?).getD undef = .pointer (some ⟨g, 1, none⟩) := (ha 50 (by decide)).trans h50; clear h50 ha hp
              refine Reg.Op1.plain rfl ?_
              have hq : Mem.Keeps (fun y => w6.heap.size ≤ y ∨ False ∨ False) w6 u := (Mem.Keeps.refl (fun y => w6.heap.size ≤ y ∨ False ∨ False) w6).drew.trans (Reg.Wr.all hR) (fun _ h _ => h)
              have z0 := (HA6.out.B.keeps hq (fun h => by have := HA6.out.B.lt; rcases h with h | h | h <;> first | omega | exact h)).cell (j := 1) rfl
              go_wp2
              exact ⟨rfl, hK _ _ rfl (Reg.Wr.same _)⟩
            · intro val ac u hR hp hpq ha K hK0
              have hK := fun v w' h1 h2 => hK0 v w' h1 h2 (fun j f v' h _ => by omega); have e8 : (ac.tmps[8]?).getD undef = .pointer (some ⟨ge, 0, none⟩) := ha 8 (by decide); clear ha hp
              refine Reg.Op1.plain rfl ?_
              go_wp2
              exact ⟨rfl, hK _ _ rfl (Reg.Wr.same _)⟩
            · intro val ac u hR hp hpq ha K hK0
              have hK := fun v w' h1 h2 => hK0 v w' h1 h2 (fun j f v' h _ => by omega); obtain ⟨w52, h52, r52⟩ := hp 4 (by decide); have e52 : (ac.tmps[52]?).getD undef = .pointer (some ⟨ge, 6, none⟩) := (ha 52 (by decide)).trans h52; clear h52 ha hp
              refine Reg.Op1.plain rfl ?_
              have hq : Mem.Keeps (fun y => w6.heap.size ≤ y ∨ False ∨ False) w6 u := (Mem.Keeps.refl (fun y => w6.heap.size ≤ y ∨ False ∨ False) w6).drew.trans (Reg.Wr.all hR) (fun _ h _ => h)
              have z0 := (HE6.out.keeps hq (fun h => by have := HE6.out.lt; rcases h with h | h | h <;> first | omega | exact h)).cell (j := 6) rfl
              go_wp2
              exact ⟨rfl, hK _ _ rfl (Reg.Wr.same _)⟩
            · intro val ac u hR hp hpq ha K hK0
              have hK := fun v w' h1 h2 => hK0 v w' h1 h2 (fun j f v' h _ => by omega); have e0 : (ac.tmps[0]?).getD undef = .pointer (some ⟨g, 0, none⟩) := ha 0 (by decide); clear ha hp
              refine Reg.Op1.plain rfl ?_
              go_wp2
              exact ⟨rfl, hK _ _ rfl (Reg.Wr.same _)⟩
            · intro val ac u hR hp hpq ha K hK0
              have hK := fun v w' h1 h2 => hK0 v w' h1 h2 (fun j f v' h _ => by omega); obtain ⟨w54, h54, r54⟩ := hp 6 (by decide); have e54 : (ac.tmps[54]?).getD undef = .pointer (some ⟨g, 0, none⟩) := (ha 54 (by decide)).trans h54; clear h54 ha hp
              refine Reg.Op1.plain rfl ?_
              go_wp2
              exact ⟨rfl, hK _ _ rfl (Reg.Wr.same _)⟩
            · intro val ac u hR hp hpq ha K hK0
              have hK := fun v w' h1 h2 => hK0 v w' h1 h2 (fun j f v' h _ => by omega); obtain ⟨w55, h55, r55⟩ := hp 7 (by decide); have e55 : (ac.tmps[55]?).getD undef = .pointer (some ⟨g, 0, none⟩) := (ha 55 (by decide)).trans h55; clear h55 ha hp
              refine Reg.Op1.plain rfl ?_
              go_wp2
              exact ⟨rfl, hK _ _ rfl (Reg.Wr.same _)⟩
            · intro val ac u hR hp hpq ha K hK0
              have hK := fun v w' h1 h2 => hK0 v w' h1 h2 (fun j f v' h _ => by omega); obtain ⟨w56, h56, r56⟩ := hp 8 (by decide); have e56 : (ac.tmps[56]?).getD undef = .pointer (some ⟨g, 2, none⟩) := (ha 56 (by decide)).trans h56; clear h56 ha hp
              refine Reg.Op1.plain rfl ?_
              have hq : Mem.Keeps (fun y => w6.heap.size ≤ y ∨ False ∨ False) w6 u := (Mem.Keeps.refl (fun y => w6.heap.size ≤ y ∨ False ∨ False) w6).drew.trans (Reg.Wr.all hR) (fun _ h _ => h)
              have hBu := (HA6.out.B.keeps hq (fun h => by have := HA6.out.B.lt; rcases h with h | h | h <;> first | omega | exact h))
              refine Mem.load_agg _ _ col_agg g 2 (colCells mk2) (Reg.eval_of e56) (Sto.colCells_length _) (hBu.part 2 rfl) ?_
              exact ⟨rfl, hK _ _ rfl (Reg.Wr.same _)⟩
            · intro val ac u hR hp hpq ha K hK0
              have hK := fun v w' h1 h2 => hK0 v w' h1 h2 (fun j f v' h _ => by omega); obtain ⟨w51, h51, r51⟩ := hp 3 (by decide); have e51 : (ac.tmps[51]?).getD undef = .slice (some ⟨b, o, none⟩) es.length c := (ha 51 (by decide)).trans h51; obtain ⟨w53, h53, r53⟩ := hp 5 (by decide); have e53 : (ac.tmps[53]?).getD undef = .string e.key := (ha 53 (by decide)).trans h53; obtain ⟨w57, h57, r57⟩ := hp 9 (by decide); have e57 : (ac.tmps[57]?).getD undef = Vec.C mk2 := (ha 57 (by decide)).trans h57; clear h51 h53 h57 ha hp
              refine Reg.Op1.plain rfl ?_
              have hq : Mem.Keeps (fun _ => False ∨ False) w6 u := (Mem.Keeps.refl (fun _ => False ∨ False) w6).drew.trans (Reg.Wr.not1 hR (by decide +kernel)) (fun _ h _ => h)
              have hO := (HA6.out.keeps hq (fun _ _ h => h.elim id id)).O
              go_wp2_with fail
              refine (refGreatest_all e.key mk2 (some ⟨b, o, none⟩) c es u hO.rd (by unfold maxLen; omega) HDC.out false).mono ?_
              rintro x9 w' ⟨rfl, hbw9⟩
              rw [HGR.out]
              go_wp2_with fail
              exact ⟨rfl, hK _ _ rfl (Reg.Wr.below hbw9)⟩
            · intro val ac u hR hp hpq ha K hK0
              have hK := fun v w' h1 h2 => hK0 v w' h1 h2 (fun j f v' h _ => by omega); obtain ⟨w58, h58, r58⟩ := hp 10 (by decide); have e58 : (ac.tmps[58]?).getD undef = .tuple #[Vec.E gr.1, .bool gr.2] := (ha 58 (by decide)).trans h58; clear h58 ha hp
              refine Reg.Op1.plain rfl ?_
              go_wp2
              exact ⟨rfl, hK _ _ rfl (Reg.Wr.same _)⟩
            · intro val ac u hR hp hpq ha K hK0
              have hK := fun v w' h1 h2 => hK0 v w' h1 h2 (fun j f v' h _ => by omega); obtain ⟨w47, h47, r47⟩ := hp 11 (by decide); have e47 : (ac.tmps[47]?).getD undef = .tuple #[Vec.E gr.1, .bool gr.2] := (ha 47 (by decide)).trans h47; clear h47 ha hp
              refine Reg.Op1.plain rfl ?_
              go_wp2
              exact ⟨rfl, hK _ _ rfl (Reg.Wr.same _)⟩
            · intro val ac u hR hp hpq ha K hK0
              have hK := fun v w' h1 h2 => hK0 v w' h1 h2 (fun j f v' h _ => by omega); obtain ⟨w47, h47, r47⟩ := hp 11 (by decide); have e47 : (ac.tmps[47]?).getD undef = .tuple #[Vec.E gr.1, .bool gr.2] := (ha 47 (by decide)).trans h47; clear h47 ha hp
              refine Reg.Op1.plain rfl ?_
              go_wp2
              exact ⟨rfl, hK _ _ rfl (Reg.Wr.same _)⟩
            · intro val ac u hR hp hpq ha K hK0
              have hK := fun v w' h1 h2 => hK0 v w' h1 h2 (fun j f v' h _ => by omega); clear ha hp
              refine Reg.Op1.plain rfl ?_
              have hbu : w6.heap.size ≤ u.heap.size := (Reg.Wr.all hR).size
              go_wp2
              exact ⟨rfl, hK _ _ ⟨u.heap.size, rfl, hbu, Mem.Bx.new u 40 (entCells ent0).toArray rfl rfl⟩ (Reg.Wr.quiet ((Mem.Keeps.refl _ u).alloc _))⟩
            · intro val ac u hR hp hpq ha K hK0
              have hK := fun v w' h1 h2 => hK0 v w' h1 h2 (fun j f v' h _ => by omega); obtain ⟨w9, h9, r9⟩ := hp 14 (by decide); have e9 : (ac.tmps[9]?).getD undef = val 14 := ha 9 (by decide); obtain ⟨w59, h59, r59⟩ := hp 12 (by decide); have e59 : (ac.tmps[59]?).getD undef = Vec.E gr.1 := (ha 59 (by decide)).trans h59; clear h59 ha hp
              refine Reg.Op1.plain rfl ?_
              obtain ⟨s, hv, hs, hbx⟩ := h9
              have hv7 := hv
              rw [hv] at e9
              have hbx' : EBx u s ent0 := hbx.keeps (Reg.Wr.not1 r9 (by decide +kernel)) (fun h => h.elim id id)
              refine Mem.store_agg _ _ entry_agg s (entCells ent0) (entCells gr.1) (Reg.eval_of e9) (Reg.eval_of e59) hbx' (entCells_length _) (ent_one _) ?_
              intro w' hb hk hs'
              exact ⟨rfl, hK undef _ ⟨s, hv7, hs, hb⟩ (Reg.Wr.does1 (hk.mono (fun i h _ => by show w6.heap.size ≤ i; omega)))⟩
            · intro val ac u hR hp hpq ha K hK0
              have hK := fun v w' h1 h2 => hK0 v w' h1 h2 (fun j f v' h _ => by omega); obtain ⟨w60, h60, r60⟩ := hp 13 (by decide); have e60 : (ac.tmps[60]?).getD undef = .bool gr.2 := (ha 60 (by decide)).trans h60; clear h60 ha hp
              refine Reg.Op1.plain rfl ?_
              go_wp2
              exact ⟨rfl, hK _ _ rfl (Reg.Wr.same _)⟩
          intro val u hR H hZ
          obtain ⟨_, hva, _⟩ := H 16 (by decide)
          have hva : val 16 = .bool gr.2 := hva
          obtain ⟨wA, ⟨s, hv7, hs, hb⟩, rA⟩ := H 15 (by decide)
          have hv7 : val 14 = .pointer (some ⟨s, 0, none⟩) := hv7
          have hq : Mem.Keeps (fun y => w6.heap.size ≤ y ∨ False ∨ False) w6 u := (Mem.Keeps.refl (fun y => w6.heap.size ≤ y ∨ False ∨ False) w6).drew.trans (Reg.Wr.all hR) (fun _ h _ => h)
          have HBu : Hid (Below w6.heap.size w6 u) := hq.below (fun y h => by rcases h with h | h | h <;> first | exact h | exact h.elim) (Nat.le_refl _)
          have HS7 : Hid (EBx u s gr.1) := hb.keeps (Reg.Wr.not1 rA (by decide +kernel)) (fun h => h.elim id id)
          simp only [List.map_cons, List.map_nil, Reg.lay, Act.put, List.setIfInBounds_toArray, List.set_cons_succ, List.set_cons_zero, Nat.reduceAdd, hva, hv7]
          clear hR H hZ hq hb rA hv7 hva
          obtain ⟨w7, hw7⟩ : ∃ z, z = u := ⟨_, rfl⟩
          subst hw7
          obtain ⟨gs, hgs⟩ : ∃ z, z = s := ⟨_, rfl⟩
          subst hgs
          have HA7 := Lib.hid (HA6.out.below HBu.out)
          have HE7 : Hid (EBx w7 ge e) := HE6.out.below HBu.out HE6.out.lt
          have HO7 : Hid (EOwn w7 A6 c6 K) := HO6.out.below HBu.out (fun k hk => HO6.out.lt hk)
          have HB7 : Hid (Below w5.heap.size w5 w7) := HBX6.out.trans (HBu.out.mono HBX6.out.size)
          clear HA6 HE6 HO6 HBX6 HBu hs hb
          go_upto_region 11 with fail
          have hE := eql_ent gr.1 e
          cases hun : under mk2 e with
          | false =>
            have HUN := Lib.hid hun
            have HEQ : Hid True := trivial
            have HRK : Hid (rKeep mk2 es e = true) := by show _ = _; unfold rKeep; rw [hun]; rfl
            clear hun hE
            refine Reg.wp_region_rel (by kernel_rfl) 90 12 rfl rfl (by kernel_rfl) (Reg.Adds) (Reg.Adds.refl) (Reg.Adds.trans)
              (fun i v u => match i with
                | 0 => v = .agg (entCells e).toArray
                | 1 => v = .pointer (some ⟨g, 0, none⟩)
                | 2 => v = .pointer (some ⟨g, 0, none⟩)
                | 3 => v = .pointer (some ⟨g, 2, none⟩)
                | 4 => v = Vec.C mk2
                | 5 => v = .bool false
                | 6 => v = .bool true
                | 7 => v = .bool true
                | 8 => v = undef
                | 9 => v = undef
                | 10 => v = undef
                | 11 => v = .bool true
                | _ => True) ?_ ?_
            · refine Reg.Steps.cons ?_ (Reg.Steps.cons ?_ (Reg.Steps.cons ?_ (Reg.Steps.cons ?_ (Reg.Steps.cons ?_ (Reg.Steps.cons ?_ (Reg.Steps.cons ?_ (Reg.Steps.cons ?_ (Reg.Steps.cons ?_ (Reg.Steps.cons ?_ (Reg.Steps.cons ?_ (Reg.Steps.cons ?_ (Reg.Steps.nil _))))))))))))
              · intro val ac u hR hp ha K hK
                have e8 : (ac.tmps[8]?).getD undef = .pointer (some ⟨ge, 0, none⟩) := ha 8 (by decide); clear ha hp
                refine Reg.Op1.plain rfl ?_
                have hEu : EBx u ge e := Mem.Bx.below (w := w7.drew) HE7.out hR HE7.out.lt
                refine Mem.load_agg _ _ entry_agg ge 0 (entCells e) (Reg.eval_of e8) (entCells_length _) (fun j u' hu => by rw [Nat.zero_add]; exact hEu.cell hu) ?_
                exact ⟨rfl, hK _ _ rfl (fun j k _ _ => Reg.Adds.refl _ _ _)⟩
              · intro val ac u hR hp ha K hK
                have e0 : (ac.tmps[0]?).getD undef = .pointer (some ⟨g, 0, none⟩) := ha 0 (by decide); clear ha hp
                refine Reg.Op1.plain rfl ?_
                go_wp2
                exact ⟨rfl, hK _ _ rfl (fun j k _ _ => Reg.Adds.refl _ _ _)⟩
              · intro val ac u hR hp ha K hK
                obtain ⟨w62, h62, r62⟩ := hp 1 (by decide); have e62 : (ac.tmps[62]?).getD undef = .pointer (some ⟨g, 0, none⟩) := (ha 62 (by decide)).trans h62; clear h62 ha hp
                refine Reg.Op1.plain rfl ?_
                go_wp2
                exact ⟨rfl, hK _ _ rfl (fun j k _ _ => Reg.Adds.refl _ _ _)⟩
              · intro val ac u hR hp ha K hK
                obtain ⟨w63, h63, r63⟩ := hp 2 (by decide); have e63 : (ac.tmps[63]?).getD undef = .pointer (some ⟨g, 0, none⟩) := (ha 63 (by decide)).trans h63; clear h63 ha hp
                refine Reg.Op1.plain rfl ?_
                go_wp2
                exact ⟨rfl, hK _ _ rfl (fun j k _ _ => Reg.Adds.refl _ _ _)⟩
              · intro val ac u hR hp ha K hK
                obtain ⟨w64, h64, r64⟩ := hp 3 (by decide); have e64 : (ac.tmps[64]?).getD undef = .pointer (some ⟨g, 2, none⟩) := (ha 64 (by decide)).trans h64; clear h64 ha hp
                refine Reg.Op1.plain rfl ?_
                have hBu := Mem.Bx.below (w := w7.drew) HA7.out.B hR HA7.out.B.lt
                refine Mem.load_agg _ _ col_agg g 2 (colCells mk2) (Reg.eval_of e64) (Sto.colCells_length _) (hBu.part 2 rfl) ?_
                exact ⟨rfl, hK _ _ rfl (fun j k _ _ => Reg.Adds.refl _ _ _)⟩
              · intro val ac u hR hp ha K hK
                obtain ⟨w61, h61, r61⟩ := hp 0 (by decide); have e61 : (ac.tmps[61]?).getD undef = .agg (entCells e).toArray := (ha 61 (by decide)).trans h61; obtain ⟨w65, h65, r65⟩ := hp 4 (by decide); have e65 : (ac.tmps[65]?).getD undef = Vec.C mk2 := (ha 65 (by decide)).trans h65; clear h61 h65 ha hp
                refine Reg.Op1.plain rfl ?_
                go_wp2_with fail
                refine (refUnder_any mk2 e u HDE.out).mono ?_
                rintro x w' ⟨rfl, hbw⟩
                rw [HUN.out]
                go_wp2_with fail
                exact ⟨rfl, hK _ _ rfl (fun j k _ _ => hbw)⟩
              · intro val ac u hR hp ha K hK
                obtain ⟨w66, h66, r66⟩ := hp 5 (by decide); have e66 : (ac.tmps[66]?).getD undef = .bool false := (ha 66 (by decide)).trans h66; clear h66 ha hp
                refine Reg.Op1.plain rfl ?_
                go_wp2
                exact ⟨rfl, hK _ _ rfl (fun j k _ _ => Reg.Adds.refl _ _ _)⟩
              · intro val ac u hR hp ha K hK
                obtain ⟨w67, h67, r67⟩ := hp 6 (by decide); have e67 : (ac.tmps[67]?).getD undef = .bool true := (ha 67 (by decide)).trans h67; clear h67 ha hp
                refine Reg.Op1.plain rfl ?_
                go_wp2
                exact ⟨rfl, hK _ _ rfl (fun j k _ _ => Reg.Adds.refl _ _ _)⟩
              · intro val ac u hR hp ha K hK; obtain ⟨_, h, _⟩ := hp 7 (by decide); exact Reg.Op1.guarded rfl rfl ((ha 68 (by decide)).trans h) (fun h => by cases h) (fun _ => hK _ _ rfl (fun j k _ _ => Reg.Adds.refl _ _ _))
              · intro val ac u hR hp ha K hK; obtain ⟨_, h, _⟩ := hp 7 (by decide); exact Reg.Op1.guarded rfl rfl ((ha 68 (by decide)).trans h) (fun h => by cases h) (fun _ => hK _ _ rfl (fun j k _ _ => Reg.Adds.refl _ _ _))
              · intro val ac u hR hp ha K hK; obtain ⟨_, h, _⟩ := hp 7 (by decide); exact Reg.Op1.guarded rfl rfl ((ha 68 (by decide)).trans h) (fun h => by cases h) (fun _ => hK _ _ rfl (fun j k _ _ => Reg.Adds.refl _ _ _))
              · intro val ac u hR hp ha K hK
                obtain ⟨w68, h68, r68⟩ := hp 7 (by decide); have e68 : (ac.tmps[68]?).getD undef = .bool true := (ha 68 (by decide)).trans h68; obtain ⟨w71, h71, r71⟩ := hp 10 (by decide); have e71 : (ac.tmps[71]?).getD undef = undef := (ha 71 (by decide)).trans h71; clear h68 h71 ha hp
                refine Reg.Op1.plain rfl ?_
                go_wp2
                exact ⟨rfl, hK _ _ rfl (fun j k _ _ => Reg.Adds.refl _ _ _)⟩
            intro val u hR H
            obtain ⟨_, hv, _⟩ := H 11 (by decide)
            have hv : val 11 = .bool true := hv
            have HB8 : Hid (Below w7.heap.size w7 u) := (Below.refl _ w7).drew.trans hR
            simp only [List.map_cons, List.map_nil, Reg.lay, Act.put, List.setIfInBounds_toArray, List.set_cons_succ, List.set_cons_zero, Nat.reduceAdd, hv]
            clear hR H hv
            obtain ⟨w8, hw8⟩ : ∃ z, z = u := ⟨_, rfl⟩
            subst hw8
            have HO8 : Hid (EOwn w8 A6 c6 K) := HO7.out.below HB8.out (fun k hk => HO7.out.lt hk)
            have HE8 : Hid (EBx w8 ge e) := HE7.out.below HB8.out HE7.out.lt
            have HBX8 : Hid (Below w5.heap.size w5 w8) := HB7.out.trans (HB8.out.mono HB7.out.size)
            clear HE7 HS7 HA7 HO7 HB7 HB8
            have HTS2 := Lib.hid (filter_snoc1 he.out HP.out HRK.out)
            have hll : (K ++ [e]).length = K.length + 1 := by simp
            have HLL := Lib.hid hll
            clear hll
            go_upto_region 8 with (first | ((with_reducible refine Mem.load_agg _ _ entry_agg ge 0 (entCells e) ?hz (entCells_length _) (fun j u hu => by rw [Nat.zero_add]; exact HE8.out.cell hu) ?_); case hz => exact rfl) | ((with_reducible refine Mem.build1_agg _ _ 20 _ Try.underlying22 entry_zero (by decide) (by decide) (entCells e) ?hra (entCells_length _) ?_); (case hra => exact rfl)) | (at_builtin; refine Mem.wpList_app _ rfl (.tmp 73) (.tmp 75) _ rfl entries_elem A6 K.length c6 _ rfl (w8.heap.size + 1) (some ⟨w8.heap.size, 0, none⟩) 1 1 (entCells e) rfl ?_ (HO8.out.alloc _) (Mem.Rd.alloc_new w8 _ _ _ rfl) rfl (ent_one e) (by unfold maxLen; omega) (by omega); intro A9 c9 w9 hown hgr hat; have HO9 := Lib.hid hown; have HG9 := Lib.hid hgr; have HT9 := Lib.hid hat; clear hown hgr hat))
            have HO10 : Hid (EOwn w9 A9 c9 (K ++ [e])) := by show Mem.Own _ _ _ _ _ _ _; rw [HLL.out, List.flatMap_append]; simpa using HO9.out
            have HK10 : Hid (Mem.Keeps (fun q => w5.heap.size ≤ q) w8 w9) := ((Mem.Keeps.refl (fun q => w5.heap.size ≤ q) w8).alloc _).grown HG9.out (fun k hk _ => HQ.out k hk)
            have HB10 : Hid (Below w5.heap.size w5 w9) := HBX8.out.trans (HK10.out.below (fun q h => h) HBX8.out.size)
            have HQ10 : Hid (∀ q, Mem.blk A9 = some q → w5.heap.size ≤ q) := fun q hq => by
              rcases HT9.out with h | h
              · rw [h] at hq; exact HQ.out q hq
              · rw [h] at hq; cases hq
                have := HBX8.out.size; simp; omega
            clear HO9 HG9 HT9 HE8 HO8 HBX8 HK10
            go_wp2
            go_roundw
            case rel => exact ⟨⟨k + 1, A9, c9, K ++ [e], by omega, by rw [HLL.out]; omega, by rw [HLL.out], by go_num, HTS2, HO10, HQ10, HB10⟩⟩
            case measure => simp [intOf]; omega
          | true =>
            have HUN := Lib.hid hun
            cases hqe : eqEnt gr.1 e with
            | true =>
              rw [hqe] at hE
              have HEQ := Lib.hid hE
              have HRK : Hid (rKeep mk2 es e = true) := by show _ = _; unfold rKeep; rw [hun, HGR.out, hqe]; rfl
              clear hun hE hqe
              refine Reg.wp_region_rel (by kernel_rfl) 90 12 rfl rfl (by kernel_rfl) (Reg.Adds) (Reg.Adds.refl) (Reg.Adds.trans)
                (fun i v u => match i with
                  | 0 => v = .agg (entCells e).toArray
                  | 1 => v = .pointer (some ⟨g, 0, none⟩)
                  | 2 => v = .pointer (some ⟨g, 0, none⟩)
                  | 3 => v = .pointer (some ⟨g, 2, none⟩)
                  | 4 => v = Vec.C mk2
                  | 5 => v = .bool true
                  | 6 => v = .bool false
                  | 7 => v = .bool false
                  | 8 => v = .agg (entCells gr.1).toArray
                  | 9 => v = .agg (entCells e).toArray
                  | 10 => v = .bool true
                  | 11 => v = .bool true
                  | _ => True) ?_ ?_
              · refine Reg.Steps.cons ?_ (Reg.Steps.cons ?_ (Reg.Steps.cons ?_ (Reg.Steps.cons ?_ (Reg.Steps.cons ?_ (Reg.Steps.cons ?_ (Reg.Steps.cons ?_ (Reg.Steps.cons ?_ (Reg.Steps.cons ?_ (Reg.Steps.cons ?_ (Reg.Steps.cons ?_ (Reg.Steps.cons ?_ (Reg.Steps.nil _))))))))))))
                · intro val ac u hR hp ha K hK
                  have e8 : (ac.tmps[8]?).getD undef = .pointer (some ⟨ge, 0, none⟩) := ha 8 (by decide); clear ha hp
                  refine Reg.Op1.plain rfl ?_
                  have hEu : EBx u ge e := Mem.Bx.below (w := w7.drew) HE7.out hR HE7.out.lt
                  refine Mem.load_agg _ _ entry_agg ge 0 (entCells e) (Reg.eval_of e8) (entCells_length _) (fun j u' hu => by rw [Nat.zero_add]; exact hEu.cell hu) ?_
                  exact ⟨rfl, hK _ _ rfl (fun j k _ _ => Reg.Adds.refl _ _ _)⟩
                · intro val ac u hR hp ha K hK
                  have e0 : (ac.tmps[0]?).getD undef = .pointer (some ⟨g, 0, none⟩) := ha 0 (by decide); clear ha hp
                  refine Reg.Op1.plain rfl ?_
                  go_wp2
                  exact ⟨rfl, hK _ _ rfl (fun j k _ _ => Reg.Adds.refl _ _ _)⟩
                · intro val ac u hR hp ha K hK
                  obtain ⟨w62, h62, r62⟩ := hp 1 (by decide); have e62 : (ac.tmps[62]?).getD undef = .pointer (some ⟨g, 0, none⟩) := (ha 62 (by decide)).trans h62; clear h62 ha hp
                  refine Reg.Op1.plain rfl ?_
                  go_wp2
                  exact ⟨rfl, hK _ _ rfl (fun j k _ _ => Reg.Adds.refl _ _ _)⟩
                · intro val ac u hR hp ha K hK
                  obtain ⟨w63, h63, r63⟩ := hp 2 (by decide); have e63 : (ac.tmps[63]?).getD undef = .pointer (some ⟨g, 0, none⟩) := (ha 63 (by decide)).trans h63; clear h63 ha hp
                  refine Reg.Op1.plain rfl ?_
                  go_wp2
                  exact ⟨rfl, hK _ _ rfl (fun j k _ _ => Reg.Adds.refl _ _ _)⟩
                · intro val ac u hR hp ha K hK
                  obtain ⟨w64, h64, r64⟩ := hp 3 (by decide); have e64 : (ac.tmps[64]?).getD undef = .pointer (some ⟨g, 2, none⟩) := (ha 64 (by decide)).trans h64; clear h64 ha hp
                  refine Reg.Op1.plain rfl ?_
                  have hBu := Mem.Bx.below (w := w7.drew) HA7.out.B hR HA7.out.B.lt
                  refine Mem.load_agg _ _ col_agg g 2 (colCells mk2) (Reg.eval_of e64) (Sto.colCells_length _) (hBu.part 2 rfl) ?_
                  exact ⟨rfl, hK _ _ rfl (fun j k _ _ => Reg.Adds.refl _ _ _)⟩
                · intro val ac u hR hp ha K hK
                  obtain ⟨w61, h61, r61⟩ := hp 0 (by decide); have e61 : (ac.tmps[61]?).getD undef = .agg (entCells e).toArray := (ha 61 (by decide)).trans h61; obtain ⟨w65, h65, r65⟩ := hp 4 (by decide); have e65 : (ac.tmps[65]?).getD undef = Vec.C mk2 := (ha 65 (by decide)).trans h65; clear h61 h65 ha hp
                  refine Reg.Op1.plain rfl ?_
                  go_wp2_with fail
                  refine (refUnder_any mk2 e u HDE.out).mono ?_
                  rintro x w' ⟨rfl, hbw⟩
                  rw [HUN.out]
                  go_wp2_with fail
                  exact ⟨rfl, hK _ _ rfl (fun j k _ _ => hbw)⟩
                · intro val ac u hR hp ha K hK
                  obtain ⟨w66, h66, r66⟩ := hp 5 (by decide); have e66 : (ac.tmps[66]?).getD undef = .bool true := (ha 66 (by decide)).trans h66; clear h66 ha hp
                  refine Reg.Op1.plain rfl ?_
                  go_wp2
                  exact ⟨rfl, hK _ _ rfl (fun j k _ _ => Reg.Adds.refl _ _ _)⟩
                · intro val ac u hR hp ha K hK
                  obtain ⟨w67, h67, r67⟩ := hp 6 (by decide); have e67 : (ac.tmps[67]?).getD undef = .bool false := (ha 67 (by decide)).trans h67; clear h67 ha hp
                  refine Reg.Op1.plain rfl ?_
                  go_wp2
                  exact ⟨rfl, hK _ _ rfl (fun j k _ _ => Reg.Adds.refl _ _ _)⟩
                · intro val ac u hR hp ha K hK
                  have e9 : (ac.tmps[9]?).getD undef = .pointer (some ⟨gs, 0, none⟩) := ha 9 (by decide); obtain ⟨w68, h68, r68⟩ := hp 7 (by decide); have e68 : (ac.tmps[68]?).getD undef = .bool false := (ha 68 (by decide)).trans h68; clear h68 ha hp
                  refine Reg.Op1.guarded rfl rfl e68 (fun _ => Reg.Op1.plain rfl ?_) (fun h => absurd rfl h)
                  have hEu : EBx u gs gr.1 := Mem.Bx.below (w := w7.drew) HS7.out hR HS7.out.lt
                  refine Mem.load_aggG _ _ entry_agg gs 0 (entCells gr.1) (by simp [Region.wanted]) (Reg.eval_of e9) (entCells_length _) (fun j u' hu => by rw [Nat.zero_add]; exact hEu.cell hu) ?_
                  exact ⟨rfl, hK _ _ rfl (fun j k _ _ => Reg.Adds.refl _ _ _)⟩
                · intro val ac u hR hp ha K hK
                  have e8 : (ac.tmps[8]?).getD undef = .pointer (some ⟨ge, 0, none⟩) := ha 8 (by decide); obtain ⟨w68, h68, r68⟩ := hp 7 (by decide); have e68 : (ac.tmps[68]?).getD undef = .bool false := (ha 68 (by decide)).trans h68; clear h68 ha hp
                  refine Reg.Op1.guarded rfl rfl e68 (fun _ => Reg.Op1.plain rfl ?_) (fun h => absurd rfl h)
                  have hEu : EBx u ge e := Mem.Bx.below (w := w7.drew) HE7.out hR HE7.out.lt
                  refine Mem.load_aggG _ _ entry_agg ge 0 (entCells e) (by simp [Region.wanted]) (Reg.eval_of e8) (entCells_length _) (fun j u' hu => by rw [Nat.zero_add]; exact hEu.cell hu) ?_
                  exact ⟨rfl, hK _ _ rfl (fun j k _ _ => Reg.Adds.refl _ _ _)⟩
                · intro val ac u hR hp ha K hK
                  obtain ⟨w69, h69, r69⟩ := hp 8 (by decide); have e69 : (ac.tmps[69]?).getD undef = .agg (entCells gr.1).toArray := (ha 69 (by decide)).trans h69; obtain ⟨w70, h70, r70⟩ := hp 9 (by decide); have e70 : (ac.tmps[70]?).getD undef = .agg (entCells e).toArray := (ha 70 (by decide)).trans h70; obtain ⟨w68, h68, r68⟩ := hp 7 (by decide); have e68 : (ac.tmps[68]?).getD undef = .bool false := (ha 68 (by decide)).trans h68; clear h69 h70 h68 ha hp
                  have e1 := HEQ.out
                  refine Reg.Op1.guarded rfl rfl e68 (fun _ => Reg.Op1.plain rfl ?_) (fun h => absurd rfl h)
                  go_wp2
                  exact ⟨rfl, hK _ _ rfl (fun j k _ _ => Reg.Adds.refl _ _ _)⟩
                · intro val ac u hR hp ha K hK
                  obtain ⟨w68, h68, r68⟩ := hp 7 (by decide); have e68 : (ac.tmps[68]?).getD undef = .bool false := (ha 68 (by decide)).trans h68; obtain ⟨w71, h71, r71⟩ := hp 10 (by decide); have e71 : (ac.tmps[71]?).getD undef = .bool true := (ha 71 (by decide)).trans h71; clear h68 h71 ha hp
                  refine Reg.Op1.plain rfl ?_
                  go_wp2
                  exact ⟨rfl, hK _ _ rfl (fun j k _ _ => Reg.Adds.refl _ _ _)⟩
              intro val u hR H
              obtain ⟨_, hv, _⟩ := H 11 (by decide)
              have hv : val 11 = .bool true := hv
              have HB8 : Hid (Below w7.heap.size w7 u) := (Below.refl _ w7).drew.trans hR
              simp only [List.map_cons, List.map_nil, Reg.lay, Act.put, List.setIfInBounds_toArray, List.set_cons_succ, List.set_cons_zero, Nat.reduceAdd, hv]
              clear hR H hv
              obtain ⟨w8, hw8⟩ : ∃ z, z = u := ⟨_, rfl⟩
              subst hw8
              have HO8 : Hid (EOwn w8 A6 c6 K) := HO7.out.below HB8.out (fun k hk => HO7.out.lt hk)
              have HE8 : Hid (EBx w8 ge e) := HE7.out.below HB8.out HE7.out.lt
              have HBX8 : Hid (Below w5.heap.size w5 w8) := HB7.out.trans (HB8.out.mono HB7.out.size)
              clear HE7 HS7 HA7 HO7 HB7 HB8
              have HTS2 := Lib.hid (filter_snoc1 he.out HP.out HRK.out)
              have hll : (K ++ [e]).length = K.length + 1 := by simp
              have HLL := Lib.hid hll
              clear hll
              go_upto_region 8 with (first | ((with_reducible refine Mem.load_agg _ _ entry_agg ge 0 (entCells e) ?hz (entCells_length _) (fun j u hu => by rw [Nat.zero_add]; exact HE8.out.cell hu) ?_); case hz => exact rfl) | ((with_reducible refine Mem.build1_agg _ _ 20 _ Try.underlying22 entry_zero (by decide) (by decide) (entCells e) ?hra (entCells_length _) ?_); (case hra => exact rfl)) | (at_builtin; refine Mem.wpList_app _ rfl (.tmp 73) (.tmp 75) _ rfl entries_elem A6 K.length c6 _ rfl (w8.heap.size + 1) (some ⟨w8.heap.size, 0, none⟩) 1 1 (entCells e) rfl ?_ (HO8.out.alloc _) (Mem.Rd.alloc_new w8 _ _ _ rfl) rfl (ent_one e) (by unfold maxLen; omega) (by omega); intro A9 c9 w9 hown hgr hat; have HO9 := Lib.hid hown; have HG9 := Lib.hid hgr; have HT9 := Lib.hid hat; clear hown hgr hat))
              have HO10 : Hid (EOwn w9 A9 c9 (K ++ [e])) := by show Mem.Own _ _ _ _ _ _ _; rw [HLL.out, List.flatMap_append]; simpa using HO9.out
              have HK10 : Hid (Mem.Keeps (fun q => w5.heap.size ≤ q) w8 w9) := ((Mem.Keeps.refl (fun q => w5.heap.size ≤ q) w8).alloc _).grown HG9.out (fun k hk _ => HQ.out k hk)
              have HB10 : Hid (Below w5.heap.size w5 w9) := HBX8.out.trans (HK10.out.below (fun q h => h) HBX8.out.size)
              have HQ10 : Hid (∀ q, Mem.blk A9 = some q → w5.heap.size ≤ q) := fun q hq => by
                rcases HT9.out with h | h
                · rw [h] at hq; exact HQ.out q hq
                · rw [h] at hq; cases hq
                  have := HBX8.out.size; simp; omega
              clear HO9 HG9 HT9 HE8 HO8 HBX8 HK10
              go_wp2
              go_roundw
              case rel => exact ⟨⟨k + 1, A9, c9, K ++ [e], by omega, by rw [HLL.out]; omega, by rw [HLL.out], by go_num, HTS2, HO10, HQ10, HB10⟩⟩
              case measure => simp [intOf]; omega
            | false =>
              rw [hqe] at hE
              have HEQ := Lib.hid hE
              have HRK : Hid (rKeep mk2 es e = false) := by show _ = _; unfold rKeep; rw [hun, HGR.out, hqe]; rfl
              clear hun hE hqe
              refine Reg.wp_region_rel (by kernel_rfl) 90 12 rfl rfl (by kernel_rfl) (Reg.Adds) (Reg.Adds.refl) (Reg.Adds.trans)
                (fun i v u => match i with
                  | 0 => v = .agg (entCells e).toArray
                  | 1 => v = .pointer (some ⟨g, 0, none⟩)
                  | 2 => v = .pointer (some ⟨g, 0, none⟩)
                  | 3 => v = .pointer (some ⟨g, 2, none⟩)
                  | 4 => v = Vec.C mk2
                  | 5 => v = .bool true
                  | 6 => v = .bool false
                  | 7 => v = .bool false
                  | 8 => v = .agg (entCells gr.1).toArray
                  | 9 => v = .agg (entCells e).toArray
                  | 10 => v = .bool false
                  | 11 => v = .bool false
                  | _ => True) ?_ ?_
              · refine Reg.Steps.cons ?_ (Reg.Steps.cons ?_ (Reg.Steps.cons ?_ (Reg.Steps.cons ?_ (Reg.Steps.cons ?_ (Reg.Steps.cons ?_ (Reg.Steps.cons ?_ (Reg.Steps.cons ?_ (Reg.Steps.cons ?_ (Reg.Steps.cons ?_ (Reg.Steps.cons ?_ (Reg.Steps.cons ?_ (Reg.Steps.nil _))))))))))))
                · intro val ac u hR hp ha K hK
                  have e8 : (ac.tmps[8]?).getD undef = .pointer (some ⟨ge, 0, none⟩) := ha 8 (by decide); clear ha hp
                  refine Reg.Op1.plain rfl ?_
                  have hEu : EBx u ge e := Mem.Bx.below (w := w7.drew) HE7.out hR HE7.out.lt
                  refine Mem.load_agg _ _ entry_agg ge 0 (entCells e) (Reg.eval_of e8) (entCells_length _) (fun j u' hu => by rw [Nat.zero_add]; exact hEu.cell hu) ?_
                  exact ⟨rfl, hK _ _ rfl (fun j k _ _ => Reg.Adds.refl _ _ _)⟩
                · intro val ac u hR hp ha K hK
                  have e0 : (ac.tmps[0]?).getD undef = .pointer (some ⟨g, 0, none⟩) := ha 0 (by decide); clear ha hp
                  refine Reg.Op1.plain rfl ?_
                  go_wp2
                  exact ⟨rfl, hK _ _ rfl (fun j k _ _ => Reg.Adds.refl _ _ _)⟩
                · intro val ac u hR hp ha K hK
                  obtain ⟨w62, h62, r62⟩ := hp 1 (by decide); have e62 : (ac.tmps[62]?).getD undef = .pointer (some ⟨g, 0, none⟩) := (ha 62 (by decide)).trans h62; clear h62 ha hp
                  refine Reg.Op1.plain rfl ?_
                  go_wp2
                  exact ⟨rfl, hK _ _ rfl (fun j k _ _ => Reg.Adds.refl _ _ _)⟩
                · intro val ac u hR hp ha K hK
                  obtain ⟨w63, h63, r63⟩ := hp 2 (by decide); have e63 : (ac.tmps[63]?).getD undef = .pointer (some ⟨g, 0, none⟩) := (ha 63 (by decide)).trans h63; clear h63 ha hp
                  refine Reg.Op1.plain rfl ?_
                  go_wp2
                  exact ⟨rfl, hK _ _ rfl (fun j k _ _ => Reg.Adds.refl _ _ _)⟩
                · intro val ac u hR hp ha K hK
                  obtain ⟨w64, h64, r64⟩ := hp 3 (by decide); have e64 : (ac.tmps[64]?).getD undef = .pointer (some ⟨g, 2, none⟩) := (ha 64 (by decide)).trans h64; clear h64 ha hp
                  refine Reg.Op1.plain rfl ?_
                  have hBu := Mem.Bx.below (w := w7.drew) HA7.out.B hR HA7.out.B.lt
                  refine Mem.load_agg _ _ col_agg g 2 (colCells mk2) (Reg.eval_of e64) (Sto.colCells_length _) (hBu.part 2 rfl) ?_
                  exact ⟨rfl, hK _ _ rfl (fun j k _ _ => Reg.Adds.refl _ _ _)⟩
                · intro val ac u hR hp ha K hK
                  obtain ⟨w61, h61, r61⟩ := hp 0 (by decide); have e61 : (ac.tmps[61]?).getD undef = .agg (entCells e).toArray := (ha 61 (by decide)).trans h61; obtain ⟨w65, h65, r65⟩ := hp 4 (by decide); have e65 : (ac.tmps[65]?).getD undef = Vec.C mk2 := (ha 65 (by decide)).trans h65; clear h61 h65 ha hp
                  refine Reg.Op1.plain rfl ?_
                  go_wp2_with fail
                  refine (refUnder_any mk2 e u HDE.out).mono ?_
                  rintro x w' ⟨rfl, hbw⟩
                  rw [HUN.out]
                  go_wp2_with fail
                  exact ⟨rfl, hK _ _ rfl (fun j k _ _ => hbw)⟩
                · intro val ac u hR hp ha K hK
                  obtain ⟨w66, h66, r66⟩ := hp 5 (by decide); have e66 : (ac.tmps[66]?).getD undef = .bool true := (ha 66 (by decide)).trans h66; clear h66 ha hp
                  refine Reg.Op1.plain rfl ?_
                  go_wp2
                  exact ⟨rfl, hK _ _ rfl (fun j k _ _ => Reg.Adds.refl _ _ _)⟩
                · intro val ac u hR hp ha K hK
                  obtain ⟨w67, h67, r67⟩ := hp 6 (by decide); have e67 : (ac.tmps[67]?).getD undef = .bool false := (ha 67 (by decide)).trans h67; clear h67 ha hp
                  refine Reg.Op1.plain rfl ?_
                  go_wp2
                  exact ⟨rfl, hK _ _ rfl (fun j k _ _ => Reg.Adds.refl _ _ _)⟩
                · intro val ac u hR hp ha K hK
                  have e9 : (ac.tmps[9]?).getD undef = .pointer (some ⟨gs, 0, none⟩) := ha 9 (by decide); obtain ⟨w68, h68, r68⟩ := hp 7 (by decide); have e68 : (ac.tmps[68]?).getD undef = .bool false := (ha 68 (by decide)).trans h68; clear h68 ha hp
                  refine Reg.Op1.guarded rfl rfl e68 (fun _ => Reg.Op1.plain rfl ?_) (fun h => absurd rfl h)
                  have hEu : EBx u gs gr.1 := Mem.Bx.below (w := w7.drew) HS7.out hR HS7.out.lt
                  refine Mem.load_aggG _ _ entry_agg gs 0 (entCells gr.1) (by simp [Region.wanted]) (Reg.eval_of e9) (entCells_length _) (fun j u' hu => by rw [Nat.zero_add]; exact hEu.cell hu) ?_
                  exact ⟨rfl, hK _ _ rfl (fun j k _ _ => Reg.Adds.refl _ _ _)⟩
                · intro val ac u hR hp ha K hK
                  have e8 : (ac.tmps[8]?).getD undef = .pointer (some ⟨ge, 0, none⟩) := ha 8 (by decide); obtain ⟨w68, h68, r68⟩ := hp 7 (by decide); have e68 : (ac.tmps[68]?).getD undef = .bool false := (ha 68 (by decide)).trans h68; clear h68 ha hp
                  refine Reg.Op1.guarded rfl rfl e68 (fun _ => Reg.Op1.plain rfl ?_) (fun h => absurd rfl h)
                  have hEu : EBx u ge e := Mem.Bx.below (w := w7.drew) HE7.out hR HE7.out.lt
                  refine Mem.load_aggG _ _ entry_agg ge 0 (entCells e) (by simp [Region.wanted]) (Reg.eval_of e8) (entCells_length _) (fun j u' hu => by rw [Nat.zero_add]; exact hEu.cell hu) ?_
                  exact ⟨rfl, hK _ _ rfl (fun j k _ _ => Reg.Adds.refl _ _ _)⟩
                · intro val ac u hR hp ha K hK
                  obtain ⟨w69, h69, r69⟩ := hp 8 (by decide); have e69 : (ac.tmps[69]?).getD undef = .agg (entCells gr.1).toArray := (ha 69 (by decide)).trans h69; obtain ⟨w70, h70, r70⟩ := hp 9 (by decide); have e70 : (ac.tmps[70]?).getD undef = .agg (entCells e).toArray := (ha 70 (by decide)).trans h70; obtain ⟨w68, h68, r68⟩ := hp 7 (by decide); have e68 : (ac.tmps[68]?).getD undef = .bool false := (ha 68 (by decide)).trans h68; clear h69 h70 h68 ha hp
                  have e1 := HEQ.out
                  refine Reg.Op1.guarded rfl rfl e68 (fun _ => Reg.Op1.plain rfl ?_) (fun h => absurd rfl h)
                  go_wp2
                  exact ⟨rfl, hK _ _ rfl (fun j k _ _ => Reg.Adds.refl _ _ _)⟩
                · intro val ac u hR hp ha K hK
                  obtain ⟨w68, h68, r68⟩ := hp 7 (by decide); have e68 : (ac.tmps[68]?).getD undef = .bool false := (ha 68 (by decide)).trans h68; obtain ⟨w71, h71, r71⟩ := hp 10 (by decide); have e71 : (ac.tmps[71]?).getD undef = .bool false := (ha 71 (by decide)).trans h71; clear h68 h71 ha hp
                  refine Reg.Op1.plain rfl ?_
                  go_wp2
                  exact ⟨rfl, hK _ _ rfl (fun j k _ _ => Reg.Adds.refl _ _ _)⟩
              intro val u hR H
              obtain ⟨_, hv, _⟩ := H 11 (by decide)
              have hv : val 11 = .bool false := hv
              have HB8 : Hid (Below w7.heap.size w7 u) := (Below.refl _ w7).drew.trans hR
              simp only [List.map_cons, List.map_nil, Reg.lay, Act.put, List.setIfInBounds_toArray, List.set_cons_succ, List.set_cons_zero, Nat.reduceAdd, hv]
              clear hR H hv
              obtain ⟨w8, hw8⟩ : ∃ z, z = u := ⟨_, rfl⟩
              subst hw8
              have HO8 : Hid (EOwn w8 A6 c6 K) := HO7.out.below HB8.out (fun k hk => HO7.out.lt hk)
              have HE8 : Hid (EBx w8 ge e) := HE7.out.below HB8.out HE7.out.lt
              have HBX8 : Hid (Below w5.heap.size w5 w8) := HB7.out.trans (HB8.out.mono HB7.out.size)
              clear HE7 HS7 HA7 HO7 HB7 HB8
              have HTS2 := Lib.hid (filter_snoc1 he.out HP.out HRK.out)
              clear HE8
              go_wp2
              go_roundw
              case rel => exact ⟨⟨k + 1, A6, c6, K, by omega, by omega, rfl, by go_num, HTS2, HO8, HQ, HBX8⟩⟩
              case measure => simp [intOf]; omega
        · obtain rfl : k = es.length := by omega
          rw [List.take_length] at HP
          obtain ⟨w6, hw6⟩ : ∃ z, z = wr := ⟨_, rfl⟩
          subst hw6
          have f1 := HAr.out.B.fr 1
          have hwr : IntKind.i64.wrap ((es.length : Int) - (K.length : Int)) = ((es.length - K.length : Nat) : Int) := by rw [IntWalk.i64_in _ (by omega)]; omega
          go_wp2
          go_ret
          have hn2 : ∀ q, Mem.blk A6 = some q → q ≠ g := fun q hq => by have h1 := HQ.out q hq; have h2 := HK.out.size; omega
          have hPK : rColl mk2 es = K := HP.out
          have hset := RAt.set (A' := A6) (c' := c6) (es' := K) HAr.out.B HO.out hn2
          refine ⟨A6, c6, ?_, ?_, ?_, ?_⟩
          · rw [HMK.out, hPK]; rfl
          · rw [HMK.out, hPK]; exact hset
          · exact ((HK.out.trans (Mem.Keeps.of_below HB.out) (fun _ h _ => h.elim)).setCell (p := ⟨g, 1, none⟩) (fun _ => rfl) _)
          · exact fun q hq => Nat.le_trans HK.out.size (HQ.out q hq)
end Go.Proofs.Ytfafehffnjbhnaa
end
