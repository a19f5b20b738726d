/- The walk of HoldPlays. No conditions. -/
import Derived.Test.YtgdcfdjfoeoknaaHold12
import Derived.Deep.DeepCutAuto
import Derived.Deep.CutBlock
namespace Go.Proofs.Ytgdcfdjfoeoknaa
open Go.ChangeShapes Go.WideShapes Go.ChangeAt Go.RowKit
set_option linter.unusedVariables false
set_option linter.unusedSimpArgs false

namespace Vec
/-- the program's hold and the document's -/
structure Both (w : World) (gh gd : Nat) (A : Option Addr) (c : Nat) (hs : List Ent) (Ad : Option Addr) (cd : Nat) (ds : List Ent) (rng : Int) (wx : World) : Prop where
  H : HAt 61 wx gh A c rng hs
  D : HAt 53 wx gd Ad cd rng ds
  b : Below w.heap.size w wx
  hw : ∀ k, HB gh A k → w.heap.size ≤ k
  dw : ∀ k, HB gd Ad k → w.heap.size ≤ k
  ap : ∀ k, HB gh A k → ¬ HB gd Ad k
section
variable {w : World} {gh gd : Nat} {A Ad : Option Addr} {c cd : Nat} {hs ds : List Ent} {rng : Int} {w1 w2 : World}
theorem Both.quiet (h : Both w gh gd A c hs Ad cd ds rng w1) (hk : Mem.Keeps (fun _ => False) w1 w2) : Both w gh gd A c hs Ad cd ds rng w2 :=
  ⟨h.H.keeps hk (fun _ _ h => h), h.D.keeps hk (fun _ _ h => h), h.b.trans (hk.below (fun _ h => h.elim) h.b.size), h.hw, h.dw, h.ap⟩
theorem Both.below (h : Both w gh gd A c hs Ad cd ds rng w1) (hb : Below w1.heap.size w1 w2) : Both w gh gd A c hs Ad cd ds rng w2 := h.quiet (Mem.Keeps.of_below hb)
theorem Both.stepH {A' : Option Addr} {c' : Nat} {hs' : List Ent} (h : Both w gh gd A c hs Ad cd ds rng w1) (hA : HAt 61 w2 gh A' c' rng hs') (hk : Mem.Keeps (HB gh A) w1 w2) (hq : ∀ q, Mem.blk A' = some q → Mem.blk A = some q ∨ w1.heap.size ≤ q) : Both w gh gd A' c' hs' Ad cd ds rng w2 :=
  ⟨hA, h.D.keeps hk (fun k h1 h2 => h.ap k h2 h1), h.b.trans (hk.below h.hw h.b.size), fun k h9 => by
    rcases h9 with h9 | h9
    · exact h.hw k (.inl h9)
    · rcases hq k h9 with h8 | h8
      · exact h.hw k (.inr h8)
      · exact Nat.le_trans h.b.size h8, h.dw, fun k h9 h7 => by
    rcases h9 with h9 | h9
    · exact h.ap k (.inl h9) h7
    · rcases hq k h9 with h8 | h8
      · exact h.ap k (.inr h8) h7
      · have := h.D.lt k h7; omega⟩
theorem Both.stepD {A' : Option Addr} {c' : Nat} {ds' : List Ent} (h : Both w gh gd A c hs Ad cd ds rng w1) (hA : HAt 53 w2 gd A' c' rng ds') (hk : Mem.Keeps (HB gd Ad) w1 w2) (hq : ∀ q, Mem.blk A' = some q → Mem.blk Ad = some q ∨ w1.heap.size ≤ q) : Both w gh gd A c hs A' c' ds' rng w2 :=
  ⟨h.H.keeps hk (fun k h1 h2 => h.ap k h1 h2), hA, h.b.trans (hk.below h.dw h.b.size), h.hw, fun k h9 => by
    rcases h9 with h9 | h9
    · exact h.dw k (.inl h9)
    · rcases hq k h9 with h8 | h8
      · exact h.dw k (.inr h8)
      · exact Nat.le_trans h.b.size h8, fun k h7 h9 => by
    rcases h9 with h9 | h9
    · exact h.ap k h7 (.inl h9)
    · rcases hq k h9 with h8 | h8
      · exact h.ap k h7 (.inr h8)
      · have := h.H.lt k h7; omega⟩
end
structure PlMid (w : World) (gh gd : Nat) (rng : Int) (wx : World) : Prop where
  out : ∃ (A : Option Addr) (c : Nat) (Ad : Option Addr) (cd : Nat) (hs : List Ent), Hid (Both w gh gd A c hs Ad cd hs rng wx) ∧ hs.length ≤ 16 ∧ Hid (∀ e ∈ hs, rightE e = true ∧ e.rng = rng)
structure PlRel (w : World) (gh gd : Nat) (rng : Int) (n : Nat) (v7 : Value) (wr : World) : Prop where
  out : ∃ k : Nat, k ≤ n ∧ v7 = .int .i64 k ∧ PlMid w gh gd rng wr
structure ZrRel (w0 : World) (Al : Option Addr) (cl n : Nat) (v15 : Value) (wr : World) : Prop where
  out : ∃ (m : Nat) (xs : List Value), m ≤ n ∧ v15 = .int .i64 m ∧ Hid (Mem.Own wr 33 20 Al n cl xs) ∧ Hid (Mem.Keeps (fun y => Mem.blk Al = some y) w0 wr)
theorem nextL_sub (v : Vc) (es : List Ent) : (∀ e ∈ nextL v es, e ∈ es) ∧ (nextL v es).length ≤ es.length := by
  unfold nextL
  split
  · exact ⟨fun _ h => h, Nat.le_refl _⟩
  · exact ⟨fun e h => List.mem_of_mem_eraseIdx h, List.length_eraseIdx_le _ _⟩
theorem purged_sub (v : Vc) (es : List Ent) : (∀ e ∈ purged v es, e ∈ es) ∧ (purged v es).length ≤ es.length := ⟨fun e h => (List.mem_filter.1 h).1, keptL_le _ _⟩
theorem lenA_mem {l : List Ac} {a : Ac} (h : a ∈ l) : a.es.length ≤ lenA l := by
  induction l with
  | nil => cases h
  | cons x l ih =>
    simp only [lenA, List.map_cons, List.sum_cons] at ih ⊢
    rcases List.mem_cons.1 h with rfl | h
    · omega
    · have := ih h; omega
theorem rd_blk {w : World} {B : Nat} {A : Option Addr} {xs : List Value} (h : Mem.Rd w B A xs) (h0 : xs ≠ []) : ∀ q, Mem.blk A = some q → q < B := fun q hq => by
  rcases h with h | ⟨b, o, rfl, hb, _⟩
  · exact absurd h h0
  · cases hq; exact hb
def ac0 : Ac := ⟨0, none, 0, [], vc0⟩
def e77 : Ent := { ent0 with op := -77 }
theorem ac_one (a : Ac) : ∀ y ∈ acCells a, y.oneCell' = true := by simp [acCells, Value.oneCell']
end Vec
theorem act_agg : Mem.Agg Try.prog 44 11 := Mem.agg_of Try.underlying44 rfl (by kernel_rfl)
namespace holdPlaysOpen
open Vec
set_option maxRecDepth 20000 in
set_option maxHeartbeats 8000000 in
theorem walk (rng : Int) (A : Option Addr) (ca : Nat) (acs : List Ac) (w : World) (hr : Mem.Rd w w.heap.size A (acs.flatMap acCells)) (hn : acs.length ≤ 8796093022208) (hd : ∀ a ∈ acs, AcOk w w.heap.size a ∧ In64 a.vec) :
    Calls Try.prog 5 #[.int .i64 rng, .slice A acs.length ca] w fun e w' => e = .returned (.bool true) ∧ Below w.heap.size w w' := by
  have HR := Lib.hid hr
  have HD := Lib.hid hd
  clear hr hd
  go_enter Try.func5, Try.ntmps5
  go_wp2_with fail
  refine (holdAble_any w).mono ?_
  rintro x w1 ⟨rfl, hb1⟩
  have HB1 := Lib.hid hb1
  clear hb1
  go_wp2_with fail
  refine (much_any A ca acs w w1 HR.out hn (fun a ha => (HD.out a ha).1) HB1.out).mono ?_
  rintro x w2 ⟨bq, rfl, hbn, hb2⟩
  have HB2 : Hid (Below w.heap.size w w2) := HB1.out.trans (hb2.mono HB1.out.size)
  clear hb2 HB1
  cases bq
  case true =>
    go_wp2
    go_ret
    exact ⟨rfl, HB2.out⟩
  have hn3 := hbn rfl
  clear hbn
  go_upto_region 6 with (go_at_call 9; refine (holdNew_any rng w2).mono ?_; rintro x w3 ⟨rfl, hA3, hb3⟩; have HA3 := Lib.hid hA3; have HB3 := Lib.hid hb3; clear hA3 hb3)
  go_upto_region 7 with fail
  obtain ⟨w4, hw4⟩ : ∃ w4, w3.alloc (.cells #[.int .i64 rng, .slice none 0 0] 53) = w4 := ⟨_, rfl⟩
  have HT4 : Hid (Both w w2.heap.size w3.heap.size none 0 [] none 0 [] rng w4) := by
    show Both _ _ _ _ _ _ _ _ _ _ _
    rw [← hw4]
    have hb : Below w3.heap.size w3 (w3.alloc (.cells #[.int .i64 rng, .slice none 0 0] 53)) := Reg.below_new _ _
    have hg := HA3.out.B.lt
    exact ⟨HA3.out.below hb, ⟨Mem.Bx.new w3 53 #[.int .i64 rng, .slice none 0 0] rfl rfl, own_none, fun k h => by cases h⟩, (HB2.out.trans (HB3.out.mono HB2.out.size)).trans (hb.mono (Nat.le_trans HB2.out.size HB3.out.size)),
(fun k h => by (rcases h with rfl | h); exact HB2.out.size; cases h), (fun k h => by (rcases h with rfl | h); exact Nat.le_trans HB2.out.size HB3.out.size; cases h), (fun k h h2 => by (rcases h with rfl | h); (rcases h2 with h2 | h2; omega; cases h2); cases h)⟩
  change Code.wp _ _ _ _ (w3.alloc (.cells #[.int .i64 rng, .slice none 0 0] 53))
  rw [hw4]
  obtain ⟨gh, hgh⟩ : ∃ gh, w2.heap.size = gh := ⟨_, rfl⟩
  obtain ⟨gd, hgd⟩ : ∃ gd, w3.heap.size = gd := ⟨_, rfl⟩
  rw [hgh, hgd] at HT4 ⊢
  clear hw4 hgh hgd HA3 HB3 HB2
  go_wp2
  go_loopw [7] (PlRel w gh gd rng acs.length) (fun t _ => acs.length - (intOf t).toNat)
  case atStart => exact ⟨⟨0, Nat.zero_le _, rfl, ⟨⟨none, 0, none, 0, [], HT4, by simp, fun e h => by cases h⟩⟩⟩⟩
  case round =>
    clear HT4
    obtain ⟨k, hk, rfl, HM⟩ := hrel.out
    obtain ⟨A1, c, Ad, cd, hs, HT, h16, HRt⟩ := HM.out
    clear HM hrel
    by_cases hlt : k < acs.length
    · obtain ⟨b, o, rfl, hb, hcc⟩ := Mem.Rd.elem acCells_length HR.out hlt (by omega)
      obtain ⟨a, haa⟩ : ∃ a, acs[k] = a := ⟨_, rfl⟩
      rw [haa] at hcc
      have ham : a ∈ acs := by rw [← haa]; exact List.getElem_mem hlt
      have HAC := Lib.hid (HD.out a ham).1
      have HVI := Lib.hid (HD.out a ham).2
      have hnl := lenA_mem ham
      obtain ⟨n, hna⟩ : ∃ n, a.es.length = n := ⟨_, rfl⟩
      have hn300 : a.es.length ≤ 300 := by omega
      have HCC : Hid (∀ j u, (acCells a)[j]? = some u → wr.cell? ⟨b, o + k * 11 + j, none⟩ = some u) := fun j u hu => by
        rw [Nat.add_assoc]
        exact (HT.out.b.cell (p := ⟨b, o + (k * 11 + j), none⟩) hb).trans (hcc j u hu)
      have hao := ac_one a
      clear hcc haa ham
      go_upto_region 11 with (first | ((with_reducible refine Mem.load_agg _ _ act_agg (b) (o + k * 11) (acCells a) ?hxpa (acCells_length _) (HCC.out) ?_); (case hxpa => exact rfl)) | ((with_reducible refine Mem.store_agg _ _ act_agg (wr.heap.size) (acCells ac0) (acCells a) ?hxpb ?hypb ?hbpb (acCells_length _) (hao) ?_); ((case hxpb => exact rfl); (case hypb => exact rfl); (case hbpb => exact Mem.Bx.new wr _ (acCells ac0).toArray rfl rfl); intro w5 hbq hkq hsq; have Hb5 := Lib.hid hbq; have Hk5 := Lib.hid hkq; clear hbq hkq hsq)))
      have HK5 : Hid (Below wr.heap.size wr w5) := (Hk5.out.newBox rfl).belowAll
      have HT5 := Lib.hid (HT.out.below HK5.out)
      have hgl : ∀ q, HB gh A1 q ∨ HB gd Ad q ∨ False → q < wr.heap.size := fun q h => by rcases h with h | h | h; exact HT.out.H.lt q h; exact HT.out.D.lt q h; exact h.elim
      obtain ⟨ga, hga⟩ : ∃ ga, wr.heap.size = ga := ⟨_, rfl⟩
      have hwa : w.heap.size ≤ ga := by rw [← hga]; exact HT.out.b.size
      rw [hga] at Hb5 hgl ⊢
      have HX5 : Hid (Mem.Bx w5 44 11 ga (acCells a)) := Hb5
      have HXn : Hid (¬ (HB gh A1 ga ∨ HB gd Ad ga ∨ False)) := fun h => by have := hgl _ h; omega
      have HGL := Lib.hid hgl
      have hg5 : ga < w5.heap.size := HX5.out.lt
      clear hga hgl Hb5 Hk5 HK5 HT HCC hao
      have x0 := HX5.out.cell (j := 0) rfl
      go_upto_block 2 with fail
      go_cut [] (fun wx => PlMid w gh gd rng wx)
      case first =>
        by_cases k1 : a.kind = 1
        · have d1 : (a.kind == 1) = true := by simp [k1]
          have x1 := HX5.out.cell (j := 1) rfl
          rw [hna] at x1
          have hol : (a.es.flatMap entCells).length = n * 20 := by rw [ents_len, hna]
          have hoo := ents_one a.es
          have HLn : Hid (a.es ≠ [] → ∀ q, Mem.blk a.L = some q → q < w.heap.size) := fun h0 q h => rd_blk HAC.out.rd (fun h1 => by have h2 := hol; rw [h1] at h2; simp at h2; exact h0 (List.eq_nil_of_length_eq_zero (by omega))) q h
          have HRD5 := Lib.hid ((HAC.out.rd.below HT5.out.b).alloc (Nat.le_trans (Nat.le_refl _) HT5.out.b.size) (.cells #[] 33))
          have hn3' : n ≤ 300 := by omega
          have hn4 : n + 1 ≤ 300 := by omega
          clear k1
          go_upto_region 14 with (first | (at_builtin; refine Mem.wpList_app0 _ rfl (.tmp 39) (.tmp 41) _ rfl entries_elem (some ⟨w5.heap.size, 0, none⟩) rfl w.heap.size a.L n a.lc (a.es.flatMap entCells) rfl ?_ (Mem.Own.lit w5 _ 20 #[] 0 rfl rfl (by simp [maxLen])) HRD5.out hol hoo (len300 hn3').1 (len300 hn3').2; intro B1 c1 w6 hown hbq hat; have HO6 := Lib.hid hown; have HB6 : Hid (Below w5.heap.size w5 w6) := (Reg.below_new _ _).trans (hbq.mono (by simp)); have HF6 : Hid (∀ q, Mem.blk B1 = some q → w5.heap.size ≤ q) := (fun q h => by rcases hat with h1 | h1; (rw [h1] at h; simp [Mem.blk] at h; omega); (rw [h1] at h; simp [Mem.blk] at h; omega)); have HRD6 := Lib.hid (Mem.Rd.alloc_new w6 (entCells e77).toArray 33 (0, 0) rfl); have HO6' := Lib.hid (HO6.out.keeps ((Mem.Keeps.refl (fun _ => False) w6).alloc (.cells (entCells e77).toArray 33)) (fun _ _ h => h)); clear hown hbq hat) | ((with_reducible refine Mem.build1_agg _ _ 20 _ Try.underlying24 entry_zero (by decide) (by decide) (entCells e77) ?hra (entCells_length _) ?_); (case hra => exact rfl)) | (at_builtin; refine Mem.wpList_app _ rfl (.tmp 42) (.tmp 44) _ rfl entries_elem B1 n c1 (a.es.flatMap entCells) rfl (w6.heap.size + 1) (some ⟨w6.heap.size, 0, none⟩) 1 1 (entCells e77) rfl ?_ HO6'.out HRD6.out rfl (ent_one e77) (len300 hn4).1 (len300 hn4).2; intro B2 c2 w7 hown hgr hat; have HG7 := Lib.hid hown; have HGr := Lib.hid hgr; have HAt := Lib.hid hat; clear hown hgr hat))
          have HK7 : Hid (Mem.Keeps (fun y => Mem.blk B1 = some y) w6 w7) := (((Mem.Keeps.refl (fun y => Mem.blk B1 = some y) w6).alloc _).grown HGr.out (fun k h _ => h))
          have HB7 : Hid (Below w5.heap.size w5 w7) := HB6.out.trans (HK7.out.below (fun q h => HF6.out q h) HB6.out.size)
          have HT7 := Lib.hid (HT5.out.below HB7.out)
          have HX7 : Hid (Mem.Bx w7 44 11 ga (acCells a)) := HX5.out.below HB7.out hg5
          have hB2 : ∀ q, Mem.blk B2 = some q → w5.heap.size ≤ q := fun q h => by
            rcases HAt.out with h1 | h1
            · rw [h1] at h; exact HF6.out q h
            · have := HB6.out.size
              rw [h1] at h; simp [Mem.blk] at h; omega
          obtain ⟨bB, oB, rfl⟩ := HG7.out.form (by omega)
          have HBn : Hid (∀ q, Mem.blk (some (⟨bB, oB, none⟩ : Addr)) = some q → ¬ (HB gh A1 q ∨ HB gd Ad q)) := fun q h h2 => by
            have h3 := hB2 q h
            have h4 := HGL.out q (by rcases h2 with h2 | h2; exact .inl h2; exact .inr (.inl h2))
            omega
          have HEs : Hid (∀ U : World, Mem.Own U 33 20 (some ⟨bB, oB, none⟩) (n + 1) c2 (a.es.flatMap entCells ++ entCells e77) → EOwn U (some ⟨bB, oB, none⟩) c2 a.es) := fun U hU => by
            have h9 := hU.take (k := n) (by omega)
            rw [List.take_append, hol, Nat.sub_self, List.take_zero, List.append_nil, List.take_of_length_le (by omega)] at h9
            show Mem.Own _ _ _ _ _ _ _
            rw [hna]
            exact h9
          have hbB : bB < w7.heap.size := HG7.out.lt rfl
          have hc2 : n + 1 ≤ c2 := HG7.out.le
          have hc3 : n ≤ c2 := by omega
          have H77 : Hid (w7.cell? ⟨bB, oB + n * 20 + 19, none⟩ = some (.int .i64 (-77))) := by
            have h9 := HG7.out.cell (j := n * 20 + 19) (u := .int .i64 (-77)) (by rw [List.getElem?_append_right (by omega), hol, show n * 20 + 19 - n * 20 = 19 by omega]; rfl)
            rw [← Nat.add_assoc] at h9
            exact h9
          clear HO6 HB6 HF6 HRD6 HO6' HGr HAt HK7 HB7 hB2 HRD5 x0 x1 hol hoo
          refine Reg.wp_region_w (by kernel_rfl) 143 33 rfl rfl (by kernel_rfl) (6) (HB gh A1) (10) (HB gd Ad) (6) (fun _ => False)
            (fun i v u => match i with
              | 0 => v = .pointer (some ⟨gh, 0, none⟩)
              | 1 => v = .slice (some ⟨bB, oB, none⟩) (n + 1) c2
              | 2 => v = .pointer (some ⟨ga, 1, none⟩)
              | 3 => v = .slice a.L n a.lc
              | 4 => v = .int .i64 ((n : Nat) : Int)
              | 5 => v = .slice (some ⟨bB, oB, none⟩) n c2
              | 6 => v = .int .i64 ((putL rng hs a.es).2 : Nat) ∧ ∃ A' c', Both w gh gd A' c' (putL rng hs a.es).1 Ad cd hs rng u
              | 7 => v = .pointer (some ⟨gd, 0, none⟩)
              | 8 => v = .pointer (some ⟨ga, 1, none⟩)
              | 9 => v = .slice a.L n a.lc
              | 10 => v = .int .i64 ((putL rng hs a.es).2 : Nat) ∧ ∃ A' c' Ad' cd', Both w gh gd A' c' (putL rng hs a.es).1 Ad' cd' (putL rng hs a.es).1 rng u
              | 11 => v = .bool false
              | 12 => v = .bool false
              | 13 => v = .slice (some ⟨bB, oB, none⟩) (n + 1) c2
              | 14 => v = .pointer (some ⟨ga, 1, none⟩)
              | 15 => v = .slice a.L n a.lc
              | 16 => v = .int .i64 ((n : Nat) : Int)
              | 17 => v = .slice (some ⟨bB, oB, none⟩) n c2
              | 18 => v = .pointer (some ⟨ga, 1, none⟩)
              | 19 => v = .slice a.L n a.lc
              | 20 => v = .bool true
              | 21 => v = .bool false
              | 22 => v = .bool false
              | 23 => v = .bool false
              | 24 => v = .slice (some ⟨bB, oB, none⟩) (n + 1) c2
              | 25 => v = .pointer (some ⟨ga, 1, none⟩)
              | 26 => v = .slice a.L n a.lc
              | 27 => v = .int .i64 ((n : Nat) : Int)
              | 28 => v = .pointer (some ⟨bB, oB + n * 20, none⟩)
              | 29 => v = .pointer (some ⟨bB, oB + n * 20 + 19, none⟩)
              | 30 => v = .int .i64 (-77)
              | 31 => v = .bool false
              | 32 => v = .bool false
              | _ => True) ?_ ?_
          · refine Reg.Steps.cons ?_ (Reg.Steps.cons ?_ (Reg.Steps.cons ?_ (Reg.Steps.cons ?_ (Reg.Steps.cons ?_ (Reg.Steps.cons ?_ (Reg.Steps.cons ?_ (Reg.Steps.cons ?_ (Reg.Steps.cons ?_ (Reg.Steps.cons ?_ (Reg.Steps.cons ?_ (Reg.Steps.cons ?_ (Reg.Steps.cons ?_ (Reg.Steps.cons ?_ (Reg.Steps.cons ?_ (Reg.Steps.cons ?_ (Reg.Steps.cons ?_ (Reg.Steps.cons ?_ (Reg.Steps.cons ?_ (Reg.Steps.cons ?_ (Reg.Steps.cons ?_ (Reg.Steps.cons ?_ (Reg.Steps.cons ?_ (Reg.Steps.cons ?_ (Reg.Steps.cons ?_ (Reg.Steps.cons ?_ (Reg.Steps.cons ?_ (Reg.Steps.cons ?_ (Reg.Steps.cons ?_ (Reg.Steps.cons ?_ (Reg.Steps.cons ?_ (Reg.Steps.cons ?_ (Reg.Steps.cons ?_ (Reg.Steps.nil _)))))))))))))))))))))))))))))))))
            · intro val ac u hR hp ha K hK      -- 0: t46 := Op.move t5
              have e5 : (ac.tmps[5]?).getD undef = .pointer (some ⟨gh, 0, none⟩) := ha 5 (by decide)
              clear ha hp
              refine Reg.Op1.plain rfl ?_
              go_wp2
              exact ⟨rfl, hK _ _ rfl (Reg.Wr.same _)⟩
            · intro val ac u hR hp ha K hK      -- 1: t47 := Op.move t9
              have e9 : (ac.tmps[9]?).getD undef = .slice (some ⟨bB, oB, none⟩) (n + 1) c2 := ha 9 (by decide)
              clear ha hp
              refine Reg.Op1.plain rfl ?_
              go_wp2
              exact ⟨rfl, hK _ _ rfl (Reg.Wr.same _)⟩
            · intro val ac u hR hp ha K hK      -- 2: t48 := Op.fieldAddr 44 t8 1
              have e8 : (ac.tmps[8]?).getD undef = .pointer (some ⟨ga, 0, none⟩) := ha 8 (by decide)
              clear ha hp
              refine Reg.Op1.plain rfl ?_
              go_wp2
              exact ⟨rfl, hK _ _ rfl (Reg.Wr.same _)⟩
            · intro val ac u hR hp ha K hK      -- 3: t49 := Op.load 24 t48
              obtain ⟨w48, h48, r48⟩ := hp 2 (by decide)
              have e48 : (ac.tmps[48]?).getD undef = .pointer (some ⟨ga, 1, none⟩) := (ha 48 (by decide)).trans h48
              clear h48
              clear ha hp
              refine Reg.Op1.plain rfl ?_
              have hq := (Mem.Keeps.refl (fun k => HB gh A1 k ∨ HB gd Ad k ∨ False) w7).drew.trans (Reg.Wr.all hR) (fun _ h _ => h)
              have x0 := (HX7.out.keeps hq HXn.out).cell (j := 1) rfl
              rw [hna] at x0
              go_wp2
              exact ⟨rfl, hK _ _ rfl (Reg.Wr.same _)⟩
            · intro val ac u hR hp ha K hK      -- 4: t50 := Op.call { builtin len, args := #[t49], argTypes := #[24] }
              obtain ⟨w49, h49, r49⟩ := hp 3 (by decide)
              have e49 : (ac.tmps[49]?).getD undef = .slice a.L n a.lc := (ha 49 (by decide)).trans h49
              clear h49
              clear ha hp
              refine Reg.Op1.plain rfl ?_
              go_wp2
              exact ⟨rfl, hK _ _ rfl (Reg.Wr.same _)⟩
            · intro val ac u hR hp ha K hK      -- 5: t51 := Op.slice 24 t47 none (some t50) none
              obtain ⟨w47, h47, r47⟩ := hp 1 (by decide)
              have e47 : (ac.tmps[47]?).getD undef = .slice (some ⟨bB, oB, none⟩) (n + 1) c2 := (ha 47 (by decide)).trans h47
              clear h47
              obtain ⟨w50, h50, r50⟩ := hp 4 (by decide)
              have e50 : (ac.tmps[50]?).getD undef = .int .i64 ((n : Nat) : Int) := (ha 50 (by decide)).trans h50
              clear h50
              clear ha hp
              refine Reg.Op1.plain rfl ?_
              go_wp2
              exact ⟨rfl, hK _ _ rfl (Reg.Wr.same _)⟩
            · intro val ac u hR hp ha K hK      -- 6: t52 := Op.call { value (Operand.func 10), args := #[t46, t51], argTypes := #[35, 24] }
              obtain ⟨w46, h46, r46⟩ := hp 0 (by decide)
              have e46 : (ac.tmps[46]?).getD undef = .pointer (some ⟨gh, 0, none⟩) := (ha 46 (by decide)).trans h46
              clear h46
              obtain ⟨w51, h51, r51⟩ := hp 5 (by decide)
              have e51 : (ac.tmps[51]?).getD undef = .slice (some ⟨bB, oB, none⟩) n c2 := (ha 51 (by decide)).trans h51
              clear h51
              clear ha hp
              refine Reg.Op1.plain rfl ?_
              have hq := (Mem.Keeps.refl (fun _ => False) w7).drew.trans (Reg.Wr.none hR (by decide +kernel) (by decide +kernel) (by decide +kernel)) (fun _ h _ => h)
              have hT := HT7.out.quiet hq
              have hG := HG7.out.keeps hq (fun _ _ h => h)
              have hne : ∀ q, Mem.blk (some (⟨bB, oB, none⟩ : Addr)) = some q → ¬ HB gh A1 q := fun q h h2 => HBn.out q h (.inl h2)
              have hp := put_any rng gh A1 c hs (some ⟨bB, oB, none⟩) c2 a.es u hT.H (HEs.out u hG) hne
              rw [hna] at hp
              go_wp2_with fail
              refine hp.mono ?_
              rintro x w' ⟨A', c', rfl, hA', hk', hq'⟩
              go_wp2_with fail
              exact ⟨rfl, hK _ _ ⟨rfl, A', c', hT.stepH hA' hk' hq'⟩ (Reg.Wr.does1 hk')⟩
            · intro val ac u hR hp ha K hK      -- 7: t53 := Op.move t6
              have e6 : (ac.tmps[6]?).getD undef = .pointer (some ⟨gd, 0, none⟩) := ha 6 (by decide)
              clear ha hp
              refine Reg.Op1.plain rfl ?_
              go_wp2
              exact ⟨rfl, hK _ _ rfl (Reg.Wr.same _)⟩
            · intro val ac u hR hp ha K hK      -- 8: t54 := Op.fieldAddr 44 t8 1
              have e8 : (ac.tmps[8]?).getD undef = .pointer (some ⟨ga, 0, none⟩) := ha 8 (by decide)
              clear ha hp
              refine Reg.Op1.plain rfl ?_
              go_wp2
              exact ⟨rfl, hK _ _ rfl (Reg.Wr.same _)⟩
            · intro val ac u hR hp ha K hK      -- 9: t55 := Op.load 24 t54
              obtain ⟨w54, h54, r54⟩ := hp 8 (by decide)
              have e54 : (ac.tmps[54]?).getD undef = .pointer (some ⟨ga, 1, none⟩) := (ha 54 (by decide)).trans h54
              clear h54
              clear ha hp
              refine Reg.Op1.plain rfl ?_
              have hq := (Mem.Keeps.refl (fun k => HB gh A1 k ∨ HB gd Ad k ∨ False) w7).drew.trans (Reg.Wr.all hR) (fun _ h _ => h)
              have x0 := (HX7.out.keeps hq HXn.out).cell (j := 1) rfl
              rw [hna] at x0
              go_wp2
              exact ⟨rfl, hK _ _ rfl (Reg.Wr.same _)⟩
            · intro val ac u hR hp ha K hK      -- 10: t56 := Op.call { value (Operand.func 18), args := #[t53, t55], argTypes := #[51, 24] }
              obtain ⟨w53, h53, r53⟩ := hp 7 (by decide)
              have e53 : (ac.tmps[53]?).getD undef = .pointer (some ⟨gd, 0, none⟩) := (ha 53 (by decide)).trans h53
              clear h53
              obtain ⟨w55, h55, r55⟩ := hp 9 (by decide)
              have e55 : (ac.tmps[55]?).getD undef = .slice a.L n a.lc := (ha 55 (by decide)).trans h55
              clear h55
              obtain ⟨w52, h52, r52⟩ := hp 6 (by decide)
              clear ha hp
              refine Reg.Op1.plain rfl ?_
              obtain ⟨_, A', c', hT0⟩ := h52
              have hT := hT0.quiet (Reg.Wr.none r52 (by decide +kernel) (by decide +kernel) (by decide +kernel))
              have hp := refPut_any rng gd Ad cd hs a.L a.lc a.es u hT.D ((HAC.out.rd.below hT.b).more hT.b.size) hn300 (fun h0 q h h2 => by have h3 := hT.dw q h2; have h4 := HLn.out h0 q h; omega)
              rw [hna] at hp
              go_wp2_with fail
              refine hp.mono ?_
              rintro x w' ⟨Ad', cd', rfl, hA', hk', hq'⟩
              go_wp2_with fail
              exact ⟨rfl, hK _ _ ⟨rfl, A', c', Ad', cd', hT.stepD hA' hk' hq'⟩ (Reg.Wr.does2 hk')⟩
            · intro val ac u hR hp ha K hK      -- 11: t57 := Op.binOp BinOp.neq 3 t52 t56 3
              obtain ⟨w52, h52, r52⟩ := hp 6 (by decide)
              have e52 : (ac.tmps[52]?).getD undef = val 6 := ha 52 (by decide)
              obtain ⟨w56, h56, r56⟩ := hp 10 (by decide)
              have e56 : (ac.tmps[56]?).getD undef = val 10 := ha 56 (by decide)
              clear ha hp
              refine Reg.Op1.plain rfl ?_
              rw [h52.1] at e52
              rw [h56.1] at e56
              have hbb : (((putL rng hs a.es).2 : Int) != ((putL rng hs a.es).2 : Int)) = false := by simp
              go_wp2
              exact ⟨rfl, hK _ _ rfl (Reg.Wr.same _)⟩
            · intro val ac u hR hp ha K hK      -- 12: t58 := Op.move t57
              obtain ⟨w57, h57, r57⟩ := hp 11 (by decide)
              have e57 : (ac.tmps[57]?).getD undef = .bool false := (ha 57 (by decide)).trans h57
              clear h57
              clear ha hp
              refine Reg.Op1.plain rfl ?_
              go_wp2
              exact ⟨rfl, hK _ _ rfl (Reg.Wr.same _)⟩
            · intro val ac u hR hp ha K hK      -- 13: t59 := Op.move t9
              have e9 : (ac.tmps[9]?).getD undef = .slice (some ⟨bB, oB, none⟩) (n + 1) c2 := ha 9 (by decide)
              obtain ⟨w58, h58, r58⟩ := hp 12 (by decide)
              have e58 : (ac.tmps[58]?).getD undef = .bool false := (ha 58 (by decide)).trans h58
              clear h58
              clear ha hp
              refine Reg.Op1.guarded rfl rfl e58 (fun _ => Reg.Op1.plain rfl ?_) (fun h => absurd rfl h)
              go_wp2
              exact ⟨rfl, hK _ _ rfl (Reg.Wr.same _)⟩
            · intro val ac u hR hp ha K hK      -- 14: t60 := Op.fieldAddr 44 t8 1
              have e8 : (ac.tmps[8]?).getD undef = .pointer (some ⟨ga, 0, none⟩) := ha 8 (by decide)
              obtain ⟨w58, h58, r58⟩ := hp 12 (by decide)
              have e58 : (ac.tmps[58]?).getD undef = .bool false := (ha 58 (by decide)).trans h58
              clear h58
              clear ha hp
              refine Reg.Op1.guarded rfl rfl e58 (fun _ => Reg.Op1.plain rfl ?_) (fun h => absurd rfl h)
              go_wp2
              exact ⟨rfl, hK _ _ rfl (Reg.Wr.same _)⟩
            · intro val ac u hR hp ha K hK      -- 15: t61 := Op.load 24 t60
              obtain ⟨w60, h60, r60⟩ := hp 14 (by decide)
              have e60 : (ac.tmps[60]?).getD undef = .pointer (some ⟨ga, 1, none⟩) := (ha 60 (by decide)).trans h60
              clear h60
              obtain ⟨w58, h58, r58⟩ := hp 12 (by decide)
              have e58 : (ac.tmps[58]?).getD undef = .bool false := (ha 58 (by decide)).trans h58
              clear h58
              clear ha hp
              refine Reg.Op1.guarded rfl rfl e58 (fun _ => Reg.Op1.plain rfl ?_) (fun h => absurd rfl h)
              have hq := (Mem.Keeps.refl (fun k => HB gh A1 k ∨ HB gd Ad k ∨ False) w7).drew.trans (Reg.Wr.all hR) (fun _ h _ => h)
              have x0 := (HX7.out.keeps hq HXn.out).cell (j := 1) rfl
              rw [hna] at x0
              go_wp2
              exact ⟨rfl, hK _ _ rfl (Reg.Wr.same _)⟩
            · intro val ac u hR hp ha K hK      -- 16: t62 := Op.call { builtin len, args := #[t61], argTypes := #[24] }
              obtain ⟨w61, h61, r61⟩ := hp 15 (by decide)
              have e61 : (ac.tmps[61]?).getD undef = .slice a.L n a.lc := (ha 61 (by decide)).trans h61
              clear h61
              obtain ⟨w58, h58, r58⟩ := hp 12 (by decide)
              have e58 : (ac.tmps[58]?).getD undef = .bool false := (ha 58 (by decide)).trans h58
              clear h58
              clear ha hp
              refine Reg.Op1.guarded rfl rfl e58 (fun _ => Reg.Op1.plain rfl ?_) (fun h => absurd rfl h)
              go_wp2
              exact ⟨rfl, hK _ _ rfl (Reg.Wr.same _)⟩
            · intro val ac u hR hp ha K hK      -- 17: t63 := Op.slice 24 t59 none (some t62) none
              obtain ⟨w59, h59, r59⟩ := hp 13 (by decide)
              have e59 : (ac.tmps[59]?).getD undef = .slice (some ⟨bB, oB, none⟩) (n + 1) c2 := (ha 59 (by decide)).trans h59
              clear h59
              obtain ⟨w62, h62, r62⟩ := hp 16 (by decide)
              have e62 : (ac.tmps[62]?).getD undef = .int .i64 ((n : Nat) : Int) := (ha 62 (by decide)).trans h62
              clear h62
              obtain ⟨w58, h58, r58⟩ := hp 12 (by decide)
              have e58 : (ac.tmps[58]?).getD undef = .bool false := (ha 58 (by decide)).trans h58
              clear h58
              clear ha hp
              refine Reg.Op1.guarded rfl rfl e58 (fun _ => Reg.Op1.plain rfl ?_) (fun h => absurd rfl h)
              go_wp2
              exact ⟨rfl, hK _ _ rfl (Reg.Wr.same _)⟩
            · intro val ac u hR hp ha K hK      -- 18: t64 := Op.fieldAddr 44 t8 1
              have e8 : (ac.tmps[8]?).getD undef = .pointer (some ⟨ga, 0, none⟩) := ha 8 (by decide)
              obtain ⟨w58, h58, r58⟩ := hp 12 (by decide)
              have e58 : (ac.tmps[58]?).getD undef = .bool false := (ha 58 (by decide)).trans h58
              clear h58
              clear ha hp
              refine Reg.Op1.guarded rfl rfl e58 (fun _ => Reg.Op1.plain rfl ?_) (fun h => absurd rfl h)
              go_wp2
              exact ⟨rfl, hK _ _ rfl (Reg.Wr.same _)⟩
            · intro val ac u hR hp ha K hK      -- 19: t65 := Op.load 24 t64
              obtain ⟨w64, h64, r64⟩ := hp 18 (by decide)
              have e64 : (ac.tmps[64]?).getD undef = .pointer (some ⟨ga, 1, none⟩) := (ha 64 (by decide)).trans h64
              clear h64
              obtain ⟨w58, h58, r58⟩ := hp 12 (by decide)
              have e58 : (ac.tmps[58]?).getD undef = .bool false := (ha 58 (by decide)).trans h58
              clear h58
              clear ha hp
              refine Reg.Op1.guarded rfl rfl e58 (fun _ => Reg.Op1.plain rfl ?_) (fun h => absurd rfl h)
              have hq := (Mem.Keeps.refl (fun k => HB gh A1 k ∨ HB gd Ad k ∨ False) w7).drew.trans (Reg.Wr.all hR) (fun _ h _ => h)
              have x0 := (HX7.out.keeps hq HXn.out).cell (j := 1) rfl
              rw [hna] at x0
              go_wp2
              exact ⟨rfl, hK _ _ rfl (Reg.Wr.same _)⟩
            · intro val ac u hR hp ha K hK      -- 20: t66 := Op.call { value (Operand.func 19), args := #[t63, t65], argTypes := #[24, 24] }
              obtain ⟨w63, h63, r63⟩ := hp 17 (by decide)
              have e63 : (ac.tmps[63]?).getD undef = .slice (some ⟨bB, oB, none⟩) n c2 := (ha 63 (by decide)).trans h63
              clear h63
              obtain ⟨w65, h65, r65⟩ := hp 19 (by decide)
              have e65 : (ac.tmps[65]?).getD undef = .slice a.L n a.lc := (ha 65 (by decide)).trans h65
              clear h65
              obtain ⟨w58, h58, r58⟩ := hp 12 (by decide)
              have e58 : (ac.tmps[58]?).getD undef = .bool false := (ha 58 (by decide)).trans h58
              clear h58
              clear ha hp
              refine Reg.Op1.guarded rfl rfl e58 (fun _ => Reg.Op1.plain rfl ?_) (fun h => absurd rfl h)
              have hq := (Mem.Keeps.refl (fun k => HB gh A1 k ∨ HB gd Ad k ∨ False) w7).drew.trans (Reg.Wr.all hR) (fun _ h _ => h)
              have hG := HG7.out.keeps hq (fun q h h2 => HBn.out q h (by rcases h2 with h2 | h2 | h2; exact .inl h2; exact .inr h2; exact h2.elim))
              have hbu : Below w.heap.size w u := HT7.out.b.trans (hq.below (fun q h2 => by rcases h2 with h2 | h2 | h2; exact HT7.out.hw q h2; exact HT7.out.dw q h2; exact h2.elim) HT7.out.b.size)
              have hp := entries_any (some ⟨bB, oB, none⟩) a.L c2 a.lc a.es u.heap.size u.heap.size u (HEs.out u hG).rd ((HAC.out.rd.below hbu).more hbu.size) (Nat.le_refl _) (Nat.le_refl _) hn300
              rw [hna] at hp
              go_wp2_with fail
              refine hp.mono ?_
              rintro x w' ⟨rfl, hbw⟩
              go_wp2_with fail
              exact ⟨rfl, hK _ _ rfl (Reg.Wr.below hbw)⟩
            · intro val ac u hR hp ha K hK      -- 21: t67 := Op.unOp UnOp.not 4 t66
              obtain ⟨w66, h66, r66⟩ := hp 20 (by decide)
              have e66 : (ac.tmps[66]?).getD undef = .bool true := (ha 66 (by decide)).trans h66
              clear h66
              obtain ⟨w58, h58, r58⟩ := hp 12 (by decide)
              have e58 : (ac.tmps[58]?).getD undef = .bool false := (ha 58 (by decide)).trans h58
              clear h58
              clear ha hp
              refine Reg.Op1.guarded rfl rfl e58 (fun _ => Reg.Op1.plain rfl ?_) (fun h => absurd rfl h)
              go_wp2
              exact ⟨rfl, hK _ _ rfl (Reg.Wr.same _)⟩
            · intro val ac u hR hp ha K hK      -- 22: t68 := Op.pick t58 (const (Value.bool true)) t67
              obtain ⟨w58, h58, r58⟩ := hp 12 (by decide)
              have e58 : (ac.tmps[58]?).getD undef = .bool false := (ha 58 (by decide)).trans h58
              clear h58
              obtain ⟨w67, h67, r67⟩ := hp 21 (by decide)
              have e67 : (ac.tmps[67]?).getD undef = .bool false := (ha 67 (by decide)).trans h67
              clear h67
              clear ha hp
              refine Reg.Op1.plain rfl ?_
              go_wp2
              exact ⟨rfl, hK _ _ rfl (Reg.Wr.same _)⟩
            · intro val ac u hR hp ha K hK      -- 23: t69 := Op.move t68
              obtain ⟨w68, h68, r68⟩ := hp 22 (by decide)
              have e68 : (ac.tmps[68]?).getD undef = .bool false := (ha 68 (by decide)).trans h68
              clear h68
              clear ha hp
              refine Reg.Op1.plain rfl ?_
              go_wp2
              exact ⟨rfl, hK _ _ rfl (Reg.Wr.same _)⟩
            · intro val ac u hR hp ha K hK      -- 24: t70 := Op.move t9
              have e9 : (ac.tmps[9]?).getD undef = .slice (some ⟨bB, oB, none⟩) (n + 1) c2 := ha 9 (by decide)
              obtain ⟨w69, h69, r69⟩ := hp 23 (by decide)
              have e69 : (ac.tmps[69]?).getD undef = .bool false := (ha 69 (by decide)).trans h69
              clear h69
              clear ha hp
              refine Reg.Op1.guarded rfl rfl e69 (fun _ => Reg.Op1.plain rfl ?_) (fun h => absurd rfl h)
              go_wp2
              exact ⟨rfl, hK _ _ rfl (Reg.Wr.same _)⟩
            · intro val ac u hR hp ha K hK      -- 25: t71 := Op.fieldAddr 44 t8 1
              have e8 : (ac.tmps[8]?).getD undef = .pointer (some ⟨ga, 0, none⟩) := ha 8 (by decide)
              obtain ⟨w69, h69, r69⟩ := hp 23 (by decide)
              have e69 : (ac.tmps[69]?).getD undef = .bool false := (ha 69 (by decide)).trans h69
              clear h69
              clear ha hp
              refine Reg.Op1.guarded rfl rfl e69 (fun _ => Reg.Op1.plain rfl ?_) (fun h => absurd rfl h)
              go_wp2
              exact ⟨rfl, hK _ _ rfl (Reg.Wr.same _)⟩
            · intro val ac u hR hp ha K hK      -- 26: t72 := Op.load 24 t71
              obtain ⟨w71, h71, r71⟩ := hp 25 (by decide)
              have e71 : (ac.tmps[71]?).getD undef = .pointer (some ⟨ga, 1, none⟩) := (ha 71 (by decide)).trans h71
              clear h71
              obtain ⟨w69, h69, r69⟩ := hp 23 (by decide)
              have e69 : (ac.tmps[69]?).getD undef = .bool false := (ha 69 (by decide)).trans h69
              clear h69
              clear ha hp
              refine Reg.Op1.guarded rfl rfl e69 (fun _ => Reg.Op1.plain rfl ?_) (fun h => absurd rfl h)
              have hq := (Mem.Keeps.refl (fun k => HB gh A1 k ∨ HB gd Ad k ∨ False) w7).drew.trans (Reg.Wr.all hR) (fun _ h _ => h)
              have x0 := (HX7.out.keeps hq HXn.out).cell (j := 1) rfl
              rw [hna] at x0
              go_wp2
              exact ⟨rfl, hK _ _ rfl (Reg.Wr.same _)⟩
            · intro val ac u hR hp ha K hK      -- 27: t73 := Op.call { builtin len, args := #[t72], argTypes := #[24] }
              obtain ⟨w72, h72, r72⟩ := hp 26 (by decide)
              have e72 : (ac.tmps[72]?).getD undef = .slice a.L n a.lc := (ha 72 (by decide)).trans h72
              clear h72
              obtain ⟨w69, h69, r69⟩ := hp 23 (by decide)
              have e69 : (ac.tmps[69]?).getD undef = .bool false := (ha 69 (by decide)).trans h69
              clear h69
              clear ha hp
              refine Reg.Op1.guarded rfl rfl e69 (fun _ => Reg.Op1.plain rfl ?_) (fun h => absurd rfl h)
              go_wp2
              exact ⟨rfl, hK _ _ rfl (Reg.Wr.same _)⟩
            · intro val ac u hR hp ha K hK      -- 28: t74 := Op.indexAddr 24 t70 t73
              obtain ⟨w70, h70, r70⟩ := hp 24 (by decide)
              have e70 : (ac.tmps[70]?).getD undef = .slice (some ⟨bB, oB, none⟩) (n + 1) c2 := (ha 70 (by decide)).trans h70
              clear h70
              obtain ⟨w73, h73, r73⟩ := hp 27 (by decide)
              have e73 : (ac.tmps[73]?).getD undef = .int .i64 ((n : Nat) : Int) := (ha 73 (by decide)).trans h73
              clear h73
              obtain ⟨w69, h69, r69⟩ := hp 23 (by decide)
              have e69 : (ac.tmps[69]?).getD undef = .bool false := (ha 69 (by decide)).trans h69
              clear h69
              clear ha hp
              refine Reg.Op1.guarded rfl rfl e69 (fun _ => Reg.Op1.plain rfl ?_) (fun h => absurd rfl h)
              go_wp2
              exact ⟨rfl, hK _ _ rfl (Reg.Wr.same _)⟩
            · intro val ac u hR hp ha K hK      -- 29: t75 := Op.fieldAddr 33 t74 7
              obtain ⟨w74, h74, r74⟩ := hp 28 (by decide)
              have e74 : (ac.tmps[74]?).getD undef = .pointer (some ⟨bB, oB + n * 20, none⟩) := (ha 74 (by decide)).trans h74
              clear h74
              obtain ⟨w69, h69, r69⟩ := hp 23 (by decide)
              have e69 : (ac.tmps[69]?).getD undef = .bool false := (ha 69 (by decide)).trans h69
              clear h69
              clear ha hp
              refine Reg.Op1.guarded rfl rfl e69 (fun _ => Reg.Op1.plain rfl ?_) (fun h => absurd rfl h)
              go_wp2
              exact ⟨rfl, hK _ _ rfl (Reg.Wr.same _)⟩
            · intro val ac u hR hp ha K hK      -- 30: t76 := Op.load 3 t75
              obtain ⟨w75, h75, r75⟩ := hp 29 (by decide)
              have e75 : (ac.tmps[75]?).getD undef = .pointer (some ⟨bB, oB + n * 20 + 19, none⟩) := (ha 75 (by decide)).trans h75
              clear h75
              obtain ⟨w69, h69, r69⟩ := hp 23 (by decide)
              have e69 : (ac.tmps[69]?).getD undef = .bool false := (ha 69 (by decide)).trans h69
              clear h69
              clear ha hp
              refine Reg.Op1.guarded rfl rfl e69 (fun _ => Reg.Op1.plain rfl ?_) (fun h => absurd rfl h)
              have hq := (Mem.Keeps.refl (fun k => HB gh A1 k ∨ HB gd Ad k ∨ False) w7).drew.trans (Reg.Wr.all hR) (fun _ h _ => h)
              have x0 := (hq.cell (p := ⟨bB, oB + n * 20 + 19, none⟩) hbB (fun h2 => HBn.out bB rfl (by rcases h2 with h2 | h2 | h2; exact .inl h2; exact .inr h2; exact h2.elim))).trans H77.out
              go_wp2
              exact ⟨rfl, hK _ _ rfl (Reg.Wr.same _)⟩
            · intro val ac u hR hp ha K hK      -- 31: t77 := Op.binOp BinOp.neq 3 t76 (const (Value.int IntKind.i64 (-77))) 3
              obtain ⟨w76, h76, r76⟩ := hp 30 (by decide)
              have e76 : (ac.tmps[76]?).getD undef = .int .i64 (-77) := (ha 76 (by decide)).trans h76
              clear h76
              obtain ⟨w69, h69, r69⟩ := hp 23 (by decide)
              have e69 : (ac.tmps[69]?).getD undef = .bool false := (ha 69 (by decide)).trans h69
              clear h69
              clear ha hp
              refine Reg.Op1.guarded rfl rfl e69 (fun _ => Reg.Op1.plain rfl ?_) (fun h => absurd rfl h)
              go_wp2
              exact ⟨rfl, hK _ _ rfl (Reg.Wr.same _)⟩
            · intro val ac u hR hp ha K hK      -- 32: t78 := Op.pick t69 (const (Value.bool true)) t77
              obtain ⟨w69, h69, r69⟩ := hp 23 (by decide)
              have e69 : (ac.tmps[69]?).getD undef = .bool false := (ha 69 (by decide)).trans h69
              clear h69
              obtain ⟨w77, h77, r77⟩ := hp 31 (by decide)
              have e77 : (ac.tmps[77]?).getD undef = .bool false := (ha 77 (by decide)).trans h77
              clear h77
              clear ha hp
              refine Reg.Op1.plain rfl ?_
              go_wp2
              exact ⟨rfl, hK _ _ rfl (Reg.Wr.same _)⟩
          · intro val u hR H
            obtain ⟨_, hv, _⟩ := H 32 (by decide)
            have hv : val 32 = .bool false := hv
            obtain ⟨wb, ⟨_, A', c', Ad', cd', hT0⟩, rb⟩ := H 10 (by decide)
            have hT := hT0.quiet (Reg.Wr.none rb (by decide +kernel) (by decide +kernel) (by decide +kernel))
            have HMM : Hid (PlMid w gh gd rng u) := ⟨⟨A', c', Ad', cd', _, hT, putL_max rng hs a.es h16, putL_right rng hs a.es HRt.out⟩⟩
            simp only [List.map_cons, List.map_nil, Reg.lay, Act.put, List.setIfInBounds_toArray, List.set_cons_succ, List.set_cons_zero, Nat.reduceAdd, hv]
            clear hR H hv rb hT hT0
            go_wp2
            go_meet
            case rel => exact HMM.out
        · have d1 : (a.kind == 1) = false := by simp [k1]
          by_cases k2 : a.kind = 2
          · have d2 : (a.kind == 2) = true := by simp [k2]
            have HXx := Lib.hid (next_any a.vec rng gh A1 c hs w5 HT5.out.H (by omega) (fun e he => (HRt.out e he).1))
            obtain ⟨x, bx, hnx⟩ : ∃ x bx, nextE a.vec hs = (x, bx) := ⟨_, _, rfl⟩
            have HNx := Lib.hid hnx
            have ho1 := ent_one x
            clear k1 k2 hnx
            go_upto_region 18 with (first | ((with_reducible refine Mem.load_agg _ _ vec_agg (ga) 2 (vcCells a.vec) ?hxpc (vcCells_length _) (HX5.out.part 2 rfl) ?_); (case hxpc => exact rfl)) | (go_at_call 11; refine HXx.out.mono ?_; rintro x9 w6 ⟨rfl, hA6, hk6⟩; rw [HNx.out]; have HT6 := Lib.hid (HT5.out.stepH hA6 hk6 (fun q h => .inl h)); have HX6 : Hid (Mem.Bx w6 44 11 ga (acCells a)) := HX5.out.keeps hk6 (fun h => HXn.out (.inl h)); clear hA6 hk6) | ((with_reducible refine Mem.store_agg _ _ entry_agg (w6.heap.size) (entCells ent0) (entCells x) ?hxpd ?hypd ?hbpd (entCells_length _) (ho1) ?_); ((case hxpd => exact rfl); (case hypd => exact rfl); (case hbpd => exact Mem.Bx.new w6 _ (entCells ent0).toArray rfl rfl); intro w7 hbq hkq hsq; have Hb7 := Lib.hid hbq; have Hk7 := Lib.hid hkq; clear hbq hkq hsq)))
            have HK7 : Hid (Below w6.heap.size w6 w7) := (Hk7.out.newBox rfl).belowAll
            have HT7 := Lib.hid (HT6.out.below HK7.out)
            have HX7 : Hid (Mem.Bx w7 44 11 ga (acCells a)) := HX6.out.below HK7.out HX6.out.lt
            obtain ⟨gx, hgx⟩ : ∃ gx, w6.heap.size = gx := ⟨_, rfl⟩
            rw [hgx] at Hb7 ⊢
            have HGX : Hid (¬ HB gd Ad gx) := fun h => by have := HT6.out.D.lt gx h; omega
            have HXy := Lib.hid (refNext_any a.vec rng gd Ad cd hs w7 HT7.out.D (by omega) (fun e he => (HRt.out e he).1) HVI.out)
            clear hgx HT6 HX6 HXx HK7 Hk7
            go_upto_region 19 with (first | ((with_reducible refine Mem.load_agg _ _ vec_agg (ga) 2 (vcCells a.vec) ?hxpe (vcCells_length _) (HX7.out.part 2 rfl) ?_); (case hxpe => exact rfl)) | (go_at_call 20; refine HXy.out.mono ?_; rintro x9 w8 ⟨rfl, ⟨Ad8, cd8, hA8, hq8⟩, hk8⟩; rw [HNx.out]; have HT8 := Lib.hid (HT7.out.stepD hA8 hk8 hq8); have HE8 : Hid (EBx w8 gx x) := Hb7.out.keeps hk8 HGX.out; clear hA8 hq8 hk8) | ((with_reducible refine Mem.store_agg _ _ entry_agg (w8.heap.size) (entCells ent0) (entCells x) ?hxpf ?hypf ?hbpf (entCells_length _) (ho1) ?_); ((case hxpf => exact rfl); (case hypf => exact rfl); (case hbpf => exact Mem.Bx.new w8 _ (entCells ent0).toArray rfl rfl); intro w9 hbq hkq hsq; have Hb9 := Lib.hid hbq; have Hk9 := Lib.hid hkq; clear hbq hkq hsq)))
            have HK9 : Hid (Below w8.heap.size w8 w9) := (Hk9.out.newBox rfl).belowAll
            have HT9 := Lib.hid (HT8.out.below HK9.out)
            have HE9 : Hid (EBx w9 gx x) := HE8.out.below HK9.out HE8.out.lt
            have HY9 : Hid (EBx w9 w8.heap.size x) := Hb9
            obtain ⟨gy, hgy⟩ : ∃ gy, w8.heap.size = gy := ⟨_, rfl⟩
            rw [hgy] at HY9 ⊢
            have e1 : ∀ W, (binOp .neq 33 (.agg (entCells x).toArray) (.agg (entCells x).toArray)).run Try.prog W = .ok (.bool false) W := fun W => by rw [neq_ent, eqEnt_iff.2 rfl]; rfl
            have hbb : (bx != bx) = false := by simp
            have HMM : Hid (PlMid w gh gd rng w9) := ⟨⟨A1, c, Ad8, cd8, nextL a.vec hs, HT9, Nat.le_trans (nextL_sub a.vec hs).2 h16, fun e he => HRt.out e ((nextL_sub a.vec hs).1 e he)⟩⟩
            clear hgy HT8 HE8 HXy HK9 Hk9 Hb9 HT7 HX7 Hb7 HT9 x0
            go_wp2_with (first | ((with_reducible refine Mem.load_aggG _ _ entry_agg (gx) 0 (entCells x) ?hwpg ?hxpg (entCells_length _) (fun j u hu => by rw [Nat.zero_add]; exact HE9.out.cell hu) ?_); ((case hwpg => rfl); (case hxpg => exact rfl))) | ((with_reducible refine Mem.load_aggG _ _ entry_agg (gy) 0 (entCells x) ?hwph ?hxph (entCells_length _) (fun j u hu => by rw [Nat.zero_add]; exact HY9.out.cell hu) ?_); ((case hwph => rfl); (case hxph => exact rfl))))
            go_meet
            case rel => exact HMM.out
          · have d2 : (a.kind == 2) = false := by simp [k2]
            by_cases k3 : a.kind = 3
            · have d3 : (a.kind == 3) = true := by simp [k3]
              clear k1 k2 k3
              go_upto_region 22 with fail
              clear x0
              refine Reg.wp_region_w (by kernel_rfl) 143 9 rfl rfl (by kernel_rfl) (3) (HB gh A1) (7) (HB gd Ad) (3) (fun _ => False)
                (fun i v u => match i with
                  | 0 => v = .pointer (some ⟨gh, 0, none⟩)
                  | 1 => v = .pointer (some ⟨ga, 2, none⟩)
                  | 2 => v = .agg (vcCells a.vec).toArray
                  | 3 => v = .int .i64 (hs.length - (purged a.vec hs).length : Nat) ∧ ∃ A' c', Both w gh gd A' c' (purged a.vec hs) Ad cd hs rng u
                  | 4 => v = .pointer (some ⟨gd, 0, none⟩)
                  | 5 => v = .pointer (some ⟨ga, 2, none⟩)
                  | 6 => v = .agg (vcCells a.vec).toArray
                  | 7 => v = .int .i64 (hs.length - (purged a.vec hs).length : Nat) ∧ ∃ A' c' Ad' cd', Both w gh gd A' c' (purged a.vec hs) Ad' cd' (purged a.vec hs) rng u
                  | 8 => v = .bool false
                  | _ => True) ?_ ?_
              · refine Reg.Steps.cons ?_ (Reg.Steps.cons ?_ (Reg.Steps.cons ?_ (Reg.Steps.cons ?_ (Reg.Steps.cons ?_ (Reg.Steps.cons ?_ (Reg.Steps.cons ?_ (Reg.Steps.cons ?_ (Reg.Steps.cons ?_ (Reg.Steps.nil _)))))))))
                · intro val ac u hR hp ha K hK      -- 0: t105 := Op.move t5
                  have e5 : (ac.tmps[5]?).getD undef = .pointer (some ⟨gh, 0, none⟩) := ha 5 (by decide)
                  clear ha hp
                  refine Reg.Op1.plain rfl ?_
                  go_wp2
                  exact ⟨rfl, hK _ _ rfl (Reg.Wr.same _)⟩
                · intro val ac u hR hp ha K hK      -- 1: t106 := Op.fieldAddr 44 t8 2
                  have e8 : (ac.tmps[8]?).getD undef = .pointer (some ⟨ga, 0, none⟩) := ha 8 (by decide)
                  clear ha hp
                  refine Reg.Op1.plain rfl ?_
                  go_wp2
                  exact ⟨rfl, hK _ _ rfl (Reg.Wr.same _)⟩
                · intro val ac u hR hp ha K hK      -- 2: t107 := Op.load 27 t106
                  obtain ⟨w106, h106, r106⟩ := hp 1 (by decide)
                  have e106 : (ac.tmps[106]?).getD undef = .pointer (some ⟨ga, 2, none⟩) := (ha 106 (by decide)).trans h106
                  clear h106
                  clear ha hp
                  refine Reg.Op1.plain rfl ?_
                  have hq := (Mem.Keeps.refl (fun k => HB gh A1 k ∨ HB gd Ad k ∨ False) w5).drew.trans (Reg.Wr.all hR) (fun _ h _ => h)
                  refine Mem.load_agg _ _ vec_agg ga 2 (vcCells a.vec) (Reg.eval_of e106) (vcCells_length _) ((HX5.out.keeps hq HXn.out).part 2 rfl) ?_
                  exact ⟨rfl, hK _ _ rfl (Reg.Wr.same _)⟩
                · intro val ac u hR hp ha K hK      -- 3: t108 := Op.call { value (Operand.func 21), args := #[t105, t107], argTypes := #[35, 27] }
                  obtain ⟨w105, h105, r105⟩ := hp 0 (by decide)
                  have e105 : (ac.tmps[105]?).getD undef = .pointer (some ⟨gh, 0, none⟩) := (ha 105 (by decide)).trans h105
                  clear h105
                  obtain ⟨w107, h107, r107⟩ := hp 2 (by decide)
                  have e107 : (ac.tmps[107]?).getD undef = .agg (vcCells a.vec).toArray := (ha 107 (by decide)).trans h107
                  clear h107
                  clear ha hp
                  refine Reg.Op1.plain rfl ?_
                  have hq := (Mem.Keeps.refl (fun _ => False) w5).drew.trans (Reg.Wr.none hR (by decide +kernel) (by decide +kernel) (by decide +kernel)) (fun _ h _ => h)
                  have hT := HT5.out.quiet hq
                  have hp := purge_any a.vec rng gh A1 c hs u hT.H (by omega)
                  go_wp2_with fail
                  refine hp.mono ?_
                  rintro x w' ⟨rfl, hA', hk'⟩
                  go_wp2_with fail
                  exact ⟨rfl, hK _ _ ⟨rfl, A1, c, hT.stepH hA' hk' (fun q h => .inl h)⟩ (Reg.Wr.does1 hk')⟩
                · intro val ac u hR hp ha K hK      -- 4: t109 := Op.move t6
                  have e6 : (ac.tmps[6]?).getD undef = .pointer (some ⟨gd, 0, none⟩) := ha 6 (by decide)
                  clear ha hp
                  refine Reg.Op1.plain rfl ?_
                  go_wp2
                  exact ⟨rfl, hK _ _ rfl (Reg.Wr.same _)⟩
                · intro val ac u hR hp ha K hK      -- 5: t110 := Op.fieldAddr 44 t8 2
                  have e8 : (ac.tmps[8]?).getD undef = .pointer (some ⟨ga, 0, none⟩) := ha 8 (by decide)
                  clear ha hp
                  refine Reg.Op1.plain rfl ?_
                  go_wp2
                  exact ⟨rfl, hK _ _ rfl (Reg.Wr.same _)⟩
                · intro val ac u hR hp ha K hK      -- 6: t111 := Op.load 27 t110
                  obtain ⟨w110, h110, r110⟩ := hp 5 (by decide)
                  have e110 : (ac.tmps[110]?).getD undef = .pointer (some ⟨ga, 2, none⟩) := (ha 110 (by decide)).trans h110
                  clear h110
                  clear ha hp
                  refine Reg.Op1.plain rfl ?_
                  have hq := (Mem.Keeps.refl (fun k => HB gh A1 k ∨ HB gd Ad k ∨ False) w5).drew.trans (Reg.Wr.all hR) (fun _ h _ => h)
                  refine Mem.load_agg _ _ vec_agg ga 2 (vcCells a.vec) (Reg.eval_of e110) (vcCells_length _) ((HX5.out.keeps hq HXn.out).part 2 rfl) ?_
                  exact ⟨rfl, hK _ _ rfl (Reg.Wr.same _)⟩
                · intro val ac u hR hp ha K hK      -- 7: t112 := Op.call { value (Operand.func 22), args := #[t109, t111], argTypes := #[51, 27] }
                  obtain ⟨w109, h109, r109⟩ := hp 4 (by decide)
                  have e109 : (ac.tmps[109]?).getD undef = .pointer (some ⟨gd, 0, none⟩) := (ha 109 (by decide)).trans h109
                  clear h109
                  obtain ⟨w111, h111, r111⟩ := hp 6 (by decide)
                  have e111 : (ac.tmps[111]?).getD undef = .agg (vcCells a.vec).toArray := (ha 111 (by decide)).trans h111
                  clear h111
                  obtain ⟨w108, h108, r108⟩ := hp 3 (by decide)
                  clear ha hp
                  refine Reg.Op1.plain rfl ?_
                  obtain ⟨_, A', c', hT0⟩ := h108
                  have hT := hT0.quiet (Reg.Wr.none r108 (by decide +kernel) (by decide +kernel) (by decide +kernel))
                  have hp := refPurge_any a.vec rng gd Ad cd hs u hT.D (by omega) (fun e he => (HRt.out e he).1)
                  go_wp2_with fail
                  refine hp.mono ?_
                  rintro x w' ⟨rfl, ⟨Ad', cd', hA', hq'⟩, hk'⟩
                  go_wp2_with fail
                  exact ⟨rfl, hK _ _ ⟨rfl, A', c', Ad', cd', hT.stepD hA' hk' hq'⟩ (Reg.Wr.does2 hk')⟩
                · intro val ac u hR hp ha K hK      -- 8: t113 := Op.binOp BinOp.neq 3 t108 t112 3
                  obtain ⟨w108, h108, r108⟩ := hp 3 (by decide)
                  have e108 : (ac.tmps[108]?).getD undef = val 3 := ha 108 (by decide)
                  obtain ⟨w112, h112, r112⟩ := hp 7 (by decide)
                  have e112 : (ac.tmps[112]?).getD undef = val 7 := ha 112 (by decide)
                  clear ha hp
                  refine Reg.Op1.plain rfl ?_
                  rw [h108.1] at e108
                  rw [h112.1] at e112
                  have hbb : (((hs.length - (purged a.vec hs).length : Nat) : Int) != ((hs.length - (purged a.vec hs).length : Nat) : Int)) = false := by simp
                  go_wp2
                  exact ⟨rfl, hK _ _ rfl (Reg.Wr.same _)⟩
              · intro val u hR H
                obtain ⟨_, hv, _⟩ := H 8 (by decide)
                have hv : val 8 = .bool false := hv
                obtain ⟨wb, ⟨_, A', c', Ad', cd', hT0⟩, rb⟩ := H 7 (by decide)
                have hT := hT0.quiet (Reg.Wr.none rb (by decide +kernel) (by decide +kernel) (by decide +kernel))
                have HMM : Hid (PlMid w gh gd rng u) := ⟨⟨A', c', Ad', cd', _, hT, Nat.le_trans (purged_sub a.vec hs).2 h16, fun e he => HRt.out e ((purged_sub a.vec hs).1 e he)⟩⟩
                simp only [List.map_cons, List.map_nil, Reg.lay, Act.put, List.setIfInBounds_toArray, List.set_cons_succ, List.set_cons_zero, Nat.reduceAdd, hv]
                clear hR H hv rb hT hT0
                go_wp2
                go_meet
                case rel => exact HMM.out
            · have d3 : (a.kind == 3) = false := by simp [k3]
              have HMM : Hid (PlMid w gh gd rng w5) := ⟨⟨A1, c, Ad, cd, hs, HT5, h16, HRt⟩⟩
              clear k1 k2 k3
              go_wp2
              go_meet
              case rel => exact HMM.out
      case rest =>
        clear HT5 HX5 HXn HGL x0 h16 HRt
        obtain ⟨A1, c, Ad, cd, hs, HT, h16, HRt⟩ := hcut.out
        clear hcut
        rename World => wz
        have hg3 : hs.length ≤ 300 := by omega
        go_upto_region 25 with (go_at_call 17; refine (holdEntries_any HT.out.H hg3).mono ?_; rintro x w8 ⟨Al, cl, rfl, hO8, hF8, hb8⟩; have HO8 := Lib.hid hO8; have HF8 := Lib.hid hF8; have HB8 := Lib.hid hb8; clear hO8 hF8 hb8)
        have HT8 := Lib.hid (HT.out.below HB8.out)
        have HAl : Hid (∀ q, Mem.blk Al = some q → ¬ (HB gh A1 q ∨ HB gd Ad q)) := fun q h h2 => by
          have h3 := HF8.out.blk q h
          rcases h2 with h2 | h2
          · have := HT.out.H.lt q h2; omega
          · have := HT.out.D.lt q h2; omega
        have HAw : Hid (∀ q, Mem.blk Al = some q → w.heap.size ≤ q) := fun q h => Nat.le_trans HT.out.b.size (HF8.out.blk q h)
        clear HT HF8 HB8
        refine Reg.wp_region_rel (by kernel_rfl) 143 17 rfl rfl (by kernel_rfl) (Reg.Adds) (Reg.Adds.refl) (Reg.Adds.trans)
          (fun i v u => match i with
            | 0 => v = .slice Al hs.length cl
            | 1 => v = .pointer (some ⟨gd, 0, none⟩)
            | 2 => v = .pointer (some ⟨gd, 0, none⟩)
            | 3 => v = .pointer (some ⟨gd, 1, none⟩)
            | 4 => v = .slice Ad hs.length cd
            | 5 => v = .bool true
            | 6 => v = .bool false
            | 7 => v = .bool false
            | 8 => v = .pointer (some ⟨gh, 0, none⟩)
            | 9 => v = .int .i64 (hs.length : Nat)
            | 10 => v = .pointer (some ⟨gd, 0, none⟩)
            | 11 => v = .pointer (some ⟨gd, 0, none⟩)
            | 12 => v = .pointer (some ⟨gd, 1, none⟩)
            | 13 => v = .slice Ad hs.length cd
            | 14 => v = .int .i64 ((hs.length : Nat) : Int)
            | 15 => v = .bool false
            | 16 => v = .bool false
            | _ => True) ?_ ?_
        · refine Reg.Steps.cons ?_ (Reg.Steps.cons ?_ (Reg.Steps.cons ?_ (Reg.Steps.cons ?_ (Reg.Steps.cons ?_ (Reg.Steps.cons ?_ (Reg.Steps.cons ?_ (Reg.Steps.cons ?_ (Reg.Steps.cons ?_ (Reg.Steps.cons ?_ (Reg.Steps.cons ?_ (Reg.Steps.cons ?_ (Reg.Steps.cons ?_ (Reg.Steps.cons ?_ (Reg.Steps.cons ?_ (Reg.Steps.cons ?_ (Reg.Steps.cons ?_ (Reg.Steps.nil _)))))))))))))))))
          · intro val ac u hR hp ha K hK      -- 0: t116 := Op.move t14
            have e14 : (ac.tmps[14]?).getD undef = .slice Al hs.length cl := ha 14 (by decide)
            clear ha hp
            refine Reg.Op1.plain rfl ?_
            go_wp2
            exact ⟨rfl, hK _ _ rfl (fun j k _ _ => Reg.Adds.refl _ _ _)⟩
          · intro val ac u hR hp ha K hK      -- 1: t117 := Op.move t6
            have e6 : (ac.tmps[6]?).getD undef = .pointer (some ⟨gd, 0, none⟩) := ha 6 (by decide)
            clear ha hp
            refine Reg.Op1.plain rfl ?_
            go_wp2
            exact ⟨rfl, hK _ _ rfl (fun j k _ _ => Reg.Adds.refl _ _ _)⟩
          · intro val ac u hR hp ha K hK      -- 2: t118 := Op.nilCheck t117
            obtain ⟨w117, h117, r117⟩ := hp 1 (by decide)
            have e117 : (ac.tmps[117]?).getD undef = .pointer (some ⟨gd, 0, none⟩) := (ha 117 (by decide)).trans h117
            clear h117
            clear ha hp
            refine Reg.Op1.plain rfl ?_
            go_wp2
            exact ⟨rfl, hK _ _ rfl (fun j k _ _ => Reg.Adds.refl _ _ _)⟩
          · intro val ac u hR hp ha K hK      -- 3: t119 := Op.fieldAddr 53 t118 1
            obtain ⟨w118, h118, r118⟩ := hp 2 (by decide)
            have e118 : (ac.tmps[118]?).getD undef = .pointer (some ⟨gd, 0, none⟩) := (ha 118 (by decide)).trans h118
            clear h118
            clear ha hp
            refine Reg.Op1.plain rfl ?_
            go_wp2
            exact ⟨rfl, hK _ _ rfl (fun j k _ _ => Reg.Adds.refl _ _ _)⟩
          · intro val ac u hR hp ha K hK      -- 4: t120 := Op.load 24 t119
            obtain ⟨w119, h119, r119⟩ := hp 3 (by decide)
            have e119 : (ac.tmps[119]?).getD undef = .pointer (some ⟨gd, 1, none⟩) := (ha 119 (by decide)).trans h119
            clear h119
            clear ha hp
            refine Reg.Op1.plain rfl ?_
            have x0 := (hR.cell (p := ⟨gd, 1, none⟩) HT8.out.D.B.lt).trans (HT8.out.D.B.cell (j := 1) rfl)
            go_wp2
            exact ⟨rfl, hK _ _ rfl (fun j k _ _ => Reg.Adds.refl _ _ _)⟩
          · intro val ac u hR hp ha K hK      -- 5: t121 := Op.call { value (Operand.func 19), args := #[t116, t120], argTypes := #[24, 24] }
            obtain ⟨w116, h116, r116⟩ := hp 0 (by decide)
            have e116 : (ac.tmps[116]?).getD undef = .slice Al hs.length cl := (ha 116 (by decide)).trans h116
            clear h116
            obtain ⟨w120, h120, r120⟩ := hp 4 (by decide)
            have e120 : (ac.tmps[120]?).getD undef = .slice Ad hs.length cd := (ha 120 (by decide)).trans h120
            clear h120
            clear ha hp
            refine Reg.Op1.plain rfl ?_
            have hKu : Below w8.heap.size w8 u := (Below.refl _ w8).drew.trans hR
            have hp := entries_any Al Ad cl cd hs u.heap.size u.heap.size u (HO8.out.keeps (Mem.Keeps.of_below hKu) (fun _ _ h => h)).rd (HT8.out.below hKu).D.O.rd (Nat.le_refl _) (Nat.le_refl _) (by omega)
            go_wp2_with fail
            refine hp.mono ?_
            rintro x w' ⟨rfl, hbw⟩
            go_wp2_with fail
            exact ⟨rfl, hK _ _ rfl (fun j k _ _ => hbw)⟩
          · intro val ac u hR hp ha K hK      -- 6: t122 := Op.unOp UnOp.not 4 t121
            obtain ⟨w121, h121, r121⟩ := hp 5 (by decide)
            have e121 : (ac.tmps[121]?).getD undef = .bool true := (ha 121 (by decide)).trans h121
            clear h121
            clear ha hp
            refine Reg.Op1.plain rfl ?_
            go_wp2
            exact ⟨rfl, hK _ _ rfl (fun j k _ _ => Reg.Adds.refl _ _ _)⟩
          · intro val ac u hR hp ha K hK      -- 7: t123 := Op.move t122
            obtain ⟨w122, h122, r122⟩ := hp 6 (by decide)
            have e122 : (ac.tmps[122]?).getD undef = .bool false := (ha 122 (by decide)).trans h122
            clear h122
            clear ha hp
            refine Reg.Op1.plain rfl ?_
            go_wp2
            exact ⟨rfl, hK _ _ rfl (fun j k _ _ => Reg.Adds.refl _ _ _)⟩
          · intro val ac u hR hp ha K hK      -- 8: t124 := Op.move t5
            have e5 : (ac.tmps[5]?).getD undef = .pointer (some ⟨gh, 0, none⟩) := ha 5 (by decide)
            obtain ⟨w123, h123, r123⟩ := hp 7 (by decide)
            have e123 : (ac.tmps[123]?).getD undef = .bool false := (ha 123 (by decide)).trans h123
            clear h123
            clear ha hp
            refine Reg.Op1.guarded rfl rfl e123 (fun _ => Reg.Op1.plain rfl ?_) (fun h => absurd rfl h)
            go_wp2
            exact ⟨rfl, hK _ _ rfl (fun j k _ _ => Reg.Adds.refl _ _ _)⟩
          · intro val ac u hR hp ha K hK      -- 9: t125 := Op.call { value (Operand.func 12), args := #[t124], argTypes := #[35] }
            obtain ⟨w124, h124, r124⟩ := hp 8 (by decide)
            have e124 : (ac.tmps[124]?).getD undef = .pointer (some ⟨gh, 0, none⟩) := (ha 124 (by decide)).trans h124
            clear h124
            obtain ⟨w123, h123, r123⟩ := hp 7 (by decide)
            have e123 : (ac.tmps[123]?).getD undef = .bool false := (ha 123 (by decide)).trans h123
            clear h123
            clear ha hp
            refine Reg.Op1.guarded rfl rfl e123 (fun _ => Reg.Op1.plain rfl ?_) (fun h => absurd rfl h)
            have hKu : Below w8.heap.size w8 u := (Below.refl _ w8).drew.trans hR
            have hp := holdLen_any (HT8.out.below hKu).H
            go_wp2_with fail
            refine hp.mono ?_
            rintro x w' ⟨rfl, rfl⟩
            go_wp2_with fail
            exact ⟨rfl, hK _ _ rfl (fun j k _ _ => Reg.Adds.refl _ _ _)⟩
          · intro val ac u hR hp ha K hK      -- 10: t126 := Op.move t6
            have e6 : (ac.tmps[6]?).getD undef = .pointer (some ⟨gd, 0, none⟩) := ha 6 (by decide)
            obtain ⟨w123, h123, r123⟩ := hp 7 (by decide)
            have e123 : (ac.tmps[123]?).getD undef = .bool false := (ha 123 (by decide)).trans h123
            clear h123
            clear ha hp
            refine Reg.Op1.guarded rfl rfl e123 (fun _ => Reg.Op1.plain rfl ?_) (fun h => absurd rfl h)
            go_wp2
            exact ⟨rfl, hK _ _ rfl (fun j k _ _ => Reg.Adds.refl _ _ _)⟩
          · intro val ac u hR hp ha K hK      -- 11: t127 := Op.nilCheck t126
            obtain ⟨w126, h126, r126⟩ := hp 10 (by decide)
            have e126 : (ac.tmps[126]?).getD undef = .pointer (some ⟨gd, 0, none⟩) := (ha 126 (by decide)).trans h126
            clear h126
            obtain ⟨w123, h123, r123⟩ := hp 7 (by decide)
            have e123 : (ac.tmps[123]?).getD undef = .bool false := (ha 123 (by decide)).trans h123
            clear h123
            clear ha hp
            refine Reg.Op1.guarded rfl rfl e123 (fun _ => Reg.Op1.plain rfl ?_) (fun h => absurd rfl h)
            go_wp2
            exact ⟨rfl, hK _ _ rfl (fun j k _ _ => Reg.Adds.refl _ _ _)⟩
          · intro val ac u hR hp ha K hK      -- 12: t128 := Op.fieldAddr 53 t127 1
            obtain ⟨w127, h127, r127⟩ := hp 11 (by decide)
            have e127 : (ac.tmps[127]?).getD undef = .pointer (some ⟨gd, 0, none⟩) := (ha 127 (by decide)).trans h127
            clear h127
            obtain ⟨w123, h123, r123⟩ := hp 7 (by decide)
            have e123 : (ac.tmps[123]?).getD undef = .bool false := (ha 123 (by decide)).trans h123
            clear h123
            clear ha hp
            refine Reg.Op1.guarded rfl rfl e123 (fun _ => Reg.Op1.plain rfl ?_) (fun h => absurd rfl h)
            go_wp2
            exact ⟨rfl, hK _ _ rfl (fun j k _ _ => Reg.Adds.refl _ _ _)⟩
          · intro val ac u hR hp ha K hK      -- 13: t129 := Op.load 24 t128
            obtain ⟨w128, h128, r128⟩ := hp 12 (by decide)
            have e128 : (ac.tmps[128]?).getD undef = .pointer (some ⟨gd, 1, none⟩) := (ha 128 (by decide)).trans h128
            clear h128
            obtain ⟨w123, h123, r123⟩ := hp 7 (by decide)
            have e123 : (ac.tmps[123]?).getD undef = .bool false := (ha 123 (by decide)).trans h123
            clear h123
            clear ha hp
            refine Reg.Op1.guarded rfl rfl e123 (fun _ => Reg.Op1.plain rfl ?_) (fun h => absurd rfl h)
            have x0 := (hR.cell (p := ⟨gd, 1, none⟩) HT8.out.D.B.lt).trans (HT8.out.D.B.cell (j := 1) rfl)
            go_wp2
            exact ⟨rfl, hK _ _ rfl (fun j k _ _ => Reg.Adds.refl _ _ _)⟩
          · intro val ac u hR hp ha K hK      -- 14: t130 := Op.call { builtin len, args := #[t129], argTypes := #[24] }
            obtain ⟨w129, h129, r129⟩ := hp 13 (by decide)
            have e129 : (ac.tmps[129]?).getD undef = .slice Ad hs.length cd := (ha 129 (by decide)).trans h129
            clear h129
            obtain ⟨w123, h123, r123⟩ := hp 7 (by decide)
            have e123 : (ac.tmps[123]?).getD undef = .bool false := (ha 123 (by decide)).trans h123
            clear h123
            clear ha hp
            refine Reg.Op1.guarded rfl rfl e123 (fun _ => Reg.Op1.plain rfl ?_) (fun h => absurd rfl h)
            go_wp2
            exact ⟨rfl, hK _ _ rfl (fun j k _ _ => Reg.Adds.refl _ _ _)⟩
          · intro val ac u hR hp ha K hK      -- 15: t131 := Op.binOp BinOp.neq 3 t125 t130 3
            obtain ⟨w125, h125, r125⟩ := hp 9 (by decide)
            have e125 : (ac.tmps[125]?).getD undef = .int .i64 (hs.length : Nat) := (ha 125 (by decide)).trans h125
            clear h125
            obtain ⟨w130, h130, r130⟩ := hp 14 (by decide)
            have e130 : (ac.tmps[130]?).getD undef = .int .i64 ((hs.length : Nat) : Int) := (ha 130 (by decide)).trans h130
            clear h130
            obtain ⟨w123, h123, r123⟩ := hp 7 (by decide)
            have e123 : (ac.tmps[123]?).getD undef = .bool false := (ha 123 (by decide)).trans h123
            clear h123
            clear ha hp
            refine Reg.Op1.guarded rfl rfl e123 (fun _ => Reg.Op1.plain rfl ?_) (fun h => absurd rfl h)
            go_wp2
            exact ⟨rfl, hK _ _ rfl (fun j k _ _ => Reg.Adds.refl _ _ _)⟩
          · intro val ac u hR hp ha K hK      -- 16: t132 := Op.pick t123 (const (Value.bool true)) t131
            obtain ⟨w123, h123, r123⟩ := hp 7 (by decide)
            have e123 : (ac.tmps[123]?).getD undef = .bool false := (ha 123 (by decide)).trans h123
            clear h123
            obtain ⟨w131, h131, r131⟩ := hp 15 (by decide)
            have e131 : (ac.tmps[131]?).getD undef = .bool false := (ha 131 (by decide)).trans h131
            clear h131
            clear ha hp
            refine Reg.Op1.plain rfl ?_
            go_wp2
            exact ⟨rfl, hK _ _ rfl (fun j k _ _ => Reg.Adds.refl _ _ _)⟩
        · intro val u hR H
          obtain ⟨_, hv, _⟩ := H 16 (by decide)
          have hv : val 16 = .bool false := hv
          have hKu : Below w8.heap.size w8 u := (Below.refl _ w8).drew.trans hR
          have HT9 := Lib.hid (HT8.out.below hKu)
          have HO9 : Hid (Mem.Own u 33 20 Al hs.length cl (hs.flatMap entCells)) := HO8.out.keeps (Mem.Keeps.of_below hKu) (fun _ _ h => h)
          simp only [List.map_cons, List.map_nil, Reg.lay, Act.put, List.setIfInBounds_toArray, List.set_cons_succ, List.set_cons_zero, Nat.reduceAdd, hv]
          clear hR H hv hKu HT8 HO8
          obtain ⟨w9, hw9⟩ : ∃ w9, w9 = u := ⟨_, rfl⟩
          subst hw9
          go_wp2
          go_loopw [15] (ZrRel w9 Al cl hs.length) (fun t _ => hs.length - (intOf t).toNat)
          case atStart => exact ⟨⟨0, _, Nat.zero_le _, rfl, HO9, Mem.Keeps.refl _ _⟩⟩
          case round =>
            obtain ⟨m, xs, hm, rfl, HOz, HKz⟩ := hrel.out
            clear hrel
            by_cases hltm : m < hs.length
            · obtain ⟨bz, oz, rfl⟩ := HOz.out.form (by omega)
              have ho0 := ent_one ent0
              go_wp2_with ((with_reducible refine Mem.store_elem _ 20 entry_agg _ hs.length cl bz oz m xs (entCells ent0) ?hxz ?hyz HOz.out (entCells_length _) hltm ho0 ?_); ((case hxz => exact rfl); (case hyz => exact rfl); intro w12 hoq hkq hsq; have HO12 := Lib.hid hoq; have HK12 := Lib.hid hkq; clear hoq hkq hsq))
              go_roundw
              case rel => exact ⟨⟨m + 1, _, hltm, by go_num, HO12, HKz.out.trans HK12.out (fun k h _ => by rw [h]; rfl)⟩⟩
              case measure => simp [intOf]; omega
            · obtain rfl : m = hs.length := by omega
              have h610 : Both w gh gd A1 c hs Ad cd hs rng wr := by
                have h1 := HT9.out
                have hbk := HKz.out
                exact ⟨h1.H.keeps hbk (fun q h2 h3 => HAl.out q h3 (.inl h2)), h1.D.keeps hbk (fun q h2 h3 => HAl.out q h3 (.inr h2)), h1.b.trans (hbk.below (fun q h3 => HAw.out q h3) h1.b.size), h1.hw, h1.dw, h1.ap⟩
              have HMM : Hid (PlMid w gh gd rng wr) := ⟨⟨A1, c, Ad, cd, hs, h610, h16, HRt⟩⟩
              clear h610 HT9 HO9 HKz HOz hm hltm h16
              go_wp2
              go_roundw
              case rel => exact ⟨⟨k + 1, hlt, by go_num, HMM.out⟩⟩
              case measure => simp [intOf]; omega
    · obtain rfl : k = acs.length := by omega
      go_wp2
      go_ret
      exact ⟨rfl, HT.out.b⟩
set_option maxRecDepth 20000 in
theorem opened {H : Type} (enc : TypeId × Value → H) (W : World) (base : Nat) (v0 v1 : Value) {d0 d1 : DataW H} {p0 p1 : List MemPlace}
    (o0 : Value.okWide Try.prog W .any base 3 v0) (o1 : Value.okWide Try.prog W .any base 45 v1)
    (k0 : DataW.Trod enc Try.prog W 0 (fun _ => true) true 3 v0 d0 p0) (k1 : DataW.Trod enc Try.prog W 0 (fun _ => true) true 45 v1 d1 p1)
    (z0 : (d0.weights Try.prog 3).all (· ≤ reachBytes) = true) (z1 : (d1.weights Try.prog 45).all (· ≤ reachBytes) = true) :
    Calls Try.prog 5 #[v0, v1] W fun e w' => e = .returned (.bool true) ∧ Below W.heap.size W w' := by
  obtain ⟨n, rfl, _⟩ := open_num o0 k0
  obtain ⟨A, c, acs, rfl, h1, h2, h3, h4⟩ := open_acts o1 k1 z1
  exact walk n A c acs W h3 (Nat.le_trans h1 h2) h4
end holdPlaysOpen
end Go.Proofs.Ytgdcfdjfoeoknaa
