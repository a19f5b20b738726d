/- The walk of 'come': a packet under way comes, or is lost. No conditions but that numbers fit. -/
import Derived.Test.YtjkonfanmpcipaaWorld0
import Derived.Deep.DeepCutAuto
import Derived.Deep.CutBlock
import Derived.Outline
namespace Go.Proofs.Ytjkonfanmpcipaa
open Go.RowKit
set_option linter.unusedVariables false

namespace Mem
theorem flat_take {α : Type} {f : α → List Value} {sz : Nat} (hf : ∀ a, (f a).length = sz) : ∀ (l : List α) (k : Nat), (l.flatMap f).take (k * sz) = (l.take k).flatMap f
  | [], k => by simp
  | a :: l, 0 => by simp
  | a :: l, k + 1 => by
    simp only [List.flatMap_cons, List.take_succ_cons]
    rw [List.take_append, hf, List.take_of_length_le (by rw [hf, Nat.add_mul]; omega), show (k + 1) * sz - sz = k * sz by rw [Nat.add_mul]; omega, flat_take hf l k]
theorem flat_drop {α : Type} {f : α → List Value} {sz : Nat} (hf : ∀ a, (f a).length = sz) : ∀ (l : List α) (k : Nat), (l.flatMap f).drop (k * sz) = (l.drop k).flatMap f
  | [], k => by simp
  | a :: l, 0 => by simp
  | a :: l, k + 1 => by
    simp only [List.flatMap_cons, List.drop_succ_cons]
    rw [List.drop_append, hf, List.drop_eq_nil_of_le (by rw [hf, Nat.add_mul]; omega), List.nil_append, show (k + 1) * sz - sz = k * sz by rw [Nat.add_mul]; omega, flat_drop hf l k]
end Mem
namespace Link
theorem pk_one {ps : List Pk} : ∀ u ∈ ps.flatMap pkCells, u.oneCell' = true := by
  intro u hu
  obtain ⟨p, _, hp⟩ := List.mem_flatMap.1 hu
  simp only [pkCells, List.mem_cons, List.not_mem_nil, or_false] at hp
  rcases hp with rfl | rfl | rfl | rfl | rfl <;> rfl
/-- an act, with where its list lies -/
structure Ac where
  kind : Int
  n : Int
  twice : Bool
  D : Option Addr
  dc : Nat
  data : List ByteArray
def acCells (a : Ac) : List Value := [.int .i64 a.kind, .int .i64 a.n, .bool a.twice, .slice a.D a.data.length a.dc]
abbrev AcV (a : Ac) : Value := .agg #[.int .i64 a.kind, .int .i64 a.n, .bool a.twice, .slice a.D a.data.length a.dc]
/-- packet k of field f is lost, if it is not to come twice -/
def lose (s : WS) (f k : Nat) (twice : Bool) : WS := if twice then s else { s with pk := upd s.pk f ((s.pk f).take k ++ (s.pk f).drop (k + 1)) }
/-- end i takes a packet; what has come is laid by in field o -/
def gain (s : WS) (i o : Nat) (q : Pk) : WS := { s with e := upd s.e i (take (s.e i) [q]).1, st := upd s.st o (s.st o ++ (take (s.e i) [q]).2) }
def comeAt (s : WS) (a : Ac) (i f o k : Nat) : WS := match (s.pk f)[k]? with
  | none => s
  | some q => if a.kind = 5 then gain (lose s f k a.twice) i o q else lose s f k a.twice
def comeK (s : WS) (n : Int) : Nat := (Int.tmod (Int.tmod n ((s.pk 2).length + (s.pk 3).length) + ((s.pk 2).length + (s.pk 3).length)) ((s.pk 2).length + (s.pk 3).length)).toNat
def comeW (s : WS) (a : Ac) : WS :=
  if (s.pk 2).length + (s.pk 3).length = 0 then s else
  if comeK s a.n < (s.pk 2).length then comeAt s a 0 2 6 (comeK s a.n) else comeAt s a 1 3 7 (comeK s a.n - (s.pk 2).length)
def WEnd (w0 : World) (g : Nat) (s' : WS) (x : Ending) (w' : World) : Prop := x = .returned (.tuple #[]) ∧ ∃ p' lab', WL w0 w' g p' s' lab'
/-- a packet in a box of its own -/
def PBox (w : World) (b : Nat) (q : Pk) : Prop := ∀ j, w.cell? ⟨b, j, none⟩ = (pkCells q).toArray[j]?
def ComeMid (w0 : World) (g : Nat) (s' : WS) (b : Nat) (kind : Int) (q : Pk) (w' : World) : Prop := ∃ p' lab', Hid (WL w0 w' g p' s' lab') ∧ Hid (PBox w' (b + 1) q) ∧ Hid (lab' (b + 1) = 11) ∧ Hid (b + 1 < w'.heap.size) ∧ Hid (w'.cell? ⟨b, 0, none⟩ = some (.int .i64 kind))
theorem lose_es (s : WS) (f k : Nat) (t : Bool) : (lose s f k t).e = s.e ∧ (lose s f k t).st = s.st := by unfold lose; split <;> exact ⟨rfl, rfl⟩
theorem tEnd_eq (w : World) (g : Nat) (A : Option Addr) (e : E) (ps : List Pk) : TakeEnd w g A e ps = fun x w' => ∃ A' O c' oc, x = .returned (.slice O (take e ps).2.length oc) ∧ At w' g A' c' (take e ps).1 ∧ Mem.Own w' 9 1 O (take e ps).2.length oc ((take e ps).2.map strV) ∧ Mem.From w.heap.size O ∧ Mem.Keeps (fun q => q = g) w w' ∧ (Mem.blk A' = Mem.blk A ∨ Mem.blk A' = none) := rfl
theorem WL.fresh {w0 w : World} {g : Nat} {p : Pl} {s : WS} {lab : Nat → Nat} (h : WL w0 w g p s lab) : WL w0 w g p s (relab lab w.heap.size 11) := by
  have hb := h.bl.size
  exact ⟨h.box, h.en, h.pk, h.st, by rw [relab_lt h.lt]; exact h.lg, fun i hi => by rw [relab_lt (h.ltg hi)]; exact h.le i hi, fun i hi q hq => by rw [relab_lt (h.ltO hi hq)]; exact h.lo i hi q hq,
    fun i h1 h2 q hq => by rw [relab_lt (h.ltX h1 h2 hq)]; exact h.lx i h1 h2 q hq, fun q hq => by rw [relab_lt (by omega)]; exact h.lw q hq, h.bl⟩
theorem comeK_ok (s : WS) (n : Int) (h : (s.pk 2).length + (s.pk 3).length ≠ 0) (hb : (s.pk 2).length + (s.pk 3).length ≤ 100000) :
    Int.tmod (Int.tmod n ((s.pk 2).length + (s.pk 3).length) + ((s.pk 2).length + (s.pk 3).length)) ((s.pk 2).length + (s.pk 3).length) = (comeK s n : Int) ∧ comeK s n < (s.pk 2).length + (s.pk 3).length ∧
    -100000 ≤ Int.tmod n ((s.pk 2).length + (s.pk 3).length) ∧ Int.tmod n ((s.pk 2).length + (s.pk 3).length) ≤ 100000 ∧ 0 ≤ Int.tmod n ((s.pk 2).length + (s.pk 3).length) + ((s.pk 2).length + (s.pk 3).length) := by
  obtain ⟨m, hm⟩ : ∃ m : Int, ((s.pk 2).length : Int) + ((s.pk 3).length : Int) = m := ⟨_, rfl⟩
  unfold comeK
  rw [hm]
  have h0 : 0 < m := by omega
  have hm2 : m ≤ 100000 := by omega
  have h1 : Int.tmod n m < m := Int.tmod_lt_of_pos n h0
  have h2 : -m < Int.tmod n m := by
    have h3 := Int.tmod_lt_of_pos (-n) h0
    rw [Int.neg_tmod] at h3
    omega
  have h3 : 0 ≤ Int.tmod n m + m := by omega
  have h4 : Int.tmod (Int.tmod n m + m) m < m := Int.tmod_lt_of_pos _ h0
  have h5 : 0 ≤ Int.tmod (Int.tmod n m + m) m := Int.tmod_nonneg _ h3
  refine ⟨by omega, by omega, by omega, by omega, h3⟩
end Link

set_option maxRecDepth 100000 in
set_option maxHeartbeats 8000000 in
theorem come_any {w0 w : World} {g : Nat} {p : Link.Pl} {s : Link.WS} {lab : Nat → Nat} (h : Link.WL w0 w g p s lab) (a : Link.Ac) (hn : (s.pk 2).length + (s.pk 3).length ≤ 100000) (hf : ∀ i, i < 2 → Link.Fine 100000 (s.e i))
    (hst : ∀ i, 4 ≤ i → i < 8 → (s.st i).length ≤ 100000) :
    Calls Try.prog 27 #[.pointer (some ⟨g, 0, none⟩), Link.AcV a] w (Link.WEnd w0 g (Link.comeW s a)) := by
  have HW := Lib.hid h
  have HF := Lib.hid hf
  have HST := Lib.hid hst
  have c0 := h.cell (i := 0) rfl
  have c1 := h.cell (i := 1) rfl
  have c2 := h.cell (i := 2) rfl
  have c3 := h.cell (i := 3) rfl
  have hgl := h.lt
  clear h hf hst
  by_cases hz : (s.pk 2).length + (s.pk 3).length = 0
  · have hzd : (((s.pk 2).length : Int) + ((s.pk 3).length : Int) == 0) = true := by rw [beq_iff_eq]; omega
    have HZ := Lib.hid (show Link.comeW s a = s from if_pos hz)
    clear hz
    go_enter Try.func27, Try.ntmps27
    go_wp2
    go_quiet (fail)
    go_wp2
    go_end0
    refine ⟨rfl, p, lab, ?_⟩
    rw [HZ.out]
    exact HW.out.quiet (((Mem.Keeps.refl _ _).alloc _).drewN _)
  · have hzd : (((s.pk 2).length : Int) + ((s.pk 3).length : Int) == 0) = false := by rw [beq_eq_false_iff_ne]; omega
    obtain ⟨k1, k2, k3, k4, k5⟩ := Link.comeK_ok s a.n hz hn
    obtain ⟨kk, hkk⟩ : ∃ kk, Link.comeK s a.n = kk := ⟨_, rfl⟩
    rw [hkk] at k1 k2
    have HKK := Lib.hid hkk
    have HZ := Lib.hid hz
    clear hz hkk
    by_cases hlt : kk < (s.pk 2).length
    · have hld : decide (kk < (s.pk 2).length) = true := by simpa using hlt
      have HCW : Hid (Link.comeW s a = Link.comeAt s a 0 2 6 kk) := by show _ = _; unfold Link.comeW; rw [if_neg HZ.out, HKK.out, if_pos hlt]
      obtain ⟨b, o, q, hX, hb, hq, q0, q1, q2, q3, q4⟩ := Link.pk_elem (HW.out.pk 2 (by omega) (by omega)).rd (k := kk) hlt
      rw [hX] at c2
      go_enter Try.func27, Try.ntmps27
      go_wp2
      go_quiet (fail)
      go_upto_if 45 with fail
      have hsza : ((w.alloc (.cells #[.int .i64 a.kind, .int .i64 a.n, .bool a.twice, .slice a.D a.data.length a.dc] 34)).drewN nq).heap.size = w.heap.size + 1 := by simp
      obtain ⟨w5, hw5⟩ : ∃ w5, (((w.alloc (.cells #[.int .i64 a.kind, .int .i64 a.n, .bool a.twice, .slice a.D a.data.length a.dc] 34)).drewN nq).alloc (.cells #[.int .i64 q.life, .int .i64 q.seq, .int .i64 q.ack, .bool q.has, .string q.data] 52)) = w5 := ⟨_, rfl⟩
      have H5 : Hid (Link.WL w0 w5 g p s (Link.relab lab w.heap.size 11)) := by show Link.WL _ _ _ _ _ _; rw [← hw5]; exact HW.out.fresh.quiet ((((Mem.Keeps.refl _ _).alloc _).drewN _).alloc _)
      have HP5 : Hid (Link.PBox w5 (w.heap.size + 1) q) := fun j => by rw [← hw5, ← hsza, cell_of_row _ _ _ _ _ _ (heap_alloc_new _ _)]; rfl
      have HA5 : Hid (w5.cell? ⟨w.heap.size, 0, none⟩ = some (.int .i64 a.kind)) := by
        show World.cell? _ _ = _
        rw [← hw5, World.cell?_alloc_lt _ _ _ (by show w.heap.size < _; omega)]
        exact cell_of_row _ _ _ _ _ _ (heap_alloc_new w _)
      have hz5 : w5.heap.size = w.heap.size + 1 + 1 := by rw [← hw5, World.size_alloc, hsza]
      have HQ := Lib.hid hq
      rw [hw5]
      clear hw5 hsza q0 q1 q2 q3 q4 hq c0 c1 c2 c3
      go_cut [] (fun wx => Link.ComeMid w0 g (Link.lose s 2 kk a.twice) w.heap.size a.kind q wx)
      case first =>
        cases htw : a.twice
        · have d1 : (!a.twice) = true := by rw [htw]; rfl
          have HT := Lib.hid htw
          have cF : w5.cell? ⟨g, 2, none⟩ = some (.slice (p.X 2) (s.pk 2).length (p.xc 2)) := H5.out.cell (i := 2) rfl
          have fr5 := H5.out.fr
          rw [hX] at cF
          have HOW : Hid (Mem.Own w5 52 5 (some ⟨b, o, none⟩) (s.pk 2).length (p.xc 2) ((s.pk 2).flatMap Link.pkCells)) := by have := H5.out.pk 2 (by omega) (by omega); rw [hX] at this; exact this
          have hgw5 : g < w5.heap.size := by omega
          have hgn : ¬ (w5.heap.size ≤ g ∨ w5.heap.size ≤ g) := by omega
          have hcap := HOW.out.le
          have hpl : (s.pk 2).length ≤ 100000 := by omega
          clear htw
          go_wp2
          refine Reg.wp_region_w (by kernel_rfl) 137 20 rfl rfl (by kernel_rfl) (8) (fun q => w5.heap.size ≤ q) (16) (fun q => w5.heap.size ≤ q) (19) (fun q => q = g)
            (fun i v u => match i with
              | 0 => v = .pointer (some ⟨g, 0, none⟩)
              | 1 => ∃ s0, v = .slice (some ⟨s0, 0, none⟩) 0 0 ∧ w5.heap.size ≤ s0 ∧ Mem.Own u 52 5 (some ⟨s0, 0, none⟩) 0 0 []
              | 2 => v = .pointer (some ⟨g, 0, none⟩)
              | 3 => v = .pointer (some ⟨g, 0, none⟩)
              | 4 => v = .pointer (some ⟨g, 2, none⟩)
              | 5 => v = .slice (some ⟨b, o, none⟩) (s.pk 2).length (p.xc 2)
              | 6 => v = .int .i64 kk
              | 7 => v = .slice (some ⟨b, o, none⟩) kk (p.xc 2)
              | 8 => ∃ A1 c1, v = .slice A1 kk c1 ∧ Mem.From w5.heap.size A1 ∧ Mem.Own u 52 5 A1 kk c1 (((s.pk 2).take kk).flatMap Link.pkCells)
              | 9 => v = .pointer (some ⟨g, 0, none⟩)
              | 10 => v = .pointer (some ⟨g, 0, none⟩)
              | 11 => v = .pointer (some ⟨g, 2, none⟩)
              | 12 => v = .slice (some ⟨b, o, none⟩) (s.pk 2).length (p.xc 2)
              | 13 => v = .int .i64 kk
              | 14 => v = .int .i64 ((kk : Int) + 1)
              | 15 => ∃ A2 c2, v = .slice A2 ((s.pk 2).length - (kk + 1)) c2 ∧ Mem.Rd u w5.heap.size A2 (((s.pk 2).drop (kk + 1)).flatMap Link.pkCells) ∧ w5.heap.size ≤ u.heap.size
              | 16 => ∃ A3 c3, v = .slice A3 (kk + ((s.pk 2).length - (kk + 1))) c3 ∧ Mem.From w5.heap.size A3 ∧ Mem.Own u 52 5 A3 (kk + ((s.pk 2).length - (kk + 1))) c3 (((s.pk 2).take kk ++ (s.pk 2).drop (kk + 1)).flatMap Link.pkCells)
              | 17 => v = .pointer (some ⟨g, 0, none⟩)
              | 18 => v = .pointer (some ⟨g, 2, none⟩)
              | 19 => ∃ A3 c3, Mem.From w5.heap.size A3 ∧ Mem.Own u 52 5 A3 ((s.pk 2).take kk ++ (s.pk 2).drop (kk + 1)).length c3 (((s.pk 2).take kk ++ (s.pk 2).drop (kk + 1)).flatMap Link.pkCells) ∧ Mem.Own u 31 8 (some ⟨g, 0, none⟩) 1 1 ((Link.wCells p s).set 2 (.slice A3 ((s.pk 2).take kk ++ (s.pk 2).drop (kk + 1)).length c3))
              | _ => True) ?_ ?_
          · refine Reg.Steps.cons ?_ (Reg.Steps.cons ?_ (Reg.Steps.cons ?_ (Reg.Steps.cons ?_ (Reg.Steps.cons ?_ (Reg.Steps.cons ?_ (Reg.Steps.cons ?_ (Reg.Steps.cons ?_ (Reg.Steps.cons ?_ (Reg.Steps.cons ?_ (Reg.Steps.cons ?_ (Reg.Steps.cons ?_ (Reg.Steps.cons ?_ (Reg.Steps.cons ?_ (Reg.Steps.cons ?_ (Reg.Steps.cons ?_ (Reg.Steps.cons ?_ (Reg.Steps.cons ?_ (Reg.Steps.cons ?_ (Reg.Steps.cons ?_ (Reg.Steps.nil _))))))))))))))))))))
            · intro val ac u hR hp ha K hK      -- 0: t46 := Op.move t0
              have e0 : (ac.tmps[0]?).getD undef = .pointer (some ⟨g, 0, none⟩) := ha 0 (by decide)
              clear ha hp
              refine Reg.Op1.plain rfl ?_
              go_wp2
              exact ⟨rfl, hK _ _ rfl (Reg.Wr.same _)⟩
            · intro val ac u hR hp ha K hK      -- 1: t47 := Op.buildSlice 28 0 #[]
              clear ha hp
              refine Reg.Op1.plain rfl ?_
              have hbu : w5.heap.size ≤ u.heap.size := (Reg.Wr.all hR).size
              go_wp2
              exact ⟨rfl, hK _ _ ⟨u.heap.size, rfl, hbu, Mem.Own.lit u _ 5 #[] 0 rfl rfl (by simp [maxLen])⟩ (Reg.Wr.quiet ((Mem.Keeps.refl _ u).alloc _))⟩
            · intro val ac u hR hp ha K hK      -- 2: t48 := Op.move t0
              have e0 : (ac.tmps[0]?).getD undef = .pointer (some ⟨g, 0, none⟩) := ha 0 (by decide)
              clear ha hp
              refine Reg.Op1.plain rfl ?_
              go_wp2
              exact ⟨rfl, hK _ _ rfl (Reg.Wr.same _)⟩
            · intro val ac u hR hp ha K hK      -- 3: t49 := Op.nilCheck t48
              obtain ⟨w48, h48, r48⟩ := hp 2 (by decide)
              have e48 : (ac.tmps[48]?).getD undef = .pointer (some ⟨g, 0, none⟩) := (ha 48 (by decide)).trans h48
              clear h48
              clear ha hp
              refine Reg.Op1.plain rfl ?_
              go_wp2
              exact ⟨rfl, hK _ _ rfl (Reg.Wr.same _)⟩
            · intro val ac u hR hp ha K hK      -- 4: t50 := Op.fieldAddr 31 t49 2
              obtain ⟨w49, h49, r49⟩ := hp 3 (by decide)
              have e49 : (ac.tmps[49]?).getD undef = .pointer (some ⟨g, 0, none⟩) := (ha 49 (by decide)).trans h49
              clear h49
              clear ha hp
              refine Reg.Op1.plain rfl ?_
              go_wp2
              exact ⟨rfl, hK _ _ rfl (Reg.Wr.same _)⟩
            · intro val ac u hR hp ha K hK      -- 5: t51 := Op.load 28 t50
              obtain ⟨w50, h50, r50⟩ := hp 4 (by decide)
              have e50 : (ac.tmps[50]?).getD undef = .pointer (some ⟨g, 2, none⟩) := (ha 50 (by decide)).trans h50
              clear h50
              clear ha hp
              refine Reg.Op1.plain rfl ?_
              have x0 := (((Reg.Wr.not3 hR (by decide +kernel))).cell (p := ⟨g, 2, none⟩) (hgw5) (hgn)).trans (cF)
              go_wp2
              exact ⟨rfl, hK _ _ rfl (Reg.Wr.same _)⟩
            · intro val ac u hR hp ha K hK      -- 6: t52 := Op.move t5
              have e5 : (ac.tmps[5]?).getD undef = .int .i64 kk := ha 5 (by decide)
              clear ha hp
              refine Reg.Op1.plain rfl ?_
              go_wp2
              exact ⟨rfl, hK _ _ rfl (Reg.Wr.same _)⟩
            · intro val ac u hR hp ha K hK      -- 7: t53 := Op.slice 28 t51 none (some t52) none
              obtain ⟨w51, h51, r51⟩ := hp 5 (by decide)
              have e51 : (ac.tmps[51]?).getD undef = .slice (some ⟨b, o, none⟩) (s.pk 2).length (p.xc 2) := (ha 51 (by decide)).trans h51
              clear h51
              obtain ⟨w52, h52, r52⟩ := hp 6 (by decide)
              have e52 : (ac.tmps[52]?).getD undef = .int .i64 kk := (ha 52 (by decide)).trans h52
              clear h52
              clear ha hp
              refine Reg.Op1.plain rfl ?_
              go_wp2
              exact ⟨rfl, hK _ _ rfl (Reg.Wr.same _)⟩
            · intro val ac u hR hp ha K hK      -- 8: t54 := Op.call { builtin append, args := #[t47, t53], argTypes := #[28, 28] }
              obtain ⟨w47, h47, r47⟩ := hp 1 (by decide)
              have e47 : (ac.tmps[47]?).getD undef = val 1 := ha 47 (by decide)
              obtain ⟨w53, h53, r53⟩ := hp 7 (by decide)
              have e53 : (ac.tmps[53]?).getD undef = .slice (some ⟨b, o, none⟩) kk (p.xc 2) := (ha 53 (by decide)).trans h53
              clear h53
              clear ha hp
              refine Reg.Op1.plain rfl ?_
              obtain ⟨s0, hv, hs0, ho⟩ := h47
              rw [hv] at e47
              have ho' := ho.keeps (Reg.Wr.none r47 (by decide +kernel) (by decide +kernel) (by decide +kernel)) (fun _ _ h => h)
              have hkb : Below w5.heap.size w5 u := ((Mem.Keeps.refl (fun q => w5.heap.size ≤ q ∨ w5.heap.size ≤ q) w5).drew.trans (Reg.Wr.not3 hR (by decide +kernel)) (fun _ h _ => h)).below (fun q h => h.elim id id) (Nat.le_refl _)
              have hrd : Mem.Rd u w5.heap.size (some ⟨b, o, none⟩) (((s.pk 2).take kk).flatMap Link.pkCells) := by
                have h1 := (HOW.out.take (k := kk) (by omega)).rd.below hkb
                rwa [Mem.flat_take Link.pkCells_length] at h1
              have hbu := hkb.size
              refine Mem.wpList_app u rfl (.tmp 47) (.tmp 53) _ rfl packets_elem (some ⟨s0, 0, none⟩) 0 0 [] (Reg.eval_of e47) w5.heap.size (some ⟨b, o, none⟩) kk (p.xc 2) (((s.pk 2).take kk).flatMap Link.pkCells) (Reg.eval_of e53) ?_ ho' hrd (by rw [Mem.flat_length Link.pkCells_length, List.length_take]; congr 1; omega) Link.pk_one (by unfold maxLen; omega) (by omega)
              intro X' d' u' hown hg hat
              rw [Nat.zero_add] at hown ⊢
              rw [List.nil_append] at hown
              refine ⟨rfl, hK _ _ ⟨X', d', rfl, ?_, hown⟩ (Reg.Wr.does1 ((Mem.Keeps.refl _ u).grown hg (fun q hq _ => by have h' : s0 = q := Option.some.inj hq; omega)))⟩
              rcases hat with rfl | rfl
              · exact Mem.From.some_ hs0
              · exact Mem.From.some_ hbu
            · intro val ac u hR hp ha K hK      -- 9: t55 := Op.move t0
              have e0 : (ac.tmps[0]?).getD undef = .pointer (some ⟨g, 0, none⟩) := ha 0 (by decide)
              clear ha hp
              refine Reg.Op1.plain rfl ?_
              go_wp2
              exact ⟨rfl, hK _ _ rfl (Reg.Wr.same _)⟩
            · intro val ac u hR hp ha K hK      -- 10: t56 := Op.nilCheck t55
              obtain ⟨w55, h55, r55⟩ := hp 9 (by decide)
              have e55 : (ac.tmps[55]?).getD undef = .pointer (some ⟨g, 0, none⟩) := (ha 55 (by decide)).trans h55
              clear h55
              clear ha hp
              refine Reg.Op1.plain rfl ?_
              go_wp2
              exact ⟨rfl, hK _ _ rfl (Reg.Wr.same _)⟩
            · intro val ac u hR hp ha K hK      -- 11: t57 := Op.fieldAddr 31 t56 2
              obtain ⟨w56, h56, r56⟩ := hp 10 (by decide)
              have e56 : (ac.tmps[56]?).getD undef = .pointer (some ⟨g, 0, none⟩) := (ha 56 (by decide)).trans h56
              clear h56
              clear ha hp
              refine Reg.Op1.plain rfl ?_
              go_wp2
              exact ⟨rfl, hK _ _ rfl (Reg.Wr.same _)⟩
            · intro val ac u hR hp ha K hK      -- 12: t58 := Op.load 28 t57
              obtain ⟨w57, h57, r57⟩ := hp 11 (by decide)
              have e57 : (ac.tmps[57]?).getD undef = .pointer (some ⟨g, 2, none⟩) := (ha 57 (by decide)).trans h57
              clear h57
              clear ha hp
              refine Reg.Op1.plain rfl ?_
              have x0 := (((Reg.Wr.not3 hR (by decide +kernel))).cell (p := ⟨g, 2, none⟩) (hgw5) (hgn)).trans (cF)
              go_wp2
              exact ⟨rfl, hK _ _ rfl (Reg.Wr.same _)⟩
            · intro val ac u hR hp ha K hK      -- 13: t59 := Op.move t5
              have e5 : (ac.tmps[5]?).getD undef = .int .i64 kk := ha 5 (by decide)
              clear ha hp
              refine Reg.Op1.plain rfl ?_
              go_wp2
              exact ⟨rfl, hK _ _ rfl (Reg.Wr.same _)⟩
            · intro val ac u hR hp ha K hK      -- 14: t60 := Op.binOp BinOp.add 3 t59 (const (1:i64)) 3
              obtain ⟨w59, h59, r59⟩ := hp 13 (by decide)
              have e59 : (ac.tmps[59]?).getD undef = .int .i64 kk := (ha 59 (by decide)).trans h59
              clear h59
              clear ha hp
              refine Reg.Op1.plain rfl ?_
              go_wp2
              exact ⟨rfl, hK _ _ rfl (Reg.Wr.same _)⟩
            · intro val ac u hR hp ha K hK      -- 15: t61 := Op.slice 28 t58 (some t60) none none
              obtain ⟨w58, h58, r58⟩ := hp 12 (by decide)
              have e58 : (ac.tmps[58]?).getD undef = .slice (some ⟨b, o, none⟩) (s.pk 2).length (p.xc 2) := (ha 58 (by decide)).trans h58
              clear h58
              obtain ⟨w60, h60, r60⟩ := hp 14 (by decide)
              have e60 : (ac.tmps[60]?).getD undef = .int .i64 ((kk : Int) + 1) := (ha 60 (by decide)).trans h60
              clear h60
              clear ha hp
              refine Reg.Op1.plain rfl ?_
              have hkb : Below w5.heap.size w5 u := ((Mem.Keeps.refl (fun q => w5.heap.size ≤ q ∨ w5.heap.size ≤ q) w5).drew.trans (Reg.Wr.not3 hR (by decide +kernel)) (fun _ h _ => h)).below (fun q h => h.elim id id) (Nat.le_refl _)
              have hdr := (HOW.out.drop (k := kk + 1) (by omega)).rd.below hkb
              rw [Mem.flat_drop Link.pkCells_length] at hdr
              by_cases hc : p.xc 2 = kk + 1
              · have hnil : ((s.pk 2).drop (kk + 1)).flatMap Link.pkCells = [] := by rw [List.drop_eq_nil_of_le (by omega)]; rfl
                go_wp2
                exact ⟨rfl, hK _ _ ⟨_, _, rfl, .inl hnil, hkb.size⟩ (Reg.Wr.same _)⟩
              · go_wp2
                exact ⟨rfl, hK _ _ ⟨_, _, rfl, hdr, hkb.size⟩ (Reg.Wr.same _)⟩
            · intro val ac u hR hp ha K hK      -- 16: t62 := Op.call { builtin append, args := #[t54, t61], argTypes := #[28, 28] }
              obtain ⟨w54, h54, r54⟩ := hp 8 (by decide)
              have e54 : (ac.tmps[54]?).getD undef = val 8 := ha 54 (by decide)
              obtain ⟨w61, h61, r61⟩ := hp 15 (by decide)
              have e61 : (ac.tmps[61]?).getD undef = val 15 := ha 61 (by decide)
              clear ha hp
              refine Reg.Op1.plain rfl ?_
              obtain ⟨A1, c1, hv1, hf1, ho1⟩ := h54
              obtain ⟨A2, c2, hv2, hr2, hz61⟩ := h61
              rw [hv1] at e54
              rw [hv2] at e61
              have ho' := ho1.keeps (Reg.Wr.none r54 (by decide +kernel) (by decide +kernel) (by decide +kernel)) (fun _ _ h => h)
              have hkb : Below w5.heap.size w5 u := ((Mem.Keeps.refl (fun q => w5.heap.size ≤ q ∨ w5.heap.size ≤ q) w5).drew.trans (Reg.Wr.not3 hR (by decide +kernel)) (fun _ h _ => h)).below (fun q h => h.elim id id) (Nat.le_refl _)
              have hkr := (Reg.Wr.not3 r61 (by decide +kernel))
              have hrd : Mem.Rd u w5.heap.size A2 (((s.pk 2).drop (kk + 1)).flatMap Link.pkCells) := hr2.keep (fun q hq => hkr.cell (Nat.lt_of_lt_of_le hq hz61) (by omega))
              have hbu := hkb.size
              refine Mem.wpList_app u rfl (.tmp 54) (.tmp 61) _ rfl packets_elem A1 kk c1 _ (Reg.eval_of e54) w5.heap.size A2 ((s.pk 2).length - (kk + 1)) c2 (((s.pk 2).drop (kk + 1)).flatMap Link.pkCells) (Reg.eval_of e61) ?_ ho' hrd (by rw [Mem.flat_length Link.pkCells_length, List.length_drop]) Link.pk_one (by unfold maxLen; omega) (by omega)
              intro X' d' u' hown hg hat
              rw [← List.flatMap_append] at hown
              refine ⟨rfl, hK _ _ ⟨X', d', rfl, ?_, hown⟩ (Reg.Wr.does2 ((Mem.Keeps.refl _ u).grown hg (fun q hq _ => hf1.blk q hq)))⟩
              rcases hat with rfl | rfl
              · exact hf1
              · exact Mem.From.some_ hbu
            · intro val ac u hR hp ha K hK      -- 17: t63 := Op.nilCheck t46
              obtain ⟨w46, h46, r46⟩ := hp 0 (by decide)
              have e46 : (ac.tmps[46]?).getD undef = .pointer (some ⟨g, 0, none⟩) := (ha 46 (by decide)).trans h46
              clear h46
              clear ha hp
              refine Reg.Op1.plain rfl ?_
              go_wp2
              exact ⟨rfl, hK _ _ rfl (Reg.Wr.same _)⟩
            · intro val ac u hR hp ha K hK      -- 18: t64 := Op.fieldAddr 31 t63 2
              obtain ⟨w63, h63, r63⟩ := hp 17 (by decide)
              have e63 : (ac.tmps[63]?).getD undef = .pointer (some ⟨g, 0, none⟩) := (ha 63 (by decide)).trans h63
              clear h63
              clear ha hp
              refine Reg.Op1.plain rfl ?_
              go_wp2
              exact ⟨rfl, hK _ _ rfl (Reg.Wr.same _)⟩
            · intro val ac u hR hp ha K hK      -- 19: Op.store 28 t64 t62
              obtain ⟨w64, h64, r64⟩ := hp 18 (by decide)
              have e64 : (ac.tmps[64]?).getD undef = .pointer (some ⟨g, 2, none⟩) := (ha 64 (by decide)).trans h64
              clear h64
              obtain ⟨w62, h62, r62⟩ := hp 16 (by decide)
              have e62 : (ac.tmps[62]?).getD undef = val 16 := ha 62 (by decide)
              clear ha hp
              refine Reg.Op1.plain rfl ?_
              obtain ⟨A3, c3, hv3, hf3, ho3⟩ := h62
              rw [hv3] at e62
              have ho' := ho3.keeps (Reg.Wr.none r62 (by decide +kernel) (by decide +kernel) (by decide +kernel)) (fun _ _ h => h)
              have hq : Mem.Keeps (fun q => w5.heap.size ≤ q ∨ w5.heap.size ≤ q) w5 u := (Mem.Keeps.refl (fun q => w5.heap.size ≤ q ∨ w5.heap.size ≤ q) w5).drew.trans (Reg.Wr.not3 hR (by decide +kernel)) (fun _ h _ => h)
              have hbx := Mem.Own.keeps H5.out.box hq (fun q hq h => by cases hq; exact hgn h)
              have xf := Mem.Own.free hbx
              have x0 := (hq.cell (p := ⟨g, 2, none⟩) hgw5 hgn).trans cF
              have hln : ((s.pk 2).take kk ++ (s.pk 2).drop (kk + 1)).length = kk + ((s.pk 2).length - (kk + 1)) := by rw [List.length_append, List.length_take, List.length_drop]; omega
              go_wp2
              refine ⟨rfl, hK undef _ ⟨A3, c3, hf3, ?_, ?_⟩ (Reg.Wr.does3 ((Mem.Keeps.refl (fun q => q = g) u).setCell (p := ⟨g, 2, none⟩) (fun _ => rfl) _))⟩
              · rw [hln]; exact ho'.keeps ((Mem.Keeps.refl (fun q => q = g) u).setCell (p := ⟨g, 2, none⟩) (fun _ => rfl) _) (fun q h1 h => by have := hf3.blk q h1; omega)
              · rw [hln]; have := Mem.Own.set hbx 2 (.slice A3 (kk + ((s.pk 2).length - (kk + 1))) c3); exact this
          · intro val u hR H
            obtain ⟨wA, ⟨A3, c3, hf3, ho3, hb3⟩, rA⟩ := H 19 (by decide)
            have ho4 := ho3.keeps (Reg.Wr.none rA (by decide +kernel) (by decide +kernel) (by decide +kernel)) (fun _ _ h => h)
            have hb4 := hb3.keeps (Reg.Wr.none rA (by decide +kernel) (by decide +kernel) (by decide +kernel)) (fun _ _ h => h)
            have hk : Mem.Keeps (fun q => w5.heap.size ≤ q ∨ w5.heap.size ≤ q ∨ q = g) w5 u := (Mem.Keeps.refl (fun q => w5.heap.size ≤ q ∨ w5.heap.size ≤ q ∨ q = g) w5).drew.trans (Reg.Wr.all hR) (fun _ h _ => h)
            have hlg := H5.out.lg
            have hk2 : Mem.Keeps (fun q => Link.relab lab w.heap.size 11 q = 2 ∨ Link.relab lab w.heap.size 11 q = 10) w5 u := Mem.Keeps.mono hk (fun q h hl => by rcases h with h | h | h; omega; omega; exact .inr (by rw [h]; exact hlg))
            have HM : Hid (Link.ComeMid w0 g (Link.lose s 2 kk a.twice) w.heap.size a.kind q u) := by
              have hkz := hk.size
              have hwl := H5.out.pks (i := 2) (by omega) (by omega) ho4 hb4 hk2 (.inr (.inr hf3))
              have hls : Link.lose s 2 kk a.twice = { s with pk := Link.upd s.pk 2 ((s.pk 2).take kk ++ (s.pk 2).drop (kk + 1)) } := by unfold Link.lose; rw [HT.out]; rfl
              rw [← hls] at hwl
              refine ⟨_, _, hwl, ?_, ?_, ?_, ?_⟩
              · exact fun j => (hk.cell (p := ⟨w.heap.size + 1, j, none⟩) (by show w.heap.size + 1 < _; omega) (by show ¬ (_ ∨ _ ∨ _); simp only; omega)).trans (HP5.out j)
              · show Link.relab _ _ _ _ = 11
                rw [Link.relab_lt (by omega), Link.relab_ge (by omega)]
              · show w.heap.size + 1 < _; omega
              · exact (hk.cell (p := ⟨w.heap.size, 0, none⟩) (by show w.heap.size < _; omega) (by show ¬ (_ ∨ _ ∨ _); simp only; omega)).trans HA5.out
            simp only [List.map_cons, List.map_nil, Reg.lay, Act.put, List.setIfInBounds_toArray, List.set_cons_succ, List.set_cons_zero, Nat.reduceAdd]
            clear hR H hk hk2 hb4 ho4 hb3 ho3 rA
            go_wp2
            go_meet
            case rel => exact HM.out
        · have d1 : (!a.twice) = false := by rw [htw]; rfl
          have HM : Hid (Link.ComeMid w0 g (Link.lose s 2 kk a.twice) w.heap.size a.kind q w5) := ⟨p, _, by show Link.WL _ _ _ _ _ _; rw [htw]; exact H5.out, HP5, Link.relab_ge (by omega), by show w.heap.size + 1 < _; omega, HA5⟩
          clear htw
          go_wp2
          go_meet
          case rel => exact HM.out
      case rest =>
        obtain ⟨p6, lab6, H6, HP6, HL6, HB6, HA6⟩ := hcut
        obtain ⟨s1, hs1⟩ : ∃ s1, Link.lose s 2 kk a.twice = s1 := ⟨_, rfl⟩
        rw [hs1] at H6
        have hes := Link.lose_es s 2 kk a.twice
        rw [hs1] at hes
        have HF1 : Hid (Link.Fine 100000 (s1.e 0)) := by show Link.Fine _ _; rw [hes.1]; exact HF.out 0 (by omega)
        have HST1 : Hid ((s1.st 6).length ≤ 100000) := by show _ ≤ _; rw [hes.2]; exact HST.out 6 (by omega) (by omega)
        have HCA : Hid (Link.comeW s a = if a.kind = 5 then Link.gain s1 0 6 q else s1) := by show _ = _; rw [HCW.out]; unfold Link.comeAt; rw [HQ.out, hs1]
        have ck := HA6.out
        have hcb := HB6.out
        have HS1 := Lib.hid hs1
        clear hes hs1 HF HST HW H5 HP5 HA5 HQ HCW
        by_cases hkd : a.kind = 5
        · have d5 : (a.kind == 5) = true := by simp [hkd]
          have HC5 : Hid (Link.comeW s a = Link.gain s1 0 6 q) := by show _ = _; rw [HCA.out, if_pos hkd]
          have e0 := H6.out.cell (i := 0) rfl
          have e1 := H6.out.cell (i := 6) rfl
          have hg6 := H6.out.lt
          have hst1 := HST1.out
          obtain ⟨r, hr⟩ : ∃ r, Link.take (s1.e 0) [q] = r := ⟨_, rfl⟩
          have hrl : r.2.length ≤ 1 := by have := Link.take_len (s1.e 0) [q]; rw [hr] at this; simpa using this
          have HRR := Lib.hid hr
          have hl0 : ∀ i, i < 2 → lab6 (p6.g i) = i := H6.out.le
          have HX : Hid (∀ y, Mem.blk (p6.X 6) = some y → lab6 y = 6) := fun y hy => H6.out.lx 6 (by omega) (by omega) y hy
          have HO6 : Hid (∀ y, Mem.blk (p6.O 0) = some y → lab6 y = 8 + 0) := fun y hy => H6.out.lo 0 (by omega) y hy
          have HGI := Lib.hid (H6.out.le 0 (by omega))
          have HGG := Lib.hid H6.out.lg
          have hgn3 : Hid (¬ (g = p6.g 0 ∨ Mem.blk (p6.X 6) = some g)) := by
            rintro (h | h)
            · have := HGI.out; rw [← h, HGG.out] at this; omega
            · have := HX.out _ h; rw [HGG.out] at this; omega
          have hgn4 := hgn3.out
          have HN1 : Hid (∀ y, (Mem.blk (p6.X 6) = some y ∨ y = g) → y ≠ p6.g 0 ∧ Mem.blk (p6.O 0) ≠ some y) := fun y h => by
            have hl : lab6 y = 6 ∨ lab6 y = 10 := h.elim (fun h => .inl (HX.out _ h)) (fun h => .inr (by rw [h]; exact HGG.out))
            refine ⟨fun h => ?_, fun h => ?_⟩
            · have := HGI.out; rw [← h] at this; omega
            · have := HO6.out _ h; omega
          have HN2 : Hid (∀ y, Mem.blk (p6.X 6) = some y → ¬ (y = p6.g 0 ∨ y = g)) := fun y hy h => by
            have := HX.out _ hy
            rcases h with h | h
            · rw [h, HGI.out] at this; omega
            · rw [h, HGG.out] at this; omega
          have HNB : Hid (¬ (w.heap.size + 1 = p6.g 0 ∨ Mem.blk (p6.X 6) = some (w.heap.size + 1))) := by
            rintro (h | h)
            · have := HGI.out; rw [← h, HL6.out] at this; omega
            · have := HX.out _ h; rw [HL6.out] at this; omega
          clear hkd hr hl0
          go_upto_if 67 with fail
          go_wp2
          refine Reg.wp_region_w (by kernel_rfl) 137 16 rfl rfl (by kernel_rfl) (11) (fun y => y = p6.g 0) (12) (fun y => Mem.blk (p6.X 6) = some y) (15) (fun y => y = g)
            (fun i v u => match i with
              | 0 => v = .pointer (some ⟨g, 0, none⟩)
              | 1 => v = .pointer (some ⟨g, 0, none⟩)
              | 2 => v = .pointer (some ⟨g, 0, none⟩)
              | 3 => v = .pointer (some ⟨g, 6, none⟩)
              | 4 => v = .slice (p6.X 6) (s1.st 6).length (p6.xc 6)
              | 5 => v = .pointer (some ⟨g, 0, none⟩)
              | 6 => v = .pointer (some ⟨g, 0, none⟩)
              | 7 => v = .pointer (some ⟨g, 0, none⟩)
              | 8 => v = .pointer (some ⟨p6.g 0, 0, none⟩)
              | 9 => v = Link.P q
              | 10 => ∃ s0, v = .slice (some ⟨s0, 0, none⟩) 1 1 ∧ wc.heap.size ≤ s0 ∧ Mem.Own u 52 5 (some ⟨s0, 0, none⟩) 1 1 ([q].flatMap Link.pkCells)
              | 11 => ∃ A2 O c2 oc, v = .slice O r.2.length oc ∧ Link.At u (p6.g 0) A2 c2 r.1 ∧ Mem.Own u 9 1 O r.2.length oc (r.2.map Link.strV) ∧ Mem.From wc.heap.size O ∧ (Mem.blk A2 = Mem.blk (p6.O 0) ∨ Mem.blk A2 = none)
              | 12 => ∃ X2 d2, v = .slice X2 ((s1.st 6).length + r.2.length) d2 ∧ Mem.Own u 9 1 X2 ((s1.st 6).length + r.2.length) d2 ((s1.st 6).map Link.strV ++ r.2.map Link.strV) ∧ (X2 = p6.X 6 ∨ Mem.From wc.heap.size X2)
              | 13 => v = .pointer (some ⟨g, 0, none⟩)
              | 14 => v = .pointer (some ⟨g, 6, none⟩)
              | 15 => ∃ X2 d2, Mem.Own u 9 1 X2 (s1.st 6 ++ r.2).length d2 ((s1.st 6 ++ r.2).map Link.strV) ∧ (X2 = p6.X 6 ∨ Mem.From wc.heap.size X2) ∧ Mem.Own u 31 8 (some ⟨g, 0, none⟩) 1 1 ((Link.wCells p6 s1).set 6 (.slice X2 (s1.st 6 ++ r.2).length d2))
              | _ => True) ?_ ?_
          · refine Reg.Steps.cons ?_ (Reg.Steps.cons ?_ (Reg.Steps.cons ?_ (Reg.Steps.cons ?_ (Reg.Steps.cons ?_ (Reg.Steps.cons ?_ (Reg.Steps.cons ?_ (Reg.Steps.cons ?_ (Reg.Steps.cons ?_ (Reg.Steps.cons ?_ (Reg.Steps.cons ?_ (Reg.Steps.cons ?_ (Reg.Steps.cons ?_ (Reg.Steps.cons ?_ (Reg.Steps.cons ?_ (Reg.Steps.cons ?_ (Reg.Steps.nil _))))))))))))))))
            · intro val ac u hR hp ha K hK      -- 0: t68 := Op.move t0
              have e0 : (ac.tmps[0]?).getD undef = .pointer (some ⟨g, 0, none⟩) := ha 0 (by decide)
              clear ha hp
              refine Reg.Op1.plain rfl ?_
              go_wp2
              exact ⟨rfl, hK _ _ rfl (Reg.Wr.same _)⟩
            · intro val ac u hR hp ha K hK      -- 1: t69 := Op.move t0
              have e0 : (ac.tmps[0]?).getD undef = .pointer (some ⟨g, 0, none⟩) := ha 0 (by decide)
              clear ha hp
              refine Reg.Op1.plain rfl ?_
              go_wp2
              exact ⟨rfl, hK _ _ rfl (Reg.Wr.same _)⟩
            · intro val ac u hR hp ha K hK      -- 2: t70 := Op.nilCheck t69
              obtain ⟨w69, h69, r69⟩ := hp 1 (by decide)
              have e69 : (ac.tmps[69]?).getD undef = .pointer (some ⟨g, 0, none⟩) := (ha 69 (by decide)).trans h69
              clear h69
              clear ha hp
              refine Reg.Op1.plain rfl ?_
              go_wp2
              exact ⟨rfl, hK _ _ rfl (Reg.Wr.same _)⟩
            · intro val ac u hR hp ha K hK      -- 3: t71 := Op.fieldAddr 31 t70 6
              obtain ⟨w70, h70, r70⟩ := hp 2 (by decide)
              have e70 : (ac.tmps[70]?).getD undef = .pointer (some ⟨g, 0, none⟩) := (ha 70 (by decide)).trans h70
              clear h70
              clear ha hp
              refine Reg.Op1.plain rfl ?_
              go_wp2
              exact ⟨rfl, hK _ _ rfl (Reg.Wr.same _)⟩
            · intro val ac u hR hp ha K hK      -- 4: t72 := Op.load 29 t71
              obtain ⟨w71, h71, r71⟩ := hp 3 (by decide)
              have e71 : (ac.tmps[71]?).getD undef = .pointer (some ⟨g, 6, none⟩) := (ha 71 (by decide)).trans h71
              clear h71
              clear ha hp
              refine Reg.Op1.plain rfl ?_
              have x0 := (((Reg.Wr.not3 hR (by decide +kernel))).cell (p := ⟨g, 6, none⟩) (hg6) (hgn4)).trans (e1)
              go_wp2
              exact ⟨rfl, hK _ _ rfl (Reg.Wr.same _)⟩
            · intro val ac u hR hp ha K hK      -- 5: t73 := Op.move t0
              have e0 : (ac.tmps[0]?).getD undef = .pointer (some ⟨g, 0, none⟩) := ha 0 (by decide)
              clear ha hp
              refine Reg.Op1.plain rfl ?_
              go_wp2
              exact ⟨rfl, hK _ _ rfl (Reg.Wr.same _)⟩
            · intro val ac u hR hp ha K hK      -- 6: t74 := Op.nilCheck t73
              obtain ⟨w73, h73, r73⟩ := hp 5 (by decide)
              have e73 : (ac.tmps[73]?).getD undef = .pointer (some ⟨g, 0, none⟩) := (ha 73 (by decide)).trans h73
              clear h73
              clear ha hp
              refine Reg.Op1.plain rfl ?_
              go_wp2
              exact ⟨rfl, hK _ _ rfl (Reg.Wr.same _)⟩
            · intro val ac u hR hp ha K hK      -- 7: t75 := Op.fieldAddr 31 t74 0
              obtain ⟨w74, h74, r74⟩ := hp 6 (by decide)
              have e74 : (ac.tmps[74]?).getD undef = .pointer (some ⟨g, 0, none⟩) := (ha 74 (by decide)).trans h74
              clear h74
              clear ha hp
              refine Reg.Op1.plain rfl ?_
              go_wp2
              exact ⟨rfl, hK _ _ rfl (Reg.Wr.same _)⟩
            · intro val ac u hR hp ha K hK      -- 8: t76 := Op.load 26 t75
              obtain ⟨w75, h75, r75⟩ := hp 7 (by decide)
              have e75 : (ac.tmps[75]?).getD undef = .pointer (some ⟨g, 0, none⟩) := (ha 75 (by decide)).trans h75
              clear h75
              clear ha hp
              refine Reg.Op1.plain rfl ?_
              have x0 := (((Reg.Wr.not3 hR (by decide +kernel))).cell (p := ⟨g, 0, none⟩) (hg6) (hgn4)).trans (e0)
              go_wp2
              exact ⟨rfl, hK _ _ rfl (Reg.Wr.same _)⟩
            · intro val ac u hR hp ha K hK      -- 9: t77 := Op.load 52 t6
              have e6 : (ac.tmps[6]?).getD undef = .pointer (some ⟨w.heap.size + 1, 0, none⟩) := ha 6 (by decide)
              clear ha hp
              refine Reg.Op1.plain rfl ?_
              have hq3 := Reg.Wr.not3 hR (by decide +kernel)
              have hpb := fun j => (hq3.cell (p := ⟨w.heap.size + 1, j, none⟩) hcb HNB.out).trans (HP6.out j)
              have x0 := hpb 0
              have x1 := hpb 1
              have x2 := hpb 2
              have x3 := hpb 3
              have x4 := hpb 4
              simp only [Link.pkCells, List.getElem?_toArray, List.getElem?_cons_zero, List.getElem?_cons_succ] at x0 x1 x2 x3 x4
              clear hpb hq3
              go_wp2
              exact ⟨rfl, hK _ _ rfl (Reg.Wr.same _)⟩
            · intro val ac u hR hp ha K hK      -- 10: t78 := Op.buildSlice 28 1 #[(0, t77)]
              obtain ⟨w77, h77, r77⟩ := hp 9 (by decide)
              have e77 : (ac.tmps[77]?).getD undef = Link.P q := (ha 77 (by decide)).trans h77
              clear h77
              clear ha hp
              refine Reg.Op1.plain rfl ?_
              have hbu : wc.heap.size ≤ u.heap.size := (Reg.Wr.all hR).size
              go_wp2
              exact ⟨rfl, hK _ _ ⟨u.heap.size, rfl, hbu, Mem.Own.lit u _ 5 #[.int .i64 q.life, .int .i64 q.seq, .int .i64 q.ack, .bool q.has, .string q.data] 1 rfl rfl (by simp [maxLen])⟩ (Reg.Wr.quiet ((Mem.Keeps.refl _ u).alloc _))⟩
            · intro val ac u hR hp ha K hK      -- 11: t79 := Op.call { value (Operand.func 12), args := #[t76, t78], argTypes := #[26, 28] }
              obtain ⟨w76, h76, r76⟩ := hp 8 (by decide)
              have e76 : (ac.tmps[76]?).getD undef = .pointer (some ⟨p6.g 0, 0, none⟩) := (ha 76 (by decide)).trans h76
              clear h76
              obtain ⟨w78, h78, r78⟩ := hp 10 (by decide)
              have e78 : (ac.tmps[78]?).getD undef = val 10 := ha 78 (by decide)
              clear ha hp
              refine Reg.Op1.plain rfl ?_
              obtain ⟨s0, hv, hs0, ho⟩ := h78
              rw [hv] at e78
              have ho' := ho.keeps (Reg.Wr.none r78 (by decide +kernel) (by decide +kernel) (by decide +kernel)) (fun _ _ h => h)
              have hq1 : Mem.Keeps (fun y => Mem.blk (p6.X 6) = some y ∨ y = g) wc u := (Mem.Keeps.refl (fun y => Mem.blk (p6.X 6) = some y ∨ y = g) wc).drew.trans (Reg.Wr.not1 hR (by decide +kernel)) (fun _ h _ => h)
              have hen := (H6.out.en 0 (by omega)).keeps hq1 (fun h => (HN1.out _ h).1 rfl) (fun y hy h => (HN1.out _ h).2 hy)
              have hgi := H6.out.ltg (i := 0) (by omega)
              go_wp2_with fail
              refine (take_any hen (some ⟨s0, 0, none⟩) 1 [q] (fun W hk => ho'.rd.keepsAt hk (Nat.le_refl _) (fun y h1 h => by have h' : s0 = y := Option.some.inj h1; omega)) (by simp) HF1.out (by omega)).mono ?_
              rw [Link.tEnd_eq, HRR.out]
              rintro x w' ⟨A2, O, c2, oc, rfl, hA2, hO2, hf2, hk2, hm2⟩
              go_wp2_with fail
              exact ⟨rfl, hK _ _ ⟨A2, O, c2, oc, rfl, hA2, hO2, hf2.mono hq1.size, hm2⟩ (Reg.Wr.does1 hk2)⟩
            · intro val ac u hR hp ha K hK      -- 12: t80 := Op.call { builtin append, args := #[t72, t79], argTypes := #[29, 29] }
              obtain ⟨w72, h72, r72⟩ := hp 4 (by decide)
              have e72 : (ac.tmps[72]?).getD undef = .slice (p6.X 6) (s1.st 6).length (p6.xc 6) := (ha 72 (by decide)).trans h72
              clear h72
              obtain ⟨w79, h79, r79⟩ := hp 11 (by decide)
              have e79 : (ac.tmps[79]?).getD undef = val 11 := ha 79 (by decide)
              clear ha hp
              refine Reg.Op1.plain rfl ?_
              obtain ⟨_, O, _, oc, hv, _, hO, hf, _⟩ := h79
              rw [hv] at e79
              have hO' := hO.keeps (Reg.Wr.none r79 (by decide +kernel) (by decide +kernel) (by decide +kernel)) (fun _ _ h => h)
              have hq2 : Mem.Keeps (fun y => y = p6.g 0 ∨ y = g) wc u := (Mem.Keeps.refl (fun y => y = p6.g 0 ∨ y = g) wc).drew.trans (Reg.Wr.not2 hR (by decide +kernel)) (fun _ h _ => h)
              have hX' := (H6.out.st 6 (by omega) (by omega)).keeps hq2 (fun y hy => HN2.out y hy)
              have hbu := hq2.size
              refine Mem.wpList_app u rfl (.tmp 72) (.tmp 79) _ rfl strs_elem (p6.X 6) (s1.st 6).length (p6.xc 6) _ (Reg.eval_of e72) u.heap.size O r.2.length oc (r.2.map Link.strV) (Reg.eval_of e79) ?_ hX' hO'.rd (by simp) (by simp [Value.oneCell']) (by unfold maxLen; omega) (by omega)
              intro X' d' u' hown hg hat
              exact ⟨rfl, hK _ _ ⟨X', d', rfl, hown, hat.elim .inl (fun h => .inr (h ▸ Mem.From.some_ hbu))⟩ (Reg.Wr.does2 ((Mem.Keeps.refl _ u).grown hg (fun y hy _ => hy)))⟩
            · intro val ac u hR hp ha K hK      -- 13: t81 := Op.nilCheck t68
              obtain ⟨w68, h68, r68⟩ := hp 0 (by decide)
              have e68 : (ac.tmps[68]?).getD undef = .pointer (some ⟨g, 0, none⟩) := (ha 68 (by decide)).trans h68
              clear h68
              clear ha hp
              refine Reg.Op1.plain rfl ?_
              go_wp2
              exact ⟨rfl, hK _ _ rfl (Reg.Wr.same _)⟩
            · intro val ac u hR hp ha K hK      -- 14: t82 := Op.fieldAddr 31 t81 6
              obtain ⟨w81, h81, r81⟩ := hp 13 (by decide)
              have e81 : (ac.tmps[81]?).getD undef = .pointer (some ⟨g, 0, none⟩) := (ha 81 (by decide)).trans h81
              clear h81
              clear ha hp
              refine Reg.Op1.plain rfl ?_
              go_wp2
              exact ⟨rfl, hK _ _ rfl (Reg.Wr.same _)⟩
            · intro val ac u hR hp ha K hK      -- 15: Op.store 29 t82 t80
              obtain ⟨w82, h82, r82⟩ := hp 14 (by decide)
              have e82 : (ac.tmps[82]?).getD undef = .pointer (some ⟨g, 6, none⟩) := (ha 82 (by decide)).trans h82
              clear h82
              obtain ⟨w80, h80, r80⟩ := hp 12 (by decide)
              have e80 : (ac.tmps[80]?).getD undef = val 12 := ha 80 (by decide)
              clear ha hp
              refine Reg.Op1.plain rfl ?_
              obtain ⟨X2, d2, hv, hO, hm⟩ := h80
              rw [hv] at e80
              have hO' := hO.keeps (Reg.Wr.none r80 (by decide +kernel) (by decide +kernel) (by decide +kernel)) (fun _ _ h => h)
              have hq3 : Mem.Keeps (fun y => y = p6.g 0 ∨ Mem.blk (p6.X 6) = some y) wc u := (Mem.Keeps.refl (fun y => y = p6.g 0 ∨ Mem.blk (p6.X 6) = some y) wc).drew.trans (Reg.Wr.not3 hR (by decide +kernel)) (fun _ h _ => h)
              have hbx := Mem.Own.keeps H6.out.box hq3 (fun y hy h => by cases hy; exact hgn4 h)
              have xf := Mem.Own.free hbx
              have x0 := (hq3.cell (p := ⟨g, 6, none⟩) hg6 hgn4).trans e1
              have hln : (s1.st 6 ++ r.2).length = (s1.st 6).length + r.2.length := List.length_append
              go_wp2
              refine ⟨rfl, hK undef _ ⟨X2, d2, ?_, hm, ?_⟩ (Reg.Wr.does3 ((Mem.Keeps.refl (fun q => q = g) u).setCell (p := ⟨g, 6, none⟩) (fun _ => rfl) _))⟩
              · rw [hln, List.map_append]
                refine hO'.keeps ((Mem.Keeps.refl (fun q => q = g) u).setCell (p := ⟨g, 6, none⟩) (fun _ => rfl) _) (fun y h1 h => ?_)
                rcases hm with h2 | h2
                · exact hgn4 (.inr (by rw [← h2, h1, h]))
                · have := h2.blk y h1; omega
              · rw [hln]; have := Mem.Own.set hbx 6 (.slice X2 ((s1.st 6).length + r.2.length) d2); exact this
          · intro val u hR H
            obtain ⟨wA, ⟨A2, _, c2, _, _, hA2, _, _, hmA⟩, rA⟩ := H 11 (by decide)
            obtain ⟨wB, ⟨X2, d2, hO3, hmX, hb3⟩, rB⟩ := H 15 (by decide)
            have hA3 := hA2.keeps (Reg.Wr.not1 rA (by decide +kernel)) (fun h => (HN1.out _ h).1 rfl) (fun y hy h => (HN1.out _ h).2 (by
              rcases hmA with e | e
              · exact e ▸ hy
              · rw [e] at hy; cases hy))
            have hO4 := hO3.keeps (Reg.Wr.none rB (by decide +kernel) (by decide +kernel) (by decide +kernel)) (fun _ _ h => h)
            have hb4 := hb3.keeps (Reg.Wr.none rB (by decide +kernel) (by decide +kernel) (by decide +kernel)) (fun _ _ h => h)
            have hk : Mem.Keeps (fun y => lab6 y = 0 ∨ lab6 y = 6 ∨ lab6 y = 10) wc u := ((Mem.Keeps.refl (fun y => y = p6.g 0 ∨ Mem.blk (p6.X 6) = some y ∨ y = g) wc).drew.trans (Reg.Wr.all hR) (fun _ h _ => h)).mono (fun y h _ => by
              rcases h with h | h | h
              · exact .inl (by rw [h]; exact HGI.out)
              · exact .inr (.inl (HX.out _ h))
              · exact .inr (.inr (by rw [h]; exact HGG.out)))
            have hwl := H6.out.took (i := 0) (j := 6) (by omega) (by omega) (by omega) hA3 hO4 hb4 hk hmA (hmX.elim (fun h => .inl (by rw [h])) (fun h => .inr (.inr h)))
            have hgs : Link.gain s1 0 6 q = { s1 with e := Link.upd s1.e 0 r.1, st := Link.upd s1.st 6 (s1.st 6 ++ r.2) } := by unfold Link.gain; rw [HRR.out]
            rw [← hgs, ← HC5.out] at hwl
            have HWL := Lib.hid hwl
            simp only [List.map_cons, List.map_nil, Reg.lay, Act.put, List.setIfInBounds_toArray, List.set_cons_succ, List.set_cons_zero, Nat.reduceAdd]
            clear hR H hk hb4 hO4 hb3 hO3 rA rB hwl hgs
            go_wp2
            go_end0
            exact ⟨rfl, _, _, HWL.out⟩
        · have d5 : (a.kind == 5) = false := by simp [hkd]
          have HC5 : Hid (Link.comeW s a = s1) := by show _ = _; rw [HCA.out, if_neg hkd]
          clear hkd
          go_wp2
          go_end0
          refine ⟨rfl, p6, lab6, ?_⟩
          rw [HC5.out]
          exact H6.out
    · have hld : decide (kk < (s.pk 2).length) = false := by simpa using hlt
      obtain ⟨j, hj⟩ : ∃ j, kk = (s.pk 2).length + j := ⟨kk - (s.pk 2).length, by omega⟩
      have hsub : (kk : Int) - ((s.pk 2).length : Int) = (j : Int) := by omega
      have hjl : j < (s.pk 3).length := by omega
      have HCW : Hid (Link.comeW s a = Link.comeAt s a 1 3 7 j) := by show _ = _; unfold Link.comeW; rw [if_neg HZ.out, HKK.out, if_neg hlt, show kk - (s.pk 2).length = j by omega]
      obtain ⟨b, o, q, hX, hb, hq, q0, q1, q2, q3, q4⟩ := Link.pk_elem (HW.out.pk 3 (by omega) (by omega)).rd (k := j) hjl
      rw [hX] at c3
      clear hlt hj
      go_enter Try.func27, Try.ntmps27
      go_wp2
      go_quiet (fail)
      go_upto_if 99 with fail
      have hsza : ((w.alloc (.cells #[.int .i64 a.kind, .int .i64 a.n, .bool a.twice, .slice a.D a.data.length a.dc] 34)).drewN nq).heap.size = w.heap.size + 1 := by simp
      obtain ⟨w5, hw5⟩ : ∃ w5, (((w.alloc (.cells #[.int .i64 a.kind, .int .i64 a.n, .bool a.twice, .slice a.D a.data.length a.dc] 34)).drewN nq).alloc (.cells #[.int .i64 q.life, .int .i64 q.seq, .int .i64 q.ack, .bool q.has, .string q.data] 52)) = w5 := ⟨_, rfl⟩
      have H5 : Hid (Link.WL w0 w5 g p s (Link.relab lab w.heap.size 11)) := by show Link.WL _ _ _ _ _ _; rw [← hw5]; exact HW.out.fresh.quiet ((((Mem.Keeps.refl _ _).alloc _).drewN _).alloc _)
      have HP5 : Hid (Link.PBox w5 (w.heap.size + 1) q) := fun j => by rw [← hw5, ← hsza, cell_of_row _ _ _ _ _ _ (heap_alloc_new _ _)]; rfl
      have HA5 : Hid (w5.cell? ⟨w.heap.size, 0, none⟩ = some (.int .i64 a.kind)) := by
        show World.cell? _ _ = _
        rw [← hw5, World.cell?_alloc_lt _ _ _ (by show w.heap.size < _; omega)]
        exact cell_of_row _ _ _ _ _ _ (heap_alloc_new w _)
      have hz5 : w5.heap.size = w.heap.size + 1 + 1 := by rw [← hw5, World.size_alloc, hsza]
      have HQ := Lib.hid hq
      rw [hw5]
      clear hw5 hsza q0 q1 q2 q3 q4 hq c0 c1 c2 c3
      go_cut [] (fun wx => Link.ComeMid w0 g (Link.lose s 3 j a.twice) w.heap.size a.kind q wx)
      case first =>
        cases htw : a.twice
        · have d1 : (!a.twice) = true := by rw [htw]; rfl
          have HT := Lib.hid htw
          have cF : w5.cell? ⟨g, 3, none⟩ = some (.slice (p.X 3) (s.pk 3).length (p.xc 3)) := H5.out.cell (i := 3) rfl
          have fr5 := H5.out.fr
          rw [hX] at cF
          have HOW : Hid (Mem.Own w5 52 5 (some ⟨b, o, none⟩) (s.pk 3).length (p.xc 3) ((s.pk 3).flatMap Link.pkCells)) := by have := H5.out.pk 3 (by omega) (by omega); rw [hX] at this; exact this
          have hgw5 : g < w5.heap.size := by omega
          have hgn : ¬ (w5.heap.size ≤ g ∨ w5.heap.size ≤ g) := by omega
          have hcap := HOW.out.le
          have hpl : (s.pk 3).length ≤ 100000 := by omega
          clear htw
          go_wp2
          refine Reg.wp_region_w (by kernel_rfl) 137 20 rfl rfl (by kernel_rfl) (8) (fun q => w5.heap.size ≤ q) (16) (fun q => w5.heap.size ≤ q) (19) (fun q => q = g)
            (fun i v u => match i with
              | 0 => v = .pointer (some ⟨g, 0, none⟩)
              | 1 => ∃ s0, v = .slice (some ⟨s0, 0, none⟩) 0 0 ∧ w5.heap.size ≤ s0 ∧ Mem.Own u 52 5 (some ⟨s0, 0, none⟩) 0 0 []
              | 2 => v = .pointer (some ⟨g, 0, none⟩)
              | 3 => v = .pointer (some ⟨g, 0, none⟩)
              | 4 => v = .pointer (some ⟨g, 3, none⟩)
              | 5 => v = .slice (some ⟨b, o, none⟩) (s.pk 3).length (p.xc 3)
              | 6 => v = .int .i64 j
              | 7 => v = .slice (some ⟨b, o, none⟩) j (p.xc 3)
              | 8 => ∃ A1 c1, v = .slice A1 j c1 ∧ Mem.From w5.heap.size A1 ∧ Mem.Own u 52 5 A1 j c1 (((s.pk 3).take j).flatMap Link.pkCells)
              | 9 => v = .pointer (some ⟨g, 0, none⟩)
              | 10 => v = .pointer (some ⟨g, 0, none⟩)
              | 11 => v = .pointer (some ⟨g, 3, none⟩)
              | 12 => v = .slice (some ⟨b, o, none⟩) (s.pk 3).length (p.xc 3)
              | 13 => v = .int .i64 j
              | 14 => v = .int .i64 ((j : Int) + 1)
              | 15 => ∃ A2 c2, v = .slice A2 ((s.pk 3).length - (j + 1)) c2 ∧ Mem.Rd u w5.heap.size A2 (((s.pk 3).drop (j + 1)).flatMap Link.pkCells) ∧ w5.heap.size ≤ u.heap.size
              | 16 => ∃ A3 c3, v = .slice A3 (j + ((s.pk 3).length - (j + 1))) c3 ∧ Mem.From w5.heap.size A3 ∧ Mem.Own u 52 5 A3 (j + ((s.pk 3).length - (j + 1))) c3 (((s.pk 3).take j ++ (s.pk 3).drop (j + 1)).flatMap Link.pkCells)
              | 17 => v = .pointer (some ⟨g, 0, none⟩)
              | 18 => v = .pointer (some ⟨g, 3, none⟩)
              | 19 => ∃ A3 c3, Mem.From w5.heap.size A3 ∧ Mem.Own u 52 5 A3 ((s.pk 3).take j ++ (s.pk 3).drop (j + 1)).length c3 (((s.pk 3).take j ++ (s.pk 3).drop (j + 1)).flatMap Link.pkCells) ∧ Mem.Own u 31 8 (some ⟨g, 0, none⟩) 1 1 ((Link.wCells p s).set 3 (.slice A3 ((s.pk 3).take j ++ (s.pk 3).drop (j + 1)).length c3))
              | _ => True) ?_ ?_
          · refine Reg.Steps.cons ?_ (Reg.Steps.cons ?_ (Reg.Steps.cons ?_ (Reg.Steps.cons ?_ (Reg.Steps.cons ?_ (Reg.Steps.cons ?_ (Reg.Steps.cons ?_ (Reg.Steps.cons ?_ (Reg.Steps.cons ?_ (Reg.Steps.cons ?_ (Reg.Steps.cons ?_ (Reg.Steps.cons ?_ (Reg.Steps.cons ?_ (Reg.Steps.cons ?_ (Reg.Steps.cons ?_ (Reg.Steps.cons ?_ (Reg.Steps.cons ?_ (Reg.Steps.cons ?_ (Reg.Steps.cons ?_ (Reg.Steps.cons ?_ (Reg.Steps.nil _))))))))))))))))))))
            · intro val ac u hR hp ha K hK      -- 0: t100 := Op.move t0
              have e0 : (ac.tmps[0]?).getD undef = .pointer (some ⟨g, 0, none⟩) := ha 0 (by decide)
              clear ha hp
              refine Reg.Op1.plain rfl ?_
              go_wp2
              exact ⟨rfl, hK _ _ rfl (Reg.Wr.same _)⟩
            · intro val ac u hR hp ha K hK      -- 1: t101 := Op.buildSlice 28 0 #[]
              clear ha hp
              refine Reg.Op1.plain rfl ?_
              have hbu : w5.heap.size ≤ u.heap.size := (Reg.Wr.all hR).size
              go_wp2
              exact ⟨rfl, hK _ _ ⟨u.heap.size, rfl, hbu, Mem.Own.lit u _ 5 #[] 0 rfl rfl (by simp [maxLen])⟩ (Reg.Wr.quiet ((Mem.Keeps.refl _ u).alloc _))⟩
            · intro val ac u hR hp ha K hK      -- 2: t102 := Op.move t0
              have e0 : (ac.tmps[0]?).getD undef = .pointer (some ⟨g, 0, none⟩) := ha 0 (by decide)
              clear ha hp
              refine Reg.Op1.plain rfl ?_
              go_wp2
              exact ⟨rfl, hK _ _ rfl (Reg.Wr.same _)⟩
            · intro val ac u hR hp ha K hK      -- 3: t103 := Op.nilCheck t102
              obtain ⟨w102, h102, r102⟩ := hp 2 (by decide)
              have e102 : (ac.tmps[102]?).getD undef = .pointer (some ⟨g, 0, none⟩) := (ha 102 (by decide)).trans h102
              clear h102
              clear ha hp
              refine Reg.Op1.plain rfl ?_
              go_wp2
              exact ⟨rfl, hK _ _ rfl (Reg.Wr.same _)⟩
            · intro val ac u hR hp ha K hK      -- 4: t104 := Op.fieldAddr 31 t103 3
              obtain ⟨w103, h103, r103⟩ := hp 3 (by decide)
              have e103 : (ac.tmps[103]?).getD undef = .pointer (some ⟨g, 0, none⟩) := (ha 103 (by decide)).trans h103
              clear h103
              clear ha hp
              refine Reg.Op1.plain rfl ?_
              go_wp2
              exact ⟨rfl, hK _ _ rfl (Reg.Wr.same _)⟩
            · intro val ac u hR hp ha K hK      -- 5: t105 := Op.load 28 t104
              obtain ⟨w104, h104, r104⟩ := hp 4 (by decide)
              have e104 : (ac.tmps[104]?).getD undef = .pointer (some ⟨g, 3, none⟩) := (ha 104 (by decide)).trans h104
              clear h104
              clear ha hp
              refine Reg.Op1.plain rfl ?_
              have x0 := (((Reg.Wr.not3 hR (by decide +kernel))).cell (p := ⟨g, 3, none⟩) (hgw5) (hgn)).trans (cF)
              go_wp2
              exact ⟨rfl, hK _ _ rfl (Reg.Wr.same _)⟩
            · intro val ac u hR hp ha K hK      -- 6: t106 := Op.move t5
              have e5 : (ac.tmps[5]?).getD undef = .int .i64 j := ha 5 (by decide)
              clear ha hp
              refine Reg.Op1.plain rfl ?_
              go_wp2
              exact ⟨rfl, hK _ _ rfl (Reg.Wr.same _)⟩
            · intro val ac u hR hp ha K hK      -- 7: t107 := Op.slice 28 t105 none (some t106) none
              obtain ⟨w105, h105, r105⟩ := hp 5 (by decide)
              have e105 : (ac.tmps[105]?).getD undef = .slice (some ⟨b, o, none⟩) (s.pk 3).length (p.xc 3) := (ha 105 (by decide)).trans h105
              clear h105
              obtain ⟨w106, h106, r106⟩ := hp 6 (by decide)
              have e106 : (ac.tmps[106]?).getD undef = .int .i64 j := (ha 106 (by decide)).trans h106
              clear h106
              clear ha hp
              refine Reg.Op1.plain rfl ?_
              go_wp2
              exact ⟨rfl, hK _ _ rfl (Reg.Wr.same _)⟩
            · intro val ac u hR hp ha K hK      -- 8: t108 := Op.call { builtin append, args := #[t101, t107], argTypes := #[28, 28] }
              obtain ⟨w101, h101, r101⟩ := hp 1 (by decide)
              have e101 : (ac.tmps[101]?).getD undef = val 1 := ha 101 (by decide)
              obtain ⟨w107, h107, r107⟩ := hp 7 (by decide)
              have e107 : (ac.tmps[107]?).getD undef = .slice (some ⟨b, o, none⟩) j (p.xc 3) := (ha 107 (by decide)).trans h107
              clear h107
              clear ha hp
              refine Reg.Op1.plain rfl ?_
              obtain ⟨s0, hv, hs0, ho⟩ := h101
              rw [hv] at e101
              have ho' := ho.keeps (Reg.Wr.none r101 (by decide +kernel) (by decide +kernel) (by decide +kernel)) (fun _ _ h => h)
              have hkb : Below w5.heap.size w5 u := ((Mem.Keeps.refl (fun q => w5.heap.size ≤ q ∨ w5.heap.size ≤ q) w5).drew.trans (Reg.Wr.not3 hR (by decide +kernel)) (fun _ h _ => h)).below (fun q h => h.elim id id) (Nat.le_refl _)
              have hrd : Mem.Rd u w5.heap.size (some ⟨b, o, none⟩) (((s.pk 3).take j).flatMap Link.pkCells) := by
                have h1 := (HOW.out.take (k := j) (by omega)).rd.below hkb
                rwa [Mem.flat_take Link.pkCells_length] at h1
              have hbu := hkb.size
              refine Mem.wpList_app u rfl (.tmp 101) (.tmp 107) _ rfl packets_elem (some ⟨s0, 0, none⟩) 0 0 [] (Reg.eval_of e101) w5.heap.size (some ⟨b, o, none⟩) j (p.xc 3) (((s.pk 3).take j).flatMap Link.pkCells) (Reg.eval_of e107) ?_ ho' hrd (by rw [Mem.flat_length Link.pkCells_length, List.length_take]; congr 1; omega) Link.pk_one (by unfold maxLen; omega) (by omega)
              intro X' d' u' hown hg hat
              rw [Nat.zero_add] at hown ⊢
              rw [List.nil_append] at hown
              refine ⟨rfl, hK _ _ ⟨X', d', rfl, ?_, hown⟩ (Reg.Wr.does1 ((Mem.Keeps.refl _ u).grown hg (fun q hq _ => by have h' : s0 = q := Option.some.inj hq; omega)))⟩
              rcases hat with rfl | rfl
              · exact Mem.From.some_ hs0
              · exact Mem.From.some_ hbu
            · intro val ac u hR hp ha K hK      -- 9: t109 := Op.move t0
              have e0 : (ac.tmps[0]?).getD undef = .pointer (some ⟨g, 0, none⟩) := ha 0 (by decide)
              clear ha hp
              refine Reg.Op1.plain rfl ?_
              go_wp2
              exact ⟨rfl, hK _ _ rfl (Reg.Wr.same _)⟩
            · intro val ac u hR hp ha K hK      -- 10: t110 := Op.nilCheck t109
              obtain ⟨w109, h109, r109⟩ := hp 9 (by decide)
              have e109 : (ac.tmps[109]?).getD undef = .pointer (some ⟨g, 0, none⟩) := (ha 109 (by decide)).trans h109
              clear h109
              clear ha hp
              refine Reg.Op1.plain rfl ?_
              go_wp2
              exact ⟨rfl, hK _ _ rfl (Reg.Wr.same _)⟩
            · intro val ac u hR hp ha K hK      -- 11: t111 := Op.fieldAddr 31 t110 3
              obtain ⟨w110, h110, r110⟩ := hp 10 (by decide)
              have e110 : (ac.tmps[110]?).getD undef = .pointer (some ⟨g, 0, none⟩) := (ha 110 (by decide)).trans h110
              clear h110
              clear ha hp
              refine Reg.Op1.plain rfl ?_
              go_wp2
              exact ⟨rfl, hK _ _ rfl (Reg.Wr.same _)⟩
            · intro val ac u hR hp ha K hK      -- 12: t112 := Op.load 28 t111
              obtain ⟨w111, h111, r111⟩ := hp 11 (by decide)
              have e111 : (ac.tmps[111]?).getD undef = .pointer (some ⟨g, 3, none⟩) := (ha 111 (by decide)).trans h111
              clear h111
              clear ha hp
              refine Reg.Op1.plain rfl ?_
              have x0 := (((Reg.Wr.not3 hR (by decide +kernel))).cell (p := ⟨g, 3, none⟩) (hgw5) (hgn)).trans (cF)
              go_wp2
              exact ⟨rfl, hK _ _ rfl (Reg.Wr.same _)⟩
            · intro val ac u hR hp ha K hK      -- 13: t113 := Op.move t5
              have e5 : (ac.tmps[5]?).getD undef = .int .i64 j := ha 5 (by decide)
              clear ha hp
              refine Reg.Op1.plain rfl ?_
              go_wp2
              exact ⟨rfl, hK _ _ rfl (Reg.Wr.same _)⟩
            · intro val ac u hR hp ha K hK      -- 14: t114 := Op.binOp BinOp.add 3 t113 (const (1:i64)) 3
              obtain ⟨w113, h113, r113⟩ := hp 13 (by decide)
              have e113 : (ac.tmps[113]?).getD undef = .int .i64 j := (ha 113 (by decide)).trans h113
              clear h113
              clear ha hp
              refine Reg.Op1.plain rfl ?_
              go_wp2
              exact ⟨rfl, hK _ _ rfl (Reg.Wr.same _)⟩
            · intro val ac u hR hp ha K hK      -- 15: t115 := Op.slice 28 t112 (some t114) none none
              obtain ⟨w112, h112, r112⟩ := hp 12 (by decide)
              have e112 : (ac.tmps[112]?).getD undef = .slice (some ⟨b, o, none⟩) (s.pk 3).length (p.xc 3) := (ha 112 (by decide)).trans h112
              clear h112
              obtain ⟨w114, h114, r114⟩ := hp 14 (by decide)
              have e114 : (ac.tmps[114]?).getD undef = .int .i64 ((j : Int) + 1) := (ha 114 (by decide)).trans h114
              clear h114
              clear ha hp
              refine Reg.Op1.plain rfl ?_
              have hkb : Below w5.heap.size w5 u := ((Mem.Keeps.refl (fun q => w5.heap.size ≤ q ∨ w5.heap.size ≤ q) w5).drew.trans (Reg.Wr.not3 hR (by decide +kernel)) (fun _ h _ => h)).below (fun q h => h.elim id id) (Nat.le_refl _)
              have hdr := (HOW.out.drop (k := j + 1) (by omega)).rd.below hkb
              rw [Mem.flat_drop Link.pkCells_length] at hdr
              by_cases hc : p.xc 3 = j + 1
              · have hnil : ((s.pk 3).drop (j + 1)).flatMap Link.pkCells = [] := by rw [List.drop_eq_nil_of_le (by omega)]; rfl
                go_wp2
                exact ⟨rfl, hK _ _ ⟨_, _, rfl, .inl hnil, hkb.size⟩ (Reg.Wr.same _)⟩
              · go_wp2
                exact ⟨rfl, hK _ _ ⟨_, _, rfl, hdr, hkb.size⟩ (Reg.Wr.same _)⟩
            · intro val ac u hR hp ha K hK      -- 16: t116 := Op.call { builtin append, args := #[t108, t115], argTypes := #[28, 28] }
              obtain ⟨w108, h108, r108⟩ := hp 8 (by decide)
              have e108 : (ac.tmps[108]?).getD undef = val 8 := ha 108 (by decide)
              obtain ⟨w115, h115, r115⟩ := hp 15 (by decide)
              have e115 : (ac.tmps[115]?).getD undef = val 15 := ha 115 (by decide)
              clear ha hp
              refine Reg.Op1.plain rfl ?_
              obtain ⟨A1, c1, hv1, hf1, ho1⟩ := h108
              obtain ⟨A2, c2, hv2, hr2, hz61⟩ := h115
              rw [hv1] at e108
              rw [hv2] at e115
              have ho' := ho1.keeps (Reg.Wr.none r108 (by decide +kernel) (by decide +kernel) (by decide +kernel)) (fun _ _ h => h)
              have hkb : Below w5.heap.size w5 u := ((Mem.Keeps.refl (fun q => w5.heap.size ≤ q ∨ w5.heap.size ≤ q) w5).drew.trans (Reg.Wr.not3 hR (by decide +kernel)) (fun _ h _ => h)).below (fun q h => h.elim id id) (Nat.le_refl _)
              have hkr := (Reg.Wr.not3 r115 (by decide +kernel))
              have hrd : Mem.Rd u w5.heap.size A2 (((s.pk 3).drop (j + 1)).flatMap Link.pkCells) := hr2.keep (fun q hq => hkr.cell (Nat.lt_of_lt_of_le hq hz61) (by omega))
              have hbu := hkb.size
              refine Mem.wpList_app u rfl (.tmp 108) (.tmp 115) _ rfl packets_elem A1 j c1 _ (Reg.eval_of e108) w5.heap.size A2 ((s.pk 3).length - (j + 1)) c2 (((s.pk 3).drop (j + 1)).flatMap Link.pkCells) (Reg.eval_of e115) ?_ ho' hrd (by rw [Mem.flat_length Link.pkCells_length, List.length_drop]) Link.pk_one (by unfold maxLen; omega) (by omega)
              intro X' d' u' hown hg hat
              rw [← List.flatMap_append] at hown
              refine ⟨rfl, hK _ _ ⟨X', d', rfl, ?_, hown⟩ (Reg.Wr.does2 ((Mem.Keeps.refl _ u).grown hg (fun q hq _ => hf1.blk q hq)))⟩
              rcases hat with rfl | rfl
              · exact hf1
              · exact Mem.From.some_ hbu
            · intro val ac u hR hp ha K hK      -- 17: t117 := Op.nilCheck t100
              obtain ⟨w100, h100, r100⟩ := hp 0 (by decide)
              have e100 : (ac.tmps[100]?).getD undef = .pointer (some ⟨g, 0, none⟩) := (ha 100 (by decide)).trans h100
              clear h100
              clear ha hp
              refine Reg.Op1.plain rfl ?_
              go_wp2
              exact ⟨rfl, hK _ _ rfl (Reg.Wr.same _)⟩
            · intro val ac u hR hp ha K hK      -- 18: t118 := Op.fieldAddr 31 t117 3
              obtain ⟨w117, h117, r117⟩ := hp 17 (by decide)
              have e117 : (ac.tmps[117]?).getD undef = .pointer (some ⟨g, 0, none⟩) := (ha 117 (by decide)).trans h117
              clear h117
              clear ha hp
              refine Reg.Op1.plain rfl ?_
              go_wp2
              exact ⟨rfl, hK _ _ rfl (Reg.Wr.same _)⟩
            · intro val ac u hR hp ha K hK      -- 19: Op.store 28 t118 t116
              obtain ⟨w118, h118, r118⟩ := hp 18 (by decide)
              have e118 : (ac.tmps[118]?).getD undef = .pointer (some ⟨g, 3, none⟩) := (ha 118 (by decide)).trans h118
              clear h118
              obtain ⟨w116, h116, r116⟩ := hp 16 (by decide)
              have e116 : (ac.tmps[116]?).getD undef = val 16 := ha 116 (by decide)
              clear ha hp
              refine Reg.Op1.plain rfl ?_
              obtain ⟨A3, c3, hv3, hf3, ho3⟩ := h116
              rw [hv3] at e116
              have ho' := ho3.keeps (Reg.Wr.none r116 (by decide +kernel) (by decide +kernel) (by decide +kernel)) (fun _ _ h => h)
              have hq : Mem.Keeps (fun q => w5.heap.size ≤ q ∨ w5.heap.size ≤ q) w5 u := (Mem.Keeps.refl (fun q => w5.heap.size ≤ q ∨ w5.heap.size ≤ q) w5).drew.trans (Reg.Wr.not3 hR (by decide +kernel)) (fun _ h _ => h)
              have hbx := Mem.Own.keeps H5.out.box hq (fun q hq h => by cases hq; exact hgn h)
              have xf := Mem.Own.free hbx
              have x0 := (hq.cell (p := ⟨g, 3, none⟩) hgw5 hgn).trans cF
              have hln : ((s.pk 3).take j ++ (s.pk 3).drop (j + 1)).length = j + ((s.pk 3).length - (j + 1)) := by rw [List.length_append, List.length_take, List.length_drop]; omega
              go_wp2
              refine ⟨rfl, hK undef _ ⟨A3, c3, hf3, ?_, ?_⟩ (Reg.Wr.does3 ((Mem.Keeps.refl (fun q => q = g) u).setCell (p := ⟨g, 3, none⟩) (fun _ => rfl) _))⟩
              · rw [hln]; exact ho'.keeps ((Mem.Keeps.refl (fun q => q = g) u).setCell (p := ⟨g, 3, none⟩) (fun _ => rfl) _) (fun q h1 h => by have := hf3.blk q h1; omega)
              · rw [hln]; have := Mem.Own.set hbx 3 (.slice A3 (j + ((s.pk 3).length - (j + 1))) c3); exact this
          · intro val u hR H
            obtain ⟨wA, ⟨A3, c3, hf3, ho3, hb3⟩, rA⟩ := H 19 (by decide)
            have ho4 := ho3.keeps (Reg.Wr.none rA (by decide +kernel) (by decide +kernel) (by decide +kernel)) (fun _ _ h => h)
            have hb4 := hb3.keeps (Reg.Wr.none rA (by decide +kernel) (by decide +kernel) (by decide +kernel)) (fun _ _ h => h)
            have hk : Mem.Keeps (fun q => w5.heap.size ≤ q ∨ w5.heap.size ≤ q ∨ q = g) w5 u := (Mem.Keeps.refl (fun q => w5.heap.size ≤ q ∨ w5.heap.size ≤ q ∨ q = g) w5).drew.trans (Reg.Wr.all hR) (fun _ h _ => h)
            have hlg := H5.out.lg
            have hk2 : Mem.Keeps (fun q => Link.relab lab w.heap.size 11 q = 3 ∨ Link.relab lab w.heap.size 11 q = 10) w5 u := Mem.Keeps.mono hk (fun q h hl => by rcases h with h | h | h; omega; omega; exact .inr (by rw [h]; exact hlg))
            have HM : Hid (Link.ComeMid w0 g (Link.lose s 3 j a.twice) w.heap.size a.kind q u) := by
              have hkz := hk.size
              have hwl := H5.out.pks (i := 3) (by omega) (by omega) ho4 hb4 hk2 (.inr (.inr hf3))
              have hls : Link.lose s 3 j a.twice = { s with pk := Link.upd s.pk 3 ((s.pk 3).take j ++ (s.pk 3).drop (j + 1)) } := by unfold Link.lose; rw [HT.out]; rfl
              rw [← hls] at hwl
              refine ⟨_, _, hwl, ?_, ?_, ?_, ?_⟩
              · exact fun j => (hk.cell (p := ⟨w.heap.size + 1, j, none⟩) (by show w.heap.size + 1 < _; omega) (by show ¬ (_ ∨ _ ∨ _); simp only; omega)).trans (HP5.out j)
              · show Link.relab _ _ _ _ = 11
                rw [Link.relab_lt (by omega), Link.relab_ge (by omega)]
              · show w.heap.size + 1 < _; omega
              · exact (hk.cell (p := ⟨w.heap.size, 0, none⟩) (by show w.heap.size < _; omega) (by show ¬ (_ ∨ _ ∨ _); simp only; omega)).trans HA5.out
            simp only [List.map_cons, List.map_nil, Reg.lay, Act.put, List.setIfInBounds_toArray, List.set_cons_succ, List.set_cons_zero, Nat.reduceAdd]
            clear hR H hk hk2 hb4 ho4 hb3 ho3 rA
            go_wp2
            go_meet
            case rel => exact HM.out
        · have d1 : (!a.twice) = false := by rw [htw]; rfl
          have HM : Hid (Link.ComeMid w0 g (Link.lose s 3 j a.twice) w.heap.size a.kind q w5) := ⟨p, _, by show Link.WL _ _ _ _ _ _; rw [htw]; exact H5.out, HP5, Link.relab_ge (by omega), by show w.heap.size + 1 < _; omega, HA5⟩
          clear htw
          go_wp2
          go_meet
          case rel => exact HM.out
      case rest =>
        obtain ⟨p6, lab6, H6, HP6, HL6, HB6, HA6⟩ := hcut
        obtain ⟨s1, hs1⟩ : ∃ s1, Link.lose s 3 j a.twice = s1 := ⟨_, rfl⟩
        rw [hs1] at H6
        have hes := Link.lose_es s 3 j a.twice
        rw [hs1] at hes
        have HF1 : Hid (Link.Fine 100000 (s1.e 1)) := by show Link.Fine _ _; rw [hes.1]; exact HF.out 1 (by omega)
        have HST1 : Hid ((s1.st 7).length ≤ 100000) := by show _ ≤ _; rw [hes.2]; exact HST.out 7 (by omega) (by omega)
        have HCA : Hid (Link.comeW s a = if a.kind = 5 then Link.gain s1 1 7 q else s1) := by show _ = _; rw [HCW.out]; unfold Link.comeAt; rw [HQ.out, hs1]
        have ck := HA6.out
        have hcb := HB6.out
        have HS1 := Lib.hid hs1
        clear hes hs1 HF HST HW H5 HP5 HA5 HQ HCW
        by_cases hkd : a.kind = 5
        · have d5 : (a.kind == 5) = true := by simp [hkd]
          have HC5 : Hid (Link.comeW s a = Link.gain s1 1 7 q) := by show _ = _; rw [HCA.out, if_pos hkd]
          have e0 := H6.out.cell (i := 1) rfl
          have e1 := H6.out.cell (i := 7) rfl
          have hg6 := H6.out.lt
          have hst1 := HST1.out
          obtain ⟨r, hr⟩ : ∃ r, Link.take (s1.e 1) [q] = r := ⟨_, rfl⟩
          have hrl : r.2.length ≤ 1 := by have := Link.take_len (s1.e 1) [q]; rw [hr] at this; simpa using this
          have HRR := Lib.hid hr
          have hl0 : ∀ i, i < 2 → lab6 (p6.g i) = i := H6.out.le
          have HX : Hid (∀ y, Mem.blk (p6.X 7) = some y → lab6 y = 7) := fun y hy => H6.out.lx 7 (by omega) (by omega) y hy
          have HO6 : Hid (∀ y, Mem.blk (p6.O 1) = some y → lab6 y = 8 + 1) := fun y hy => H6.out.lo 1 (by omega) y hy
          have HGI := Lib.hid (H6.out.le 1 (by omega))
          have HGG := Lib.hid H6.out.lg
          have hgn3 : Hid (¬ (g = p6.g 1 ∨ Mem.blk (p6.X 7) = some g)) := by
            rintro (h | h)
            · have := HGI.out; rw [← h, HGG.out] at this; omega
            · have := HX.out _ h; rw [HGG.out] at this; omega
          have hgn4 := hgn3.out
          have HN1 : Hid (∀ y, (Mem.blk (p6.X 7) = some y ∨ y = g) → y ≠ p6.g 1 ∧ Mem.blk (p6.O 1) ≠ some y) := fun y h => by
            have hl : lab6 y = 7 ∨ lab6 y = 10 := h.elim (fun h => .inl (HX.out _ h)) (fun h => .inr (by rw [h]; exact HGG.out))
            refine ⟨fun h => ?_, fun h => ?_⟩
            · have := HGI.out; rw [← h] at this; omega
            · have := HO6.out _ h; omega
          have HN2 : Hid (∀ y, Mem.blk (p6.X 7) = some y → ¬ (y = p6.g 1 ∨ y = g)) := fun y hy h => by
            have := HX.out _ hy
            rcases h with h | h
            · rw [h, HGI.out] at this; omega
            · rw [h, HGG.out] at this; omega
          have HNB : Hid (¬ (w.heap.size + 1 = p6.g 1 ∨ Mem.blk (p6.X 7) = some (w.heap.size + 1))) := by
            rintro (h | h)
            · have := HGI.out; rw [← h, HL6.out] at this; omega
            · have := HX.out _ h; rw [HL6.out] at this; omega
          clear hkd hr hl0
          go_upto_if 121 with fail
          go_wp2
          refine Reg.wp_region_w (by kernel_rfl) 137 16 rfl rfl (by kernel_rfl) (11) (fun y => y = p6.g 1) (12) (fun y => Mem.blk (p6.X 7) = some y) (15) (fun y => y = g)
            (fun i v u => match i with
              | 0 => v = .pointer (some ⟨g, 0, none⟩)
              | 1 => v = .pointer (some ⟨g, 0, none⟩)
              | 2 => v = .pointer (some ⟨g, 0, none⟩)
              | 3 => v = .pointer (some ⟨g, 7, none⟩)
              | 4 => v = .slice (p6.X 7) (s1.st 7).length (p6.xc 7)
              | 5 => v = .pointer (some ⟨g, 0, none⟩)
              | 6 => v = .pointer (some ⟨g, 0, none⟩)
              | 7 => v = .pointer (some ⟨g, 1, none⟩)
              | 8 => v = .pointer (some ⟨p6.g 1, 0, none⟩)
              | 9 => v = Link.P q
              | 10 => ∃ s0, v = .slice (some ⟨s0, 0, none⟩) 1 1 ∧ wc.heap.size ≤ s0 ∧ Mem.Own u 52 5 (some ⟨s0, 0, none⟩) 1 1 ([q].flatMap Link.pkCells)
              | 11 => ∃ A2 O c2 oc, v = .slice O r.2.length oc ∧ Link.At u (p6.g 1) A2 c2 r.1 ∧ Mem.Own u 9 1 O r.2.length oc (r.2.map Link.strV) ∧ Mem.From wc.heap.size O ∧ (Mem.blk A2 = Mem.blk (p6.O 1) ∨ Mem.blk A2 = none)
              | 12 => ∃ X2 d2, v = .slice X2 ((s1.st 7).length + r.2.length) d2 ∧ Mem.Own u 9 1 X2 ((s1.st 7).length + r.2.length) d2 ((s1.st 7).map Link.strV ++ r.2.map Link.strV) ∧ (X2 = p6.X 7 ∨ Mem.From wc.heap.size X2)
              | 13 => v = .pointer (some ⟨g, 0, none⟩)
              | 14 => v = .pointer (some ⟨g, 7, none⟩)
              | 15 => ∃ X2 d2, Mem.Own u 9 1 X2 (s1.st 7 ++ r.2).length d2 ((s1.st 7 ++ r.2).map Link.strV) ∧ (X2 = p6.X 7 ∨ Mem.From wc.heap.size X2) ∧ Mem.Own u 31 8 (some ⟨g, 0, none⟩) 1 1 ((Link.wCells p6 s1).set 7 (.slice X2 (s1.st 7 ++ r.2).length d2))
              | _ => True) ?_ ?_
          · refine Reg.Steps.cons ?_ (Reg.Steps.cons ?_ (Reg.Steps.cons ?_ (Reg.Steps.cons ?_ (Reg.Steps.cons ?_ (Reg.Steps.cons ?_ (Reg.Steps.cons ?_ (Reg.Steps.cons ?_ (Reg.Steps.cons ?_ (Reg.Steps.cons ?_ (Reg.Steps.cons ?_ (Reg.Steps.cons ?_ (Reg.Steps.cons ?_ (Reg.Steps.cons ?_ (Reg.Steps.cons ?_ (Reg.Steps.cons ?_ (Reg.Steps.nil _))))))))))))))))
            · intro val ac u hR hp ha K hK      -- 0: t122 := Op.move t0
              have e0 : (ac.tmps[0]?).getD undef = .pointer (some ⟨g, 0, none⟩) := ha 0 (by decide)
              clear ha hp
              refine Reg.Op1.plain rfl ?_
              go_wp2
              exact ⟨rfl, hK _ _ rfl (Reg.Wr.same _)⟩
            · intro val ac u hR hp ha K hK      -- 1: t123 := Op.move t0
              have e0 : (ac.tmps[0]?).getD undef = .pointer (some ⟨g, 0, none⟩) := ha 0 (by decide)
              clear ha hp
              refine Reg.Op1.plain rfl ?_
              go_wp2
              exact ⟨rfl, hK _ _ rfl (Reg.Wr.same _)⟩
            · intro val ac u hR hp ha K hK      -- 2: t124 := Op.nilCheck t123
              obtain ⟨w123, h123, r123⟩ := hp 1 (by decide)
              have e123 : (ac.tmps[123]?).getD undef = .pointer (some ⟨g, 0, none⟩) := (ha 123 (by decide)).trans h123
              clear h123
              clear ha hp
              refine Reg.Op1.plain rfl ?_
              go_wp2
              exact ⟨rfl, hK _ _ rfl (Reg.Wr.same _)⟩
            · intro val ac u hR hp ha K hK      -- 3: t125 := Op.fieldAddr 31 t124 7
              obtain ⟨w124, h124, r124⟩ := hp 2 (by decide)
              have e124 : (ac.tmps[124]?).getD undef = .pointer (some ⟨g, 0, none⟩) := (ha 124 (by decide)).trans h124
              clear h124
              clear ha hp
              refine Reg.Op1.plain rfl ?_
              go_wp2
              exact ⟨rfl, hK _ _ rfl (Reg.Wr.same _)⟩
            · intro val ac u hR hp ha K hK      -- 4: t126 := Op.load 29 t125
              obtain ⟨w125, h125, r125⟩ := hp 3 (by decide)
              have e125 : (ac.tmps[125]?).getD undef = .pointer (some ⟨g, 7, none⟩) := (ha 125 (by decide)).trans h125
              clear h125
              clear ha hp
              refine Reg.Op1.plain rfl ?_
              have x0 := (((Reg.Wr.not3 hR (by decide +kernel))).cell (p := ⟨g, 7, none⟩) (hg6) (hgn4)).trans (e1)
              go_wp2
              exact ⟨rfl, hK _ _ rfl (Reg.Wr.same _)⟩
            · intro val ac u hR hp ha K hK      -- 5: t127 := Op.move t0
              have e0 : (ac.tmps[0]?).getD undef = .pointer (some ⟨g, 0, none⟩) := ha 0 (by decide)
              clear ha hp
              refine Reg.Op1.plain rfl ?_
              go_wp2
              exact ⟨rfl, hK _ _ rfl (Reg.Wr.same _)⟩
            · intro val ac u hR hp ha K hK      -- 6: t128 := Op.nilCheck t127
              obtain ⟨w127, h127, r127⟩ := hp 5 (by decide)
              have e127 : (ac.tmps[127]?).getD undef = .pointer (some ⟨g, 0, none⟩) := (ha 127 (by decide)).trans h127
              clear h127
              clear ha hp
              refine Reg.Op1.plain rfl ?_
              go_wp2
              exact ⟨rfl, hK _ _ rfl (Reg.Wr.same _)⟩
            · intro val ac u hR hp ha K hK      -- 7: t129 := Op.fieldAddr 31 t128 1
              obtain ⟨w128, h128, r128⟩ := hp 6 (by decide)
              have e128 : (ac.tmps[128]?).getD undef = .pointer (some ⟨g, 0, none⟩) := (ha 128 (by decide)).trans h128
              clear h128
              clear ha hp
              refine Reg.Op1.plain rfl ?_
              go_wp2
              exact ⟨rfl, hK _ _ rfl (Reg.Wr.same _)⟩
            · intro val ac u hR hp ha K hK      -- 8: t130 := Op.load 26 t129
              obtain ⟨w129, h129, r129⟩ := hp 7 (by decide)
              have e129 : (ac.tmps[129]?).getD undef = .pointer (some ⟨g, 1, none⟩) := (ha 129 (by decide)).trans h129
              clear h129
              clear ha hp
              refine Reg.Op1.plain rfl ?_
              have x0 := (((Reg.Wr.not3 hR (by decide +kernel))).cell (p := ⟨g, 1, none⟩) (hg6) (hgn4)).trans (e0)
              go_wp2
              exact ⟨rfl, hK _ _ rfl (Reg.Wr.same _)⟩
            · intro val ac u hR hp ha K hK      -- 9: t131 := Op.load 52 t7
              have e7 : (ac.tmps[7]?).getD undef = .pointer (some ⟨w.heap.size + 1, 0, none⟩) := ha 7 (by decide)
              clear ha hp
              refine Reg.Op1.plain rfl ?_
              have hq3 := Reg.Wr.not3 hR (by decide +kernel)
              have hpb := fun j => (hq3.cell (p := ⟨w.heap.size + 1, j, none⟩) hcb HNB.out).trans (HP6.out j)
              have x0 := hpb 0
              have x1 := hpb 1
              have x2 := hpb 2
              have x3 := hpb 3
              have x4 := hpb 4
              simp only [Link.pkCells, List.getElem?_toArray, List.getElem?_cons_zero, List.getElem?_cons_succ] at x0 x1 x2 x3 x4
              clear hpb hq3
              go_wp2
              exact ⟨rfl, hK _ _ rfl (Reg.Wr.same _)⟩
            · intro val ac u hR hp ha K hK      -- 10: t132 := Op.buildSlice 28 1 #[(0, t131)]
              obtain ⟨w131, h131, r131⟩ := hp 9 (by decide)
              have e131 : (ac.tmps[131]?).getD undef = Link.P q := (ha 131 (by decide)).trans h131
              clear h131
              clear ha hp
              refine Reg.Op1.plain rfl ?_
              have hbu : wc.heap.size ≤ u.heap.size := (Reg.Wr.all hR).size
              go_wp2
              exact ⟨rfl, hK _ _ ⟨u.heap.size, rfl, hbu, Mem.Own.lit u _ 5 #[.int .i64 q.life, .int .i64 q.seq, .int .i64 q.ack, .bool q.has, .string q.data] 1 rfl rfl (by simp [maxLen])⟩ (Reg.Wr.quiet ((Mem.Keeps.refl _ u).alloc _))⟩
            · intro val ac u hR hp ha K hK      -- 11: t133 := Op.call { value (Operand.func 12), args := #[t130, t132], argTypes := #[26, 28] }
              obtain ⟨w130, h130, r130⟩ := hp 8 (by decide)
              have e130 : (ac.tmps[130]?).getD undef = .pointer (some ⟨p6.g 1, 0, none⟩) := (ha 130 (by decide)).trans h130
              clear h130
              obtain ⟨w132, h132, r132⟩ := hp 10 (by decide)
              have e132 : (ac.tmps[132]?).getD undef = val 10 := ha 132 (by decide)
              clear ha hp
              refine Reg.Op1.plain rfl ?_
              obtain ⟨s0, hv, hs0, ho⟩ := h132
              rw [hv] at e132
              have ho' := ho.keeps (Reg.Wr.none r132 (by decide +kernel) (by decide +kernel) (by decide +kernel)) (fun _ _ h => h)
              have hq1 : Mem.Keeps (fun y => Mem.blk (p6.X 7) = some y ∨ y = g) wc u := (Mem.Keeps.refl (fun y => Mem.blk (p6.X 7) = some y ∨ y = g) wc).drew.trans (Reg.Wr.not1 hR (by decide +kernel)) (fun _ h _ => h)
              have hen := (H6.out.en 1 (by omega)).keeps hq1 (fun h => (HN1.out _ h).1 rfl) (fun y hy h => (HN1.out _ h).2 hy)
              have hgi := H6.out.ltg (i := 1) (by omega)
              go_wp2_with fail
              refine (take_any hen (some ⟨s0, 0, none⟩) 1 [q] (fun W hk => ho'.rd.keepsAt hk (Nat.le_refl _) (fun y h1 h => by have h' : s0 = y := Option.some.inj h1; omega)) (by simp) HF1.out (by omega)).mono ?_
              rw [Link.tEnd_eq, HRR.out]
              rintro x w' ⟨A2, O, c2, oc, rfl, hA2, hO2, hf2, hk2, hm2⟩
              go_wp2_with fail
              exact ⟨rfl, hK _ _ ⟨A2, O, c2, oc, rfl, hA2, hO2, hf2.mono hq1.size, hm2⟩ (Reg.Wr.does1 hk2)⟩
            · intro val ac u hR hp ha K hK      -- 12: t134 := Op.call { builtin append, args := #[t126, t133], argTypes := #[29, 29] }
              obtain ⟨w126, h126, r126⟩ := hp 4 (by decide)
              have e126 : (ac.tmps[126]?).getD undef = .slice (p6.X 7) (s1.st 7).length (p6.xc 7) := (ha 126 (by decide)).trans h126
              clear h126
              obtain ⟨w133, h133, r133⟩ := hp 11 (by decide)
              have e133 : (ac.tmps[133]?).getD undef = val 11 := ha 133 (by decide)
              clear ha hp
              refine Reg.Op1.plain rfl ?_
              obtain ⟨_, O, _, oc, hv, _, hO, hf, _⟩ := h133
              rw [hv] at e133
              have hO' := hO.keeps (Reg.Wr.none r133 (by decide +kernel) (by decide +kernel) (by decide +kernel)) (fun _ _ h => h)
              have hq2 : Mem.Keeps (fun y => y = p6.g 1 ∨ y = g) wc u := (Mem.Keeps.refl (fun y => y = p6.g 1 ∨ y = g) wc).drew.trans (Reg.Wr.not2 hR (by decide +kernel)) (fun _ h _ => h)
              have hX' := (H6.out.st 7 (by omega) (by omega)).keeps hq2 (fun y hy => HN2.out y hy)
              have hbu := hq2.size
              refine Mem.wpList_app u rfl (.tmp 126) (.tmp 133) _ rfl strs_elem (p6.X 7) (s1.st 7).length (p6.xc 7) _ (Reg.eval_of e126) u.heap.size O r.2.length oc (r.2.map Link.strV) (Reg.eval_of e133) ?_ hX' hO'.rd (by simp) (by simp [Value.oneCell']) (by unfold maxLen; omega) (by omega)
              intro X' d' u' hown hg hat
              exact ⟨rfl, hK _ _ ⟨X', d', rfl, hown, hat.elim .inl (fun h => .inr (h ▸ Mem.From.some_ hbu))⟩ (Reg.Wr.does2 ((Mem.Keeps.refl _ u).grown hg (fun y hy _ => hy)))⟩
            · intro val ac u hR hp ha K hK      -- 13: t135 := Op.nilCheck t122
              obtain ⟨w122, h122, r122⟩ := hp 0 (by decide)
              have e122 : (ac.tmps[122]?).getD undef = .pointer (some ⟨g, 0, none⟩) := (ha 122 (by decide)).trans h122
              clear h122
              clear ha hp
              refine Reg.Op1.plain rfl ?_
              go_wp2
              exact ⟨rfl, hK _ _ rfl (Reg.Wr.same _)⟩
            · intro val ac u hR hp ha K hK      -- 14: t136 := Op.fieldAddr 31 t135 7
              obtain ⟨w135, h135, r135⟩ := hp 13 (by decide)
              have e135 : (ac.tmps[135]?).getD undef = .pointer (some ⟨g, 0, none⟩) := (ha 135 (by decide)).trans h135
              clear h135
              clear ha hp
              refine Reg.Op1.plain rfl ?_
              go_wp2
              exact ⟨rfl, hK _ _ rfl (Reg.Wr.same _)⟩
            · intro val ac u hR hp ha K hK      -- 15: Op.store 29 t136 t134
              obtain ⟨w136, h136, r136⟩ := hp 14 (by decide)
              have e136 : (ac.tmps[136]?).getD undef = .pointer (some ⟨g, 7, none⟩) := (ha 136 (by decide)).trans h136
              clear h136
              obtain ⟨w134, h134, r134⟩ := hp 12 (by decide)
              have e134 : (ac.tmps[134]?).getD undef = val 12 := ha 134 (by decide)
              clear ha hp
              refine Reg.Op1.plain rfl ?_
              obtain ⟨X2, d2, hv, hO, hm⟩ := h134
              rw [hv] at e134
              have hO' := hO.keeps (Reg.Wr.none r134 (by decide +kernel) (by decide +kernel) (by decide +kernel)) (fun _ _ h => h)
              have hq3 : Mem.Keeps (fun y => y = p6.g 1 ∨ Mem.blk (p6.X 7) = some y) wc u := (Mem.Keeps.refl (fun y => y = p6.g 1 ∨ Mem.blk (p6.X 7) = some y) wc).drew.trans (Reg.Wr.not3 hR (by decide +kernel)) (fun _ h _ => h)
              have hbx := Mem.Own.keeps H6.out.box hq3 (fun y hy h => by cases hy; exact hgn4 h)
              have xf := Mem.Own.free hbx
              have x0 := (hq3.cell (p := ⟨g, 7, none⟩) hg6 hgn4).trans e1
              have hln : (s1.st 7 ++ r.2).length = (s1.st 7).length + r.2.length := List.length_append
              go_wp2
              refine ⟨rfl, hK undef _ ⟨X2, d2, ?_, hm, ?_⟩ (Reg.Wr.does3 ((Mem.Keeps.refl (fun q => q = g) u).setCell (p := ⟨g, 7, none⟩) (fun _ => rfl) _))⟩
              · rw [hln, List.map_append]
                refine hO'.keeps ((Mem.Keeps.refl (fun q => q = g) u).setCell (p := ⟨g, 7, none⟩) (fun _ => rfl) _) (fun y h1 h => ?_)
                rcases hm with h2 | h2
                · exact hgn4 (.inr (by rw [← h2, h1, h]))
                · have := h2.blk y h1; omega
              · rw [hln]; have := Mem.Own.set hbx 7 (.slice X2 ((s1.st 7).length + r.2.length) d2); exact this
          · intro val u hR H
            obtain ⟨wA, ⟨A2, _, c2, _, _, hA2, _, _, hmA⟩, rA⟩ := H 11 (by decide)
            obtain ⟨wB, ⟨X2, d2, hO3, hmX, hb3⟩, rB⟩ := H 15 (by decide)
            have hA3 := hA2.keeps (Reg.Wr.not1 rA (by decide +kernel)) (fun h => (HN1.out _ h).1 rfl) (fun y hy h => (HN1.out _ h).2 (by
              rcases hmA with e | e
              · exact e ▸ hy
              · rw [e] at hy; cases hy))
            have hO4 := hO3.keeps (Reg.Wr.none rB (by decide +kernel) (by decide +kernel) (by decide +kernel)) (fun _ _ h => h)
            have hb4 := hb3.keeps (Reg.Wr.none rB (by decide +kernel) (by decide +kernel) (by decide +kernel)) (fun _ _ h => h)
            have hk : Mem.Keeps (fun y => lab6 y = 1 ∨ lab6 y = 7 ∨ lab6 y = 10) wc u := ((Mem.Keeps.refl (fun y => y = p6.g 1 ∨ Mem.blk (p6.X 7) = some y ∨ y = g) wc).drew.trans (Reg.Wr.all hR) (fun _ h _ => h)).mono (fun y h _ => by
              rcases h with h | h | h
              · exact .inl (by rw [h]; exact HGI.out)
              · exact .inr (.inl (HX.out _ h))
              · exact .inr (.inr (by rw [h]; exact HGG.out)))
            have hwl := H6.out.took (i := 1) (j := 7) (by omega) (by omega) (by omega) hA3 hO4 hb4 hk hmA (hmX.elim (fun h => .inl (by rw [h])) (fun h => .inr (.inr h)))
            have hgs : Link.gain s1 1 7 q = { s1 with e := Link.upd s1.e 1 r.1, st := Link.upd s1.st 7 (s1.st 7 ++ r.2) } := by unfold Link.gain; rw [HRR.out]
            rw [← hgs, ← HC5.out] at hwl
            have HWL := Lib.hid hwl
            simp only [List.map_cons, List.map_nil, Reg.lay, Act.put, List.setIfInBounds_toArray, List.set_cons_succ, List.set_cons_zero, Nat.reduceAdd]
            clear hR H hk hb4 hO4 hb3 hO3 rA rB hwl hgs
            go_wp2
            go_end0
            exact ⟨rfl, _, _, HWL.out⟩
        · have d5 : (a.kind == 5) = false := by simp [hkd]
          have HC5 : Hid (Link.comeW s a = s1) := by show _ = _; rw [HCA.out, if_neg hkd]
          clear hkd
          go_wp2
          go_end0
          refine ⟨rfl, p6, lab6, ?_⟩
          rw [HC5.out]
          exact H6.out
end Go.Proofs.Ytjkonfanmpcipaa
