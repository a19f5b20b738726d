/- The walk of chain. No conditions but that the bytes are few. -/
import Derived.Test.YtkfgedgjpgehoaaWire6
namespace Go.Proofs.Ytkfgedgjpgehoaa
open Go.ChangeShapes Go.WideShapes Go.ChangeAt Go.RowKit
set_option linter.unusedVariables false
set_option linter.unusedSimpArgs false
namespace Wi
def IsBool (zs : List Value) (k : Nat) : Prop := ∃ b, zs[k]? = some (.bool b)
theorem stepN_bool {r : Cd × List Value} {k j : Nat} (h : IsBool r.2 j) : IsBool (stepN r k).2 j := by
  unfold stepN
  split
  · rename_i v hv
    obtain ⟨b, hb⟩ := h
    have hkj : k ≠ j := fun e => by rw [e, hb] at hv; cases hv
    exact ⟨b, by show (r.2.set k _)[j]? = _; rw [List.getElem?_set_ne hkj]; exact hb⟩
  · exact h
theorem foldR_bool {r : Cd × List Value} {k : Nat} (h : IsBool r.2 k) (off : Nat) : ∀ m, IsBool (foldR r off m).2 k
  | 0 => h
  | m + 1 => by rw [foldR_snoc]; exact stepN_bool (foldR_bool h off m)
theorem stepB_int {r : Cd × List Value} {k j : Nat} (h : IsInt r.2 j) : IsInt (stepB r k).2 j := by
  unfold stepB
  split
  · rename_i b hb
    obtain ⟨u, hu⟩ := h
    have hkj : k ≠ j := fun e => by rw [e, hu] at hb; cases hb
    exact ⟨u, by show (r.2.set k _)[j]? = _; rw [List.getElem?_set_ne hkj]; exact hu⟩
  · exact h
theorem stepB_bool {r : Cd × List Value} {k j : Nat} (h : IsBool r.2 j) : IsBool (stepB r k).2 j := by
  unfold stepB
  split
  · rename_i b hb
    by_cases hkj : k = j
    · subst hkj
      exact ⟨_, by show (r.2.set k _)[k]? = _; rw [List.getElem?_set_self (List.getElem?_eq_some_iff.1 hb).1]⟩
    · obtain ⟨u, hu⟩ := h
      exact ⟨u, by show (r.2.set k _)[j]? = _; rw [List.getElem?_set_ne hkj]; exact hu⟩
  · exact h
theorem stepB_fit {r : Cd × List Value} {L : Nat} (h : Fit r.1 L) (k : Nat) : Fit (stepB r k).1 (L + 9) := by
  unfold stepB
  split
  · exact stepTru_fit h _
  · exact ⟨h.pos, by have := h.len; omega⟩
theorem foldR_add (r : Cd × List Value) (off a : Nat) : ∀ b, foldR (foldR r off a) (off + a) b = foldR r off (a + b)
  | 0 => rfl
  | b + 1 => by rw [foldR_snoc, foldR_add r off a b, ← Nat.add_assoc, foldR_snoc, Nat.add_assoc]
theorem Pass.truth {w w1 : World} {g : Nat} {A : Option Addr} {t : TypeId} {n gm : Nat} {r : Cd × List Value} {L k : Nat} (h : Pass w g A t n gm r w1) (hf : Fit r.1 L) (hL : L + 9 ≤ 1000000000) (hi : IsBool r.2 k) (hg : gm ≠ g) (ha : Mem.blk A ≠ some gm) (hgw : gm < w.heap.size) :
    Calls Try.prog 57 #[.pointer (some ⟨g, 0, none⟩), .pointer (some ⟨gm, k, none⟩)] w1 fun x w' => x = .returned (.tuple #[]) ∧ Pass w g A t n gm (stepB r k) w' := by
  obtain ⟨A2, cap2, h1, h2, h3, h4⟩ := h.out
  obtain ⟨b, hb⟩ := hi
  refine (truth_pass h1 hf hL h2 hb hg (fun h9 => ?_)).mono fun x w' hp => ⟨hp.1, Pass.step h3 h4 (fun hr => h.rd (by rw [stepB_reads] at hr; exact hr)) hp.2⟩
  rcases h4 gm h9 with h8 | h8
  · exact ha h8
  · omega
/-- a configuration's cells -/
def chainK (r : Cd × List Value) (off : Nat) : Cd × List Value := foldR (stepB (foldR r off 10) (off + 10)) (off + 11) 2
structure IsChain (zs : List Value) (off : Nat) : Prop where
  i : ∀ j, j < 10 → IsInt zs (off + j)
  b : IsBool zs (off + 10)
  j : ∀ j, j < 2 → IsInt zs (off + 11 + j)
theorem chainK_fit {r : Cd × List Value} {L : Nat} (h : Fit r.1 L) (off : Nat) : Fit (chainK r off).1 (L + 117) := by
  have h1 := foldR_fit (stepB_fit (foldR_fit h off 10) (off + 10)) (off + 11) 2
  unfold chainK
  generalize foldR (stepB (foldR r off 10) (off + 10)) (off + 11) 2 = z at h1
  exact ⟨h1.pos, Nat.le_trans h1.len (by omega)⟩
theorem chainK_int {r : Cd × List Value} {k : Nat} (h : IsInt r.2 k) (off : Nat) : IsInt (chainK r off).2 k := foldR_int (stepB_int (foldR_int h off 10)) (off + 11) 2
theorem chainK_bool {r : Cd × List Value} {k : Nat} (h : IsBool r.2 k) (off : Nat) : IsBool (chainK r off).2 k := foldR_bool (stepB_bool (foldR_bool h off 10)) (off + 11) 2
structure ChRel (w : World) (g : Nat) (A : Option Addr) (t : TypeId) (n gm : Nat) (r : Cd × List Value) (off : Nat) (v14 : Value) (wr : World) : Prop where
  out : ∃ i : Nat, i ≤ 4 ∧ v14 = .int .i64 i ∧ Hid (Pass w g A t n gm (foldR r off (2 + i * 2)) wr)
end Wi
open Wi in
set_option maxRecDepth 8000 in
set_option maxHeartbeats 4000000 in
theorem chain_pass {w w0 : World} {g : Nat} {A : Option Addr} {t : TypeId} {n gm : Nat} {r : Wi.Cd × List Value} {L off : Nat} (h : Wi.Pass w0 g A t n gm r w) (hf : Wi.Fit r.1 L) (hL : L + 117 ≤ 1000000000) (hv : Wi.IsChain r.2 off) (hg : gm ≠ g) (ha : Mem.blk A ≠ some gm) (hgw : gm < w0.heap.size) :
    Calls Try.prog 47 #[.pointer (some ⟨g, 0, none⟩), .pointer (some ⟨gm, off, none⟩)] w fun x w' => x = .returned (.tuple #[]) ∧ Wi.Pass w0 g A t n gm (Wi.chainK r off) w' := by
  have HP := Lib.hid h
  have HV := Lib.hid hv
  have HF := Lib.hid hf
  have HA := Lib.hid ha
  clear h hv hf ha
  go_enter Try.func47, Try.ntmps47
  go_upto_region 0 with fail
  refine Reg.wp_region_w (by kernel_rfl) 35 9 rfl rfl (by kernel_rfl) (8) (fun _ => True) (8) (fun _ => False) (8) (fun _ => False)
    (fun i v u => match i with
      | 0 => v = .pointer (some ⟨g, 0, none⟩)
      | 1 => v = .pointer (some ⟨gm, off, none⟩)
      | 2 => v = .pointer (some ⟨gm, off, none⟩)
      | 3 => v = .pointer (some ⟨gm, off, none⟩)
      | 4 => v = .pointer (some ⟨gm, off, none⟩)
      | 5 => v = .pointer (some ⟨gm, off, none⟩)
      | 6 => v = .pointer (some ⟨gm, off + 1, none⟩)
      | 7 => ∃ s, v = .slice (some ⟨s, 0, none⟩) 2 2 ∧ w.heap.size ≤ s ∧ s + 1 ≤ u.heap.size ∧ Mem.Rd u (s + 1) (some ⟨s, 0, none⟩) [ptrV gm off, ptrV gm (off + 1)]
      | 8 => v = .tuple #[] ∧ Pass w0 g A t n gm ([off, off + 1].foldl stepN r) u
      | _ => True) ?_ ?_
  · refine Reg.Steps.cons ?_ (Reg.Steps.cons ?_ (Reg.Steps.cons ?_ (Reg.Steps.cons ?_ (Reg.Steps.cons ?_ (Reg.Steps.cons ?_ (Reg.Steps.cons ?_ (Reg.Steps.cons ?_ (Reg.Steps.cons ?_ (Reg.Steps.nil _)))))))))
    · intro val ac u hR hp ha K hK      -- 0: t5 := Op.move t0
      have e0 : (ac.tmps[0]?).getD undef = .pointer (some ⟨g, 0, none⟩) := ha 0 (by decide)
      clear ha hp
      refine Reg.Op1.plain rfl ?_
      go_wp2
      exact ⟨rfl, hK _ _ rfl (Reg.Wr.same _)⟩
    · intro val ac u hR hp ha K hK      -- 1: t6 := Op.move t1
      have e1 : (ac.tmps[1]?).getD undef = .pointer (some ⟨gm, off, none⟩) := ha 1 (by decide)
      clear ha hp
      refine Reg.Op1.plain rfl ?_
      go_wp2
      exact ⟨rfl, hK _ _ rfl (Reg.Wr.same _)⟩
    · intro val ac u hR hp ha K hK      -- 2: t7 := Op.nilCheck t6
      obtain ⟨w6, h6, r6⟩ := hp 1 (by decide)
      have e6 : (ac.tmps[6]?).getD undef = .pointer (some ⟨gm, off, none⟩) := (ha 6 (by decide)).trans h6
      clear h6
      clear ha hp
      refine Reg.Op1.plain rfl ?_
      go_wp2
      exact ⟨rfl, hK _ _ rfl (Reg.Wr.same _)⟩
    · intro val ac u hR hp ha K hK      -- 3: t8 := Op.fieldAddr 35 t7 0
      obtain ⟨w7, h7, r7⟩ := hp 2 (by decide)
      have e7 : (ac.tmps[7]?).getD undef = .pointer (some ⟨gm, off, none⟩) := (ha 7 (by decide)).trans h7
      clear h7
      clear ha hp
      refine Reg.Op1.plain rfl ?_
      go_wp2
      exact ⟨rfl, hK _ _ rfl (Reg.Wr.same _)⟩
    · intro val ac u hR hp ha K hK      -- 4: t9 := Op.move t1
      have e1 : (ac.tmps[1]?).getD undef = .pointer (some ⟨gm, off, none⟩) := ha 1 (by decide)
      clear ha hp
      refine Reg.Op1.plain rfl ?_
      go_wp2
      exact ⟨rfl, hK _ _ rfl (Reg.Wr.same _)⟩
    · intro val ac u hR hp ha K hK      -- 5: t10 := Op.nilCheck t9
      obtain ⟨w9, h9, r9⟩ := hp 4 (by decide)
      have e9 : (ac.tmps[9]?).getD undef = .pointer (some ⟨gm, off, none⟩) := (ha 9 (by decide)).trans h9
      clear h9
      clear ha hp
      refine Reg.Op1.plain rfl ?_
      go_wp2
      exact ⟨rfl, hK _ _ rfl (Reg.Wr.same _)⟩
    · intro val ac u hR hp ha K hK      -- 6: t11 := Op.fieldAddr 35 t10 1
      obtain ⟨w10, h10, r10⟩ := hp 5 (by decide)
      have e10 : (ac.tmps[10]?).getD undef = .pointer (some ⟨gm, off, none⟩) := (ha 10 (by decide)).trans h10
      clear h10
      clear ha hp
      refine Reg.Op1.plain rfl ?_
      go_wp2
      exact ⟨rfl, hK _ _ rfl (Reg.Wr.same _)⟩
    · intro val ac u hR hp ha K hK      -- 7: t12 := Op.buildSlice 127 2 #[(0, t8), (1, t11)]
      obtain ⟨w8, h8, r8⟩ := hp 3 (by decide)
      have e8 : (ac.tmps[8]?).getD undef = .pointer (some ⟨gm, off, none⟩) := (ha 8 (by decide)).trans h8
      clear h8
      obtain ⟨w11, h11, r11⟩ := hp 6 (by decide)
      have e11 : (ac.tmps[11]?).getD undef = .pointer (some ⟨gm, off + 1, none⟩) := (ha 11 (by decide)).trans h11
      clear h11
      clear ha hp
      refine Reg.Op1.plain rfl ?_
      have hq := (Mem.Keeps.refl (fun _ => False) w).drew.trans (Reg.Wr.none hR (by decide +kernel) (by decide +kernel) (by decide +kernel)) (fun _ h _ => h)
      go_wp2
      exact ⟨rfl, hK _ _ ⟨u.heap.size, rfl, hq.size, by simp, Mem.Rd.alloc_new u _ _ _ rfl⟩ (Reg.Wr.quiet ((Mem.Keeps.refl _ u).alloc _))⟩
    · intro val ac u hR hp ha K hK      -- 8: t13 := Op.call { value (Operand.func 56), args := #[t5, t12], argTypes := #[65, 127] }
      obtain ⟨w5, h5, r5⟩ := hp 0 (by decide)
      have e5 : (ac.tmps[5]?).getD undef = .pointer (some ⟨g, 0, none⟩) := (ha 5 (by decide)).trans h5
      clear h5
      obtain ⟨w12, h12, r12⟩ := hp 7 (by decide)
      have e12 : (ac.tmps[12]?).getD undef = val 7 := ha 12 (by decide)
      clear ha hp
      refine Reg.Op1.plain rfl ?_
      obtain ⟨s, hv, hs, hsz, hrd⟩ := h12
      rw [hv] at e12
      have hq := (Mem.Keeps.refl (fun _ => False) w).drew.trans (Reg.Wr.none hR (by decide +kernel) (by decide +kernel) (by decide +kernel)) (fun _ h _ => h)
      have hrd' := hrd.keepsAt (Reg.Wr.none r12 (by decide +kernel) (by decide +kernel) (by decide +kernel)) hsz (fun _ _ h => h)
      have hn := Pass.numbers HP.out hq hs [off, off + 1] 2 HF.out (by simp; omega) (fun k hk => by rcases List.mem_cons.1 hk with h | h; (rw [h]; exact HV.out.i 0 (by omega)); (rw [List.mem_singleton] at h; rw [h]; exact HV.out.i 1 (by omega))) hg HA.out hgw hrd'
      go_wp2_with fail
      refine hn.mono ?_
      rintro x w' ⟨rfl, hp, hk9⟩
      go_wp2_with fail
      exact ⟨rfl, hK _ _ ⟨rfl, hp⟩ (Reg.Wr.does1 hk9)⟩
  · intro val u hR H
    obtain ⟨wb, ⟨hv8, hp⟩, rb⟩ := H 8 (by decide)
    have hk9 := Reg.Wr.none rb (by decide +kernel) (by decide +kernel) (by decide +kernel)
    have HPP : Hid (Pass w0 g A t n gm (foldR r off (2 + 0 * 2)) u) := by
      obtain ⟨A2, cap2, h1, h2, h3, h4⟩ := hp.out
      exact ⟨⟨A2, cap2, h1.keeps hk9 (fun _ _ h => h), h2.keeps hk9 id, h3.trans hk9 (fun _ h _ => h.elim), h4⟩, fun hr => (hp.rd hr).trans hk9 (fun _ h _ => h.elim)⟩
    simp only [List.map_cons, List.map_nil, Reg.lay, Act.put, List.setIfInBounds_toArray, List.set_cons_succ, List.set_cons_zero, Nat.reduceAdd]
    clear hR H rb hp hk9 hv8
    go_wp2
    go_loopw [14] (ChRel w0 g A t n gm r off) (fun t _ => 4 - (intOf t).toNat)
    case atStart => exact ⟨⟨0, by omega, rfl, HPP⟩⟩
    case round =>
      obtain ⟨q, hq4, rfl, HPq⟩ := hrel.out
      clear hrel
      by_cases hlt : q < 4
      · have HN := Lib.hid (member_pass (off := off + 2 + q * 2) HPq.out (foldR_fit HF.out off (2 + q * 2)) (by omega) (fun j hj => by rw [show off + 2 + q * 2 + j = off + (2 + q * 2 + j) by omega]; exact foldR_int (HV.out.i _ (by omega)) off _) hg HA.out hgw)
        have HS := Lib.hid (foldR_add r off (2 + q * 2) 2)
        go_wp2_with (go_at_call 63; refine HN.out.mono ?_; rintro x9 w2 ⟨rfl, hp⟩; have HPa := Lib.hid hp; clear hp)
        have HPo : Hid (Pass w0 g A t n gm (foldR r off (2 + (q + 1) * 2)) w2) := by show Pass _ _ _ _ _ _ _ _; rw [show 2 + (q + 1) * 2 = 2 + q * 2 + 2 by omega, ← HS.out, ← Nat.add_assoc]; exact HPa.out
        go_roundw
        case rel => first | exact ⟨⟨q + 1, by omega, by go_num, HPo⟩⟩ | ((repeat apply Exists.intro); exact ⟨⟨⟨q + 1, by omega, by go_num, HPo⟩⟩, rfl⟩)
        case measure => simp [intOf]; omega
      · obtain rfl : q = 4 := by omega
        have hf10 := foldR_fit HF.out off 10
        have HT := Lib.hid (Pass.truth (k := off + 10) HPq.out hf10 (by omega) (foldR_bool HV.out.b off 10) hg HA.out hgw)
        have hf11 := stepB_fit hf10 (off + 10)
        have HM := Lib.hid (fun (w2 : World) (h2 : Pass w0 g A t n gm (stepB (foldR r off 10) (off + 10)) w2) => member_pass (off := off + 11) h2 hf11 (by omega) (fun j hj => stepB_int (foldR_int (HV.out.j j hj) off 10)) hg HA.out hgw)
        clear hf10 hf11
        go_wp2_with (first | (go_at_call 57; refine HT.out.mono ?_; rintro x9 w2 ⟨rfl, hp⟩; have HPa := Lib.hid hp; clear hp) | (go_at_call 63; refine (HM.out w2 HPa.out).mono ?_; rintro x9 w3 ⟨rfl, hp⟩; have HPb := Lib.hid hp; clear hp))
        first | go_end0 | ((try simp only [Exit.inBlock, Exit.then]); refine bodyPost_ret (results_none rfl _ _ _) rfl ?_)
        exact ⟨rfl, HPb.out⟩
end Go.Proofs.Ytkfgedgjpgehoaa
