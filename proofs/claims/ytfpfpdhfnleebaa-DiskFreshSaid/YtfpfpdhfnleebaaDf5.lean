/- The walks of the document's disk: Truncate, Remove. No conditions but that it is no great one. -/
import Derived.Test.YtfpfpdhfnleebaaDf4
set_option maxRecDepth 8000
namespace Go.Proofs.Ytfpfpdhfnleebaa
open Go.ChangeShapes Go.WideShapes Go.ChangeAt Go.RowKit
set_option linter.unusedVariables false
set_option linter.unusedSimpArgs false
namespace Df
theorem FAt.cut {w w' : World} {r : R} {k : Nat} (h : FAt w r) (hl : k ≤ r.f.bs.length) (hB : Mem.Bx w' 80 3 r.h [.int .i64 r.f.n, .slice r.A k r.c, .slice r.T k r.e]) (hk : Mem.Keeps (fun q => q = r.h) w w') :
    FAt w' { r with f := { r.f with bs := r.f.bs.take k, cm := r.f.cm.take k } } := by
  have hl2 : k ≤ r.f.cm.length := by rw [h.len]; exact hl
  have e1 : (r.f.bs.take k).length = k := by rw [List.length_take]; omega
  have e2 : (r.f.cm.take k).length = k := by rw [List.length_take]; omega
  refine ⟨?_, ?_, ?_, h.ne, h.nt, by show (r.f.cm.take k).length = (r.f.bs.take k).length; rw [e1, e2]⟩
  · show Mem.Bx _ _ _ _ [.int .i64 r.f.n, .slice r.A (r.f.bs.take k).length r.c, .slice r.T (r.f.cm.take k).length r.e]
    rw [e1, e2]; exact hB
  · have := (h.O.keeps hk (fun q hq e => (h.ne q hq).1 e)).take hl
    show Mem.Own _ _ _ r.A (r.f.bs.take k).length r.c ((r.f.bs.take k).map Mem.byteV)
    rw [e1, List.map_take]; simpa using this
  · have := (h.P.keeps hk (fun q hq e => h.nt q hq e)).take hl2
    show Mem.Own _ _ _ r.T (r.f.cm.take k).length r.e ((r.f.cm.take k).map tmV)
    rw [e2, List.map_take]; simpa using this
theorem form_of {w : World} {e : TypeId} {sz n c : Nat} {A : Option Addr} {xs : List Value} (h : Mem.Own w e sz A n c xs) : (A = none ∧ n = 0 ∧ c = 0) ∨ ∃ b o, A = some ⟨b, o, none⟩ := by
  rcases h.2 with h | ⟨b, o, _, h, _⟩
  · exact .inl h
  · exact .inr ⟨b, o, h⟩
theorem sliced_cut {A : Option Addr} {n c : Nat} (s k : Nat) (h : (A = none ∧ n = 0 ∧ c = 0) ∨ ∃ b o, A = some ⟨b, o, none⟩) : sliced A 0 k c s = .slice A k c := by
  rcases h with ⟨rfl, _, rfl⟩ | ⟨b, o, rfl⟩
  · unfold sliced; simp
  · unfold sliced; simp [Addr.add]
/-- the parts of a disk that a file's own struct keeps when it alone is turned -/
theorem DS.row {w w' : World} {g c time K : Nat} {A : Option Addr} {rs : List R} {r : R} (h : DS w g A c rs time) (hr : rs[K]? = some r) (hk : Mem.Keeps (fun q => q = r.h) w w') : w'.cell? ⟨g, 0, none⟩ = some (.slice A rs.length c) ∧ ∀ b o, A = some ⟨b, o, none⟩ → w'.cell? ⟨b, o + K, none⟩ = some (.pointer (some ⟨r.h, 0, none⟩)) := by
  have hne := h.S.f r (List.mem_of_getElem? hr) r.h (.inl rfl)
  refine ⟨(h.B.keeps hk (fun e => hne.1 e.symm)).cell (j := 0) rfl, fun b o hA => ?_⟩
  have := h.O.keeps hk (fun k hb e => hne.2 (by rw [← e]; exact hb))
  subst hA
  exact this.cell (by rw [List.getElem?_map, hr]; rfl)
end Df
open Df in
set_option maxHeartbeats 2000000 in
theorem dfTruncate_any {w : World} {g c time : Nat} {A : Option Addr} {rs : List Df.R} (h : Df.DS w g A c rs time) (n k : Int) :
    Calls Try.prog 33 #[.pointer (some ⟨g, 0, none⟩), .int .i64 n, .int .i64 k] w (Df.QEnd w g (Df.fpD g A rs) (Df.truQ ⟨rs.map (·.f), time⟩ n k) (.int .i64 (Df.truE (rs.map (·.f)) n k))) := by
  have hlm : rs.length ≤ maxLen := Nat.le_trans h.O.le h.O.cap
  unfold maxLen at hlm
  have HFD := Lib.hid (dfFind_any h n)
  have HD := Lib.hid h
  cases hf : atF n (rs.map (·.f)) with
  | none =>
    have hat := at_none hf
    have hs : truE (rs.map (·.f)) n k = 50 := by unfold truE; rw [hf]
    have HS := Lib.hid hs
    have HQ : Hid (truQ ⟨rs.map (·.f), time⟩ n k = ⟨rs.map (·.f), time⟩) := by show _ = _; unfold truQ; dsimp only; rw [hs]; rfl
    unfold fnd at HFD
    rw [hat] at HFD
    clear h hat hf hs
    go_enter Try.func33, Try.ntmps33
    go_wp2_with (go_at_call 46; (refine HFD.out.mono ?_); rintro x w1 ⟨rfl, m1, rfl⟩; clear HFD)
    go_ret
    exact ⟨by rw [HS.out]; rfl, ⟨_, by rw [HQ.out]; exact (HD.out.drewN m1).qat rfl, fun k hk => .inl hk⟩, ((Mem.Keeps.refl _ w).drewN m1)⟩
  | some f =>
    obtain ⟨hat, r, hr, rfl, hn⟩ := at_some hf
    unfold fnd at HFD
    rw [hat] at HFD
    by_cases hb : k < 0 ∨ (r.f.bs.length : Int) < k
    · have hs : truE (rs.map (·.f)) n k = 1 := by unfold truE; rw [hf]; dsimp only; rw [if_pos hb]
      have HS := Lib.hid hs
      have HQ : Hid (truQ ⟨rs.map (·.f), time⟩ n k = ⟨rs.map (·.f), time⟩) := by show _ = _; unfold truQ; dsimp only; rw [hs]; rfl
      obtain ⟨b, o, rfl, y0, _, y2, y3, hFA⟩ := h.at hr
      have x0 : w.cell? ⟨g, 0, none⟩ = some (.slice (some ⟨b, o, none⟩) rs.length c) := h.B.cell (j := 0) rfl
      have hkl := (List.getElem?_eq_some_iff.1 hr).1
      obtain ⟨K, hK⟩ : ∃ K, low n (rs.map (·.f)) = K := ⟨_, rfl⟩
      rw [hK] at y0 HFD hkl
      clear h hat hf hs hr hn hK hFA
      go_enter Try.func33, Try.ntmps33
      by_cases hb0 : k < 0
      · go_wp2_with (go_at_call 46; (refine HFD.out.mono ?_); rintro x w1 ⟨rfl, m1, rfl⟩; clear HFD)
        go_ret
        exact ⟨by rw [HS.out]; rfl, ⟨_, by rw [HQ.out]; exact (HD.out.drewN m1).qat rfl, fun k hk => .inl hk⟩, ((Mem.Keeps.refl _ w).drewN m1)⟩
      · have hb1 : (r.f.bs.length : Int) < k := hb.resolve_left hb0
        go_wp2_with (go_at_call 46; (refine HFD.out.mono ?_); rintro x w1 ⟨rfl, m1, rfl⟩; clear HFD)
        go_ret
        exact ⟨by rw [HS.out]; rfl, ⟨_, by rw [HQ.out]; exact (HD.out.drewN m1).qat rfl, fun k hk => .inl hk⟩, ((Mem.Keeps.refl _ w).drewN m1)⟩
    · have hs : truE (rs.map (·.f)) n k = 0 := by unfold truE; rw [hf]; dsimp only; rw [if_neg hb]
      obtain ⟨kk, rfl⟩ : ∃ kk : Nat, k = kk := ⟨k.toNat, by omega⟩
      have hkb : kk ≤ r.f.bs.length := by omega
      have hq : truQ ⟨rs.map (·.f), time⟩ n kk = ⟨(rs.map (·.f)).set (low n (rs.map (·.f))) { r.f with bs := r.f.bs.take kk, cm := r.f.cm.take kk }, time⟩ := by unfold truQ setQ; dsimp only; rw [hs, if_pos rfl, hf]; rfl
      obtain ⟨K, hK⟩ : ∃ K, low n (rs.map (·.f)) = K := ⟨_, rfl⟩
      rw [hK] at HFD hr hq
      have HR := Lib.hid hr
      have hkl := (List.getElem?_eq_some_iff.1 hr).1
      have HEND : Hid (∀ w1 : World, DS w1 g A c rs time → Mem.Keeps (fun _ => False) w w1 → ∀ w8, Mem.Bx w8 80 3 r.h [.int .i64 r.f.n, .slice r.A kk r.c, .slice r.T kk r.e] → Mem.Keeps (fun q => q = r.h) w1 w8 → QEnd w g (fpD g A rs) (truQ ⟨rs.map (·.f), time⟩ n kk) (.int .i64 (truE (rs.map (·.f)) n kk)) (.returned (.int .i64 0)) w8) := by
        intro w1 hD1 hk1 w8 hB8 hk8
        obtain ⟨pre, post, hrs, hpl⟩ := split_at hr
        have hf2 := (hD1.F r (List.mem_of_getElem? hr)).cut hkb hB8 hk8
        rw [hrs] at hD1
        obtain ⟨e1, e2, e3⟩ := hD1.file (r' := { r with f := { r.f with bs := r.f.bs.take kk, cm := r.f.cm.take kk } }) rfl hf2 (hk8.mono (fun q hq _ => .inl hq)) (fun q hq => .inl hq)
        have hqa := e1.qat (l := (rs.map (·.f)).set K { r.f with bs := r.f.bs.take kk, cm := r.f.cm.take kk }) (by rw [hrs, ← hpl]; simp)
        refine ⟨by rw [hs], ⟨_, by rw [hq]; exact hqa, fun q hq' => ?_⟩, ?_⟩
        · rcases e3 q hq' with h9 | h9
          · rw [hrs]; exact .inl h9
          · exact .inr (Nat.le_trans hk1.size h9)
        · rw [hrs]
          exact ((hk1.mono (T := fpD g A (pre ++ r :: post)) (fun _ h _ => h.elim)).trans e2 (fun _ h _ => h))
      have d1 : decide ((r.f.bs.length : Int) < (kk : Int)) = false := by simp; omega
      clear h hat hf hs hr hn hK hq hb
      go_enter Try.func33, Try.ntmps33
      go_upto_region 4 with (go_at_call 46; (refine HFD.out.mono ?_); rintro x w1 ⟨rfl, m1, hw1⟩; have HW1 := Lib.hid hw1; clear HFD hw1)
      have HD1 : Hid (DS w1 g A c rs time) := by show DS _ _ _ _ _ _; rw [HW1.out]; exact HD.out.drewN m1
      have HK1 : Hid (Mem.Keeps (fun _ => False) w w1) := by show Mem.Keeps _ _ _; rw [HW1.out]; exact (Mem.Keeps.refl _ w).drewN m1
      replace HEND := Lib.hid (HEND.out w1 HD1.out HK1.out)
      clear HW1 HD HK1
      obtain ⟨b, o, hA, y0, _, y2, y3, hFA⟩ := HD1.out.at HR.out
      subst hA
      have HFA := Lib.hid hFA
      have x0 : w1.cell? ⟨g, 0, none⟩ = some (.slice (some ⟨b, o, none⟩) rs.length c) := HD1.out.B.cell (j := 0) rfl
      have f1 := form_of hFA.O
      have f2 := form_of hFA.P
      have hcm := hFA.len
      clear hFA
      have s1 := fun s => sliced_cut s kk f1
      have s2 := fun s => sliced_cut s kk f2
      clear f1 f2
      have hc1 : kk ≤ r.c := by have := HFA.out.O.le; omega
      have hc2 : kk ≤ r.e := by have := HFA.out.P.le; have := HFA.out.len; omega
      go_upto_region 6 with fail
      refine Reg.still_tail 21 (by kernel_rfl) (by kernel_rfl) ?_
      intro w5 hw5
      simp only [List.take_succ_cons, List.take_zero, List.drop_succ_cons, List.drop_zero]
      have hB5 : Mem.Bx w5 80 3 r.h (fCells r) := by rw [hw5]; exact HFA.out.B.keeps ((Mem.Keeps.refl (fun _ => False) w1).drew) id
      have HK5 : Hid (Mem.Keeps (fun q => q = r.h) w1 w5) := by show Mem.Keeps _ _ _; rw [hw5]; exact (Mem.Keeps.refl _ w1).drew
      obtain ⟨x0', hy0'⟩ := HD1.out.row HR.out HK5.out
      have y0' := hy0' _ _ rfl
      have y2' : w5.cell? ⟨r.h, 1, none⟩ = some (.slice r.A r.f.bs.length r.c) := hB5.cell (j := 1) rfl
      have yf' : ∀ i, w5.frozen? ⟨r.h, i, none⟩ = false := hB5.fr
      have hrh : r.h < w5.heap.size := hB5.lt
      have HB6 := Lib.hid (hB5.set 1 (.slice r.A kk r.c))
      have HK6 := Lib.hid (HK5.out.setCell (p := ⟨r.h, 1, none⟩) (fun _ => rfl) (.slice r.A kk r.c))
      clear hw5 hB5 HK5 hy0' x0 y0 y2 y3
      repeat still_step
      refine wpStill_nil ?_
      go_upto_region 7 with fail
      obtain ⟨w6, hw6⟩ : ∃ w6, w5.setCell ⟨r.h, 1, none⟩ (.slice r.A kk r.c) = w6 := ⟨_, rfl⟩
      rw [hw6] at HB6 HK6
      try rw [hw6]
      clear hw6 x0' y0' y2' yf' hrh
      refine Reg.still_tail 21 (by kernel_rfl) (by kernel_rfl) ?_
      intro w7 hw7
      simp only [List.take_succ_cons, List.take_zero, List.drop_succ_cons, List.drop_zero]
      have hB7 : Mem.Bx w7 80 3 r.h [.int .i64 r.f.n, .slice r.A kk r.c, .slice r.T r.f.cm.length r.e] := by rw [hw7]; exact HB6.out.keeps ((Mem.Keeps.refl (fun _ => False) w6).drew) id
      have HK7 : Hid (Mem.Keeps (fun q => q = r.h) w1 w7) := by show Mem.Keeps _ _ _; rw [hw7]; exact HK6.out.drew
      obtain ⟨x0', hy0'⟩ := HD1.out.row HR.out HK7.out
      have y0' := hy0' _ _ rfl
      have y3' : w7.cell? ⟨r.h, 2, none⟩ = some (.slice r.T r.f.cm.length r.e) := hB7.cell (j := 2) rfl
      have yf' : ∀ i, w7.frozen? ⟨r.h, i, none⟩ = false := hB7.fr
      have hrh : r.h < w7.heap.size := hB7.lt
      have HB8 := Lib.hid (hB7.set 2 (.slice r.T kk r.e))
      have HK8 := Lib.hid (HK7.out.setCell (p := ⟨r.h, 2, none⟩) (fun _ => rfl) (.slice r.T kk r.e))
      clear hw7 hB7 HK7 hy0' HB6 HK6
      repeat still_step
      refine wpStill_nil ?_
      go_wp2
      go_ret
      exact HEND.out _ HB8.out HK8.out
end Go.Proofs.Ytfpfpdhfnleebaa
