/- The walk of Take's closure: a packet's piece, if it is the next. No conditions but that numbers fit and that what it writes lies apart. -/
import Derived.Test.YtjkonfanmpcipaaLink2
namespace Go.Proofs.Ytjkonfanmpcipaa
open Go.RowKit
set_option linter.unusedVariables false

namespace Link
/-- is it the next piece? -/
def next (e : E) (p : Pk) : Bool := p.has && p.seq == e.got + 1
def tookE (e : E) (p : Pk) : E := if next e p then ⟨e.life, e.sent, e.got + 1, e.opn⟩ else e
def tookO (e : E) (p : Pk) (outs : List ByteArray) : List ByteArray := if next e p then outs ++ [p.data] else outs
/-- a list of pieces of the call's own, its slice held in a variable in memory -/
structure OutBox (w : World) (bo : Nat) (O : Option Addr) (oc : Nat) (outs : List ByteArray) : Prop where
  box : Mem.Own w 29 1 (some ⟨bo, 0, none⟩) 1 1 [.slice O outs.length oc]
  row : Mem.Own w 9 1 O outs.length oc (outs.map strV)
  ne : Mem.blk O ≠ some bo
/-- an end and a list of pieces lie apart -/
structure Apart (g bo : Nat) (A O : Option Addr) : Prop where
  gb : g ≠ bo
  ao : Mem.blk A = none ∨ Mem.blk A ≠ Mem.blk O
  ab : Mem.blk A ≠ some bo
  og : Mem.blk O ≠ some g
def TookS (g bo : Nat) (O : Option Addr) (k : Nat) : Prop := k = g ∨ k = bo ∨ Mem.blk O = some k
def TookEnd (w : World) (g bo : Nat) (A : Option Addr) (c : Nat) (O : Option Addr) (e : E) (outs : List ByteArray) (p : Pk) (x : Ending) (w' : World) : Prop :=
  ∃ O' oc', x = .returned (.tuple #[]) ∧ At w' g A c (tookE e p) ∧ OutBox w' bo O' oc' (tookO e p outs) ∧ Mem.Keeps (TookS g bo O) w w' ∧ (Mem.blk O' = Mem.blk O ∨ Mem.From w.heap.size O')
end Link

set_option maxHeartbeats 2000000 in
theorem took_any {w : World} {g be bo : Nat} {e : Link.E} {A O : Option Addr} {c oc : Nat} {outs : List ByteArray} (h : Link.At w g A c e) (hb : w.cell? ⟨be, 0, none⟩ = some (.pointer (some ⟨g, 0, none⟩))) (ho : Link.OutBox w bo O oc outs) (ha : Link.Apart g bo A O) (p : Link.Pk)
    (hg0 : 0 ≤ e.got) (hg1 : e.got ≤ 4611686018427387904) (hn : outs.length ≤ 1000000) :
    Calls Try.prog 28 #[Link.P p, .pointer (some ⟨be, 0, none⟩), .pointer (some ⟨bo, 0, none⟩)] w (Link.TookEnd w g bo A c O e outs p) := by
  have HA := Lib.hid h
  have HO := Lib.hid ho
  have HP := Lib.hid ha
  have b2 := h.box.c2
  have bf := h.box.fr
  have hgl := h.box.lt
  have hbl := World.block_lt_of_cell? w _ hb
  simp only at hbl
  clear h ho ha
  cases hx : p.has
  · have hE := Lib.hid (show Link.tookE e p = e by unfold Link.tookE Link.next; rw [hx]; rfl)
    have hO := Lib.hid (show Link.tookO e p outs = outs by unfold Link.tookO Link.next; rw [hx]; rfl)
    go_enter Try.func28, Try.ntmps28
    go_wp2
    go_quiet (fail)
    go_wp2
    go_end0
    refine ⟨O, oc, rfl, ?_, ?_, ?_, .inl rfl⟩
    · rw [hE.out]; exact HA.out.keeps (((Mem.Keeps.refl (fun _ => False) w).alloc _).drewN _) (fun h => h) (fun _ _ h => h)
    · rw [hO.out]; exact ⟨HO.out.box.alloc _, HO.out.row.alloc _, HO.out.ne⟩
    · exact ((Mem.Keeps.refl _ w).alloc _).drewN _
  · cases hs : (p.seq == e.got + 1)
    · have hE := Lib.hid (show Link.tookE e p = e by unfold Link.tookE Link.next; rw [hx, hs]; rfl)
      have hO := Lib.hid (show Link.tookO e p outs = outs by unfold Link.tookO Link.next; rw [hx, hs]; rfl)
      go_enter Try.func28, Try.ntmps28
      go_wp2
      go_quiet (fail)
      go_wp2
      go_end0
      refine ⟨O, oc, rfl, ?_, ?_, ?_, .inl rfl⟩
      · rw [hE.out]; exact HA.out.keeps (((Mem.Keeps.refl (fun _ => False) w).alloc _).drewN _) (fun h => h) (fun _ _ h => h)
      · rw [hO.out]; exact ⟨HO.out.box.alloc _, HO.out.row.alloc _, HO.out.ne⟩
      · exact ((Mem.Keeps.refl _ w).alloc _).drewN _
    · have hE := Lib.hid (show Link.tookE e p = ⟨e.life, e.sent, e.got + 1, e.opn⟩ by unfold Link.tookE Link.next; rw [hx, hs]; rfl)
      have hO := Lib.hid (show Link.tookO e p outs = outs ++ [p.data] by unfold Link.tookO Link.next; rw [hx, hs]; rfl)
      have ob := Mem.Own.cell (j := 0) HO.out.box rfl
      have obf := HO.out.box.free
      have hol := HO.out.box.lt rfl
      go_enter Try.func28, Try.ntmps28
      go_wp2
      go_quiet (fail)
      have HO1 := fun (n : Nat) (o : Obj) => (HO.out.row.alloc o).keeps (((Mem.Keeps.refl (fun q => q = g) (w.alloc o)).drewN n).setCell (p := ⟨g, 2, none⟩) (fun _ => rfl) (.int .i64 (e.got + 1))) (fun q hq eq => HP.out.og (by rw [hq, eq]))
      have HO2 := Lib.hid HO1
      have HB1 := fun (n : Nat) (o : Obj) => (HO.out.box.alloc o).keeps (((Mem.Keeps.refl (fun q => q = g) (w.alloc o)).drewN n).setCell (p := ⟨g, 2, none⟩) (fun _ => rfl) (.int .i64 (e.got + 1))) (fun q hq eq => HP.out.gb (by cases hq; exact eq.symm))
      have HB2 := Lib.hid HB1
      have HC1 := fun (n : Nat) (o : Obj) => Link.Cell.s2 (w := (w.alloc o).drewN n) (show Link.Cell ((w.alloc o).drewN n) g e.life e.sent e.got A e.opn.length c from Mem.Own.alloc HA.out.box o) (e.got + 1)
      have HC2 := Lib.hid HC1
      clear HO1 HB1 HC1
      go_wp2_with (at_builtin; refine Mem.wpList_app _ rfl (.tmp 23) (.tmp 26) _ rfl strs_elem O outs.length oc _ rfl (w.heap.size + 1 + 1) (some ⟨w.heap.size + 1, 0, none⟩) 1 1 [Link.strV p.data] rfl ?_ ((HO2.out _ _).alloc _) (Mem.Rd.alloc_new _ _ _ _ (by simp [World.setCell])) rfl (by simp [Value.oneCell']) (by unfold maxLen; omega) (by omega); intro O2 oc2 w4 hown hg4 hat; have HW := Lib.hid hown; have HG := Lib.hid hg4; have HT := Lib.hid hat; have HB4 := Lib.hid (Mem.Own.kept (Mem.Own.alloc (HB2.out _ _) _) hg4 (.inr (fun eq => HO.out.ne eq.symm))); have f4 := Mem.Own.free HB4.out; have d4 := Mem.Own.cell (j := 0) HB4.out rfl; clear hown hg4 hat)
      go_end0
      have hA1 := fun (n : Nat) (o : Obj) => (HA.out.opn.alloc o).keeps (((Mem.Keeps.refl (fun q => q = g) (w.alloc o)).drewN n).setCell (p := ⟨g, 2, none⟩) (fun _ => rfl) (.int .i64 (e.got + 1))) (fun q hq eq => HA.out.ne (by rw [hq, eq]))
      have hC4 := Mem.Own.kept (Mem.Own.alloc (HC2.out _ _) _) HG.out (.inr (fun eq => HP.out.og eq.symm))
      have hA4 := Mem.Own.kept (Mem.Own.alloc (hA1 _ _) _) HG.out HP.out.ao
      have hK5 := (Mem.Keeps.refl (fun q => q = bo) w4).setCell (p := ⟨bo, 0, none⟩) (fun _ => rfl) (.slice O2 (outs.length + 1) oc2)
      have hO2 : O2 = O ∨ O2 = some ⟨w.heap.size + 1 + 1, 0, none⟩ := by have := HT.out; simpa [World.setCell] using this
      have hO2b : Mem.blk O2 ≠ some bo := by
        rcases hO2 with rfl | rfl
        · exact HO.out.ne
        · intro h
          have h' : w.heap.size + 1 + 1 = bo := by simpa [Mem.blk] using h
          omega
      have hln : (outs ++ [p.data]).length = outs.length + 1 := by simp
      refine ⟨O2, oc2, rfl, ?_, ?_, ?_, ?_⟩
      · rw [hE.out]
        exact ⟨Mem.Own.keeps hC4 hK5 (fun q hq eq => HP.out.gb (by cases hq; exact eq)), hA4.keeps hK5 (fun q hq eq => HP.out.ab (by rw [hq, eq])), HA.out.ne⟩
      · rw [hO.out]
        refine ⟨?_, ?_, hO2b⟩
        · rw [hln]; exact Mem.Own.set HB4.out 0 _
        · rw [hln]
          refine Mem.Own.keeps ?_ hK5 (fun q hq eq => hO2b (by rw [hq, eq]))
          have := HW.out
          simpa using this
      · exact (((((((Mem.Keeps.refl (Link.TookS g bo O) w).alloc _).drewN _).setCell (p := ⟨g, 2, none⟩) (fun _ => .inl rfl) _).alloc _).grown HG.out (fun q hq _ => .inr (.inr hq))).setCell (p := ⟨bo, 0, none⟩) (fun _ => .inr (.inl rfl)) _)
      · rcases hO2 with rfl | rfl
        · exact .inl rfl
        · exact .inr (Mem.From.some_ (by omega))
end Go.Proofs.Ytjkonfanmpcipaa
