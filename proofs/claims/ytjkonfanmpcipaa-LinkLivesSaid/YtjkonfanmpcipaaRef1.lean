/- The reference's end in memory; the walks of its Renew and Send. No conditions but that numbers fit. -/
import Derived.Test.YtjkonfanmpcipaaLink8
import Derived.Deep.RegionLaw
namespace Go.Proofs.Ytjkonfanmpcipaa
open Go.RowKit
set_option linter.unusedVariables false

namespace Link
def rCells (life : Int) (A : Option Addr) (n c ack : Nat) (got : Int) : List Value := [.int .i64 life, .slice A n c, .int .i64 (ack : Int), .int .i64 got]
/-- the reference's end in memory: all data, and how much is known to have come -/
structure R (w : World) (g : Nat) (A : Option Addr) (c : Nat) (e : E) (data : List ByteArray) (ack : Nat) : Prop where
  box : Mem.Own w 45 4 (some ⟨g, 0, none⟩) 1 1 (rCells e.life A data.length c ack e.got)
  row : Mem.Own w 9 1 A data.length c (data.map strV)
  ne : Mem.blk A ≠ some g
  sent : e.sent = data.length
  opn : e.opn = data.drop ack
  le : ack ≤ data.length
section
variable {w w' : World} {g c ack : Nat} {A : Option Addr} {e : E} {data : List ByteArray}
theorem R.c0 (h : R w g A c e data ack) : w.cell? ⟨g, 0, none⟩ = some (.int .i64 e.life) := Mem.Own.cell (j := 0) h.box rfl
theorem R.c1 (h : R w g A c e data ack) : w.cell? ⟨g, 1, none⟩ = some (.slice A data.length c) := Mem.Own.cell (j := 1) h.box rfl
theorem R.c2 (h : R w g A c e data ack) : w.cell? ⟨g, 2, none⟩ = some (.int .i64 (ack : Int)) := Mem.Own.cell (j := 2) h.box rfl
theorem R.c3 (h : R w g A c e data ack) : w.cell? ⟨g, 3, none⟩ = some (.int .i64 e.got) := Mem.Own.cell (j := 3) h.box rfl
theorem R.fr (h : R w g A c e data ack) (i : Nat) : w.frozen? ⟨g, i, none⟩ = false := Mem.Own.free h.box i
theorem R.lt (h : R w g A c e data ack) : g < w.heap.size := Mem.Own.lt h.box rfl
theorem R.keeps {S : Nat → Prop} (h : R w g A c e data ack) (hk : Mem.Keeps S w w') (h1 : ¬ S g) (h2 : ∀ k, Mem.blk A = some k → ¬ S k) : R w' g A c e data ack :=
  ⟨Mem.Own.keeps h.box hk (fun k hk => by cases hk; exact h1), h.row.keeps hk h2, h.ne, h.sent, h.opn, h.le⟩
theorem R.ol (h : R w g A c e data ack) : e.opn.length = data.length - ack := by rw [h.opn, List.length_drop]
end
/-- Renew's end, the reference's -/
def RRenewEnd (w : World) (g : Nat) (A : Option Addr) (e : E) (life : Int) (x : Ending) (w' : World) : Prop :=
  ∃ A' c' data' ack', x = .returned (.bool (decide (e.life < life))) ∧ R w' g A' c' (renew e life) data' ack' ∧ Mem.Keeps (fun k => k = g) w w' ∧ (A' = A ∨ A' = none)
def RSendEnd (w : World) (g : Nat) (A : Option Addr) (e : E) (new : List ByteArray) (x : Ending) (w' : World) : Prop :=
  ∃ A' c' data' ack', x = .returned (.tuple #[.int .i64 (sendK e new : Nat), .bool (decide (sendK e new = new.length))]) ∧
      R w' g A' c' (sendTo e new (sendK e new)) data' ack' ∧ Mem.Keeps (Bl g A) w w' ∧ (Mem.blk A' = Mem.blk A ∨ Mem.From w.heap.size A')
end Link
theorem refRenew_any {w : World} {g : Nat} {e : Link.E} {A : Option Addr} {c ack : Nat} {data : List ByteArray} (h : Link.R w g A c e data ack) (life : Int) :
    Calls Try.prog 25 #[.pointer (some ⟨g, 0, none⟩), .int .i64 life] w (Link.RRenewEnd w g A e life) := by
  have c0 := h.c0
  have c1 := h.c1
  have c2 := h.c2
  have c3 := h.c3
  have fr := h.fr
  have HB := Lib.hid h
  clear h
  by_cases hl : e.life < life
  · have hld : decide (life ≤ e.life) = false := by simp; omega
    have hr := Lib.hid (Link.renew_yes hl)
    have hd := Lib.hid (show decide (e.life < life) = true from decide_eq_true hl)
    clear hl
    go_enter Try.func25, Try.ntmps25
    go_wp2
    go_ret
    refine ⟨none, 0, [], 0, by rw [hd.out]; rfl, ?_, ?_, .inr rfl⟩
    · rw [hr.out]
      exact ⟨Mem.Own.set (Mem.Own.set (Mem.Own.set (Mem.Own.set HB.out.box 0 (.int .i64 life)) 1 (.slice none 0 0)) 2 (.int .i64 0)) 3 (.int .i64 0), Mem.Own.nil _ _ _, by simp [Mem.blk], rfl, rfl, by simp⟩
    · have k0 := Mem.Keeps.refl (fun k => k = g) w
      have k1 := k0.setCell (p := ⟨g, 0, none⟩) (fun _ => rfl) (.int .i64 life)
      have k2 := k1.setCell (p := ⟨g, 1, none⟩) (fun _ => rfl) (.slice none 0 0)
      have k3 := k2.setCell (p := ⟨g, 2, none⟩) (fun _ => rfl) (.int .i64 0)
      exact k3.setCell (p := ⟨g, 3, none⟩) (fun _ => rfl) (.int .i64 0)
  · have hld : decide (life ≤ e.life) = true := by simp; omega
    have hr := Lib.hid (Link.renew_no hl)
    have hd := Lib.hid (show decide (e.life < life) = false from decide_eq_false hl)
    clear hl
    go_enter Try.func25, Try.ntmps25
    go_wp2
    go_ret
    exact ⟨A, c, data, ack, by rw [hd.out]; rfl, by rw [hr.out]; exact HB.out, Mem.Keeps.refl _ _, .inl rfl⟩
namespace Link
def RSendRel (w : World) (g : Nat) (A : Option Addr) (e : E) (new : List ByteArray) (vi : Value) (wr : World) : Prop :=
  ∃ (k : Nat) (A' : Option Addr) (c' : Nat) (data' : List ByteArray) (ack' : Nat), k ≤ new.length ∧ (k = 0 ∨ e.opn.length + k ≤ 8) ∧ vi = .int .i64 k ∧ Hid (R wr g A' c' (sendTo e new k) data' ack') ∧ Hid (Mem.Keeps (Bl g A) w wr) ∧ Hid (Mem.blk A' = Mem.blk A ∨ Mem.From w.heap.size A')
end Link
set_option maxHeartbeats 4000000 in
theorem refSend_any {w : World} {g : Nat} {e : Link.E} {A : Option Addr} {c ack : Nat} {data : List ByteArray} (h : Link.R w g A c e data ack) (D : Option Addr) (dc : Nat) (new : List ByteArray) (hr : ∀ W, Mem.Keeps (Link.Bl g A) w W → Mem.Rd W W.heap.size D (new.map Link.strV)) (hn : new.length ≤ 1000000)
    (hs2 : e.sent ≤ 1000000) (ho : e.opn.length ≤ 8) :
    Calls Try.prog 22 #[.pointer (some ⟨g, 0, none⟩), .slice D new.length dc] w (Link.RSendEnd w g A e new) := by
  have HA := Lib.hid h
  have HR := Lib.hid hr
  have hsl := h.sent
  have HSL := Lib.hid hsl
  clear h hr hsl
  go_enter Try.func22, Try.ntmps22
  go_wp2
  go_loopw [6] (Link.RSendRel w g A e new) (fun t _ => new.length - (intOf t).toNat)
  case atStart => exact ⟨0, A, c, data, ack, by omega, .inl rfl, rfl, by show Link.R w g A c _ _ _; rw [Link.sendTo_zero]; exact HA.out, Mem.Keeps.refl _ _, .inl rfl⟩
  case round =>
    obtain ⟨k, A', c', data', ack', hk, hk8, rfl, HAt, HK, HM⟩ := hrel
    have b1 := HAt.out.c1
    have b2 := HAt.out.c2
    have bf := HAt.out.fr
    have hol : (Link.sendTo e new k).opn.length = e.opn.length + k := by simp [Link.sendTo]; omega
    have hdl : data'.length ≤ 2000000 := by have h := HAt.out.sent; have : (Link.sendTo e new k).sent = e.sent + k := rfl; omega
    have hoa : data'.length - ack' = e.opn.length + k := by rw [← hol, HAt.out.ol]
    have hal := HAt.out.le
    by_cases hlt : k < new.length
    · obtain ⟨b, o, rfl, hb, hc⟩ := (HR.out wr HK.out).at (k := k) (by simpa using hlt)
      simp only [List.getElem_map] at hc
      have hts := Lib.hid (Mem.take_snoc (List.getElem?_eq_getElem hlt))
      obtain ⟨x, hx⟩ : ∃ x, new[k] = x := ⟨_, rfl⟩
      rw [hx] at hc hts
      clear hx
      have w1' : IntKind.i64.wrap ((data'.length : Int) - (ack' : Int)) = (data'.length : Int) - (ack' : Int) := IntWalk.i64_in _ (by omega)
      by_cases h8 : 8 ≤ e.opn.length + k
      · have h8d : decide ((data'.length : Int) - (ack' : Int) < 8) = false := by simp; omega
        have hsk := Lib.hid (show Link.sendK e new = k by unfold Link.sendK; omega)
        have hne : ((k : Int) == (new.length : Int)) = false := by rw [beq_eq_false_iff_ne]; omega
        have hnd := Lib.hid (show decide (k = new.length) = false from decide_eq_false (by omega))
        clear hk8 h8
        go_wp2
        go_quiet (fail)
        go_wp2
        refine bodyPost_ret (v := .tuple #[.int .i64 k, .bool false]) ?_ rfl ⟨A', c', data', ack', by rw [hsk.out, hnd.out], by rw [hsk.out]; exact HAt.out.keeps ((Mem.Keeps.refl (fun _ => False) wr).drewN _) (fun h => h) (fun _ _ h => h), HK.out.drewN _, HM.out⟩
        simp [results, Try.results22, go_sem]
      · have h8d : decide ((data'.length : Int) - (ack' : Int) < 8) = true := by simp; omega
        go_wp2
        go_quiet (fail)
        go_wp2
        have hgl := HAt.out.lt
        have hz := HK.out.size
        have HNE := Lib.hid HAt.out.ne
        have HR1 := fun (n : Nat) (o : Obj) => HAt.out.row.keeps (((Mem.Keeps.refl (fun _ => False) wr).drewN n).alloc o) (fun _ _ h => h)
        have HB1 := fun (n : Nat) (o : Obj) => HAt.out.box.keeps (((Mem.Keeps.refl (fun _ => False) wr).drewN n).alloc o) (fun _ _ h => h)
        have HR2 := Lib.hid HR1
        have HB2 := Lib.hid HB1
        have hst := Lib.hid (show (Link.sendTo e new (k + 1)).opn = (e.opn ++ new.take k) ++ [x] ∧ (Link.sendTo e new (k + 1)).sent = (Link.sendTo e new k).sent + 1 by unfold Link.sendTo; rw [hts.out, List.append_assoc]; exact ⟨rfl, by simp; omega⟩)
        have bal : ∀ o, ((wr.drewN (nq + 1)).alloc o).cell? ⟨g, 1, none⟩ = some (.slice A' data'.length c') := fun o => (World.cell?_alloc_lt _ o _ hgl).trans b1
        have H8 : Hid (e.opn.length + (k + 1) ≤ 8) := by show _ ≤ _; omega
        clear HR1 HB1 hts hk8 h8
        go_region_law ((refine Mem.step_app _ rfl (.tmp 28) (.tmp 33) _ rfl strs_elem A' data'.length c' (data'.map Link.strV) rfl (wr.heap.size + 1) (some ⟨wr.heap.size, 0, none⟩) 1 1 [Link.strV x] rfl ?_ (HR2.out _ _) (Mem.Rd.alloc_new _ _ _ _ rfl) rfl (by simp [Value.oneCell']) (by unfold maxLen; omega) (by omega); intro A2 c2 w4 hown hg4 hat; have HC4 := Lib.hid (Mem.Own.kept (HB2.out _ _) hg4 (.inr (fun eq => HNE.out eq.symm))); have f4 := Mem.Own.free HC4.out; have d3 := Mem.Own.cell (j := 1) HC4.out rfl; have HW := Lib.hid hown; have HG := Lib.hid hg4; have HT := Lib.hid hat; clear hown hg4 hat))
        all_goals
          go_wp2
          go_roundw
          case rel =>
            have hA2 : A2 = A' ∨ A2 = some ⟨wr.heap.size + 1, 0, none⟩ := by have := HT.out; simpa using this
            have hA2g : Mem.blk A2 ≠ some g := by
              rcases hA2 with rfl | rfl
              · exact HNE.out
              · intro h
                have h' : wr.heap.size + 1 = g := by simpa [Mem.blk] using h
                omega
            have k5 := (Mem.Keeps.refl (fun q => q = g) w4).setCell (p := ⟨g, 1, none⟩) (fun _ => rfl) (.slice A2 (data'.length + 1) c2)
            refine ⟨k + 1, A2, c2, data' ++ [x], ack', by omega, .inr H8.out, by go_num, ⟨?_, ?_, hA2g, ?_, ?_, ?_⟩, ?_, ?_⟩
            · have := Mem.Own.set HC4.out 1 (.slice A2 (data'.length + 1) c2)
              rw [List.length_append]
              exact this
            · rw [List.length_append, List.map_append]
              exact HW.out.keeps k5 (fun q hq eq => hA2g (by rw [hq, eq]))
            · rw [hst.out.2, HAt.out.sent]; simp
            · have h1 : e.opn ++ new.take k = data'.drop ack' := HAt.out.opn
              rw [hst.out.1, h1, List.drop_append_of_le_length hal]
            · rw [List.length_append]; omega
            · have h4 := (((HK.out.drewN (nq + 1)).alloc _).grown HG.out (fun q hq hlt => by
                rcases HM.out with h | h
                · exact .inr (h.symm.trans hq)
                · have := h.blk q hq; omega))
              exact h4.setCell (p := ⟨g, 1, none⟩) (fun _ => .inl rfl) _
            · rcases hA2 with rfl | rfl
              · exact HM.out
              · exact .inr (Mem.From.some_ (by omega))
          case measure => simp [intOf]; omega
    · obtain rfl : k = new.length := by omega
      have hsk := Lib.hid (show Link.sendK e new = new.length by unfold Link.sendK; omega)
      clear hk8
      go_wp2
      go_quiet (fail)
      go_wp2
      refine bodyPost_ret (v := .tuple #[.int .i64 (new.length : Nat), .bool true]) ?_ rfl ⟨A', c', data', ack', by rw [hsk.out]; simp, by rw [hsk.out]; exact HAt.out.keeps ((Mem.Keeps.refl (fun _ => False) wr).drewN _) (fun h => h) (fun _ _ h => h), HK.out.drewN _, HM.out⟩
      simp [results, Try.results22, go_sem]
end Go.Proofs.Ytjkonfanmpcipaa
