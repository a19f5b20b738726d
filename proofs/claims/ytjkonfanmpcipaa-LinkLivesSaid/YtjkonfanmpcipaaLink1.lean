/- The walk of an end's Send. No conditions but that what is handed is read apart from the end. -/
import Derived.Test.YtjkonfanmpcipaaLink0
namespace Go.Proofs.Ytjkonfanmpcipaa
open Go.RowKit
set_option linter.unusedVariables false

theorem strs_elem : Mem.Elem Try.prog 29 9 1 16 := Mem.elem_of Try.underlying29 (z := .string ByteArray.empty) (by kernel_rfl) rfl (by omega)
namespace Link
/-- the blocks of an end -/
def Bl (g : Nat) (A : Option Addr) (k : Nat) : Prop := k = g ∨ Mem.blk A = some k
/-- behind the first k pieces -/
def sendTo (e : E) (data : List ByteArray) (k : Nat) : E := ⟨e.life, e.sent + k, e.got, e.opn ++ data.take k⟩
def sendK (e : E) (data : List ByteArray) : Nat := min data.length (8 - e.opn.length)
theorem sendTo_zero (e : E) (data : List ByteArray) : sendTo e data 0 = e := by cases e; simp [sendTo]
def SendRel (w : World) (g : Nat) (A : Option Addr) (e : E) (data : List ByteArray) (vi : Value) (wr : World) : Prop :=
  ∃ (k : Nat) (A' : Option Addr) (c' : Nat), k ≤ data.length ∧ (k = 0 ∨ e.opn.length + k ≤ 8) ∧ vi = .int .i64 k ∧ Hid (At wr g A' c' (sendTo e data k)) ∧ Hid (Mem.Keeps (Bl g A) w wr) ∧ Hid (Mem.blk A' = Mem.blk A ∨ Mem.From w.heap.size A')
/-- Send's end -/
def SendEnd (w : World) (g : Nat) (A : Option Addr) (e : E) (data : List ByteArray) (x : Ending) (w' : World) : Prop :=
  ∃ A' c', x = .returned (.tuple #[.int .i64 (sendK e data : Nat), .int .i64 (if sendK e data = data.length then 0 else 2)]) ∧
      At w' g A' c' (sendTo e data (sendK e data)) ∧ Mem.Keeps (Bl g A) w w' ∧ (Mem.blk A' = Mem.blk A ∨ Mem.From w.heap.size A')
end Link

set_option maxHeartbeats 2000000 in
theorem send_any {w : World} {g : Nat} {e : Link.E} {A : Option Addr} {c : Nat} (h : Link.At w g A c e) (D : Option Addr) (dc : Nat) (data : List ByteArray) (hr : ∀ W, Mem.Keeps (Link.Bl g A) w W → Mem.Rd W W.heap.size D (data.map Link.strV)) (hn : data.length ≤ maxLen)
    (hs : 0 ≤ e.sent) (hs2 : e.sent ≤ 4611686018427387904) (ho : e.opn.length ≤ 4611686018427387904) :
    Calls Try.prog 21 #[.pointer (some ⟨g, 0, none⟩), .slice D data.length dc] w (Link.SendEnd w g A e data) := by
  unfold maxLen at hn
  have HA := Lib.hid h
  have HR := Lib.hid hr
  clear h hr
  go_enter Try.func21, Try.ntmps21
  go_wp2
  go_loopw [10] (Link.SendRel w g A e data) (fun t _ => data.length - (intOf t).toNat)
  case atStart => exact ⟨0, A, c, by omega, .inl rfl, rfl, by show Link.At w g A c _; rw [Link.sendTo_zero]; exact HA.out, Mem.Keeps.refl _ _, .inl rfl⟩
  case round =>
    obtain ⟨k, A', c', hk, hk8, rfl, HAt, HK, HM⟩ := hrel
    have b1 := HAt.out.box.c1
    have b3 := HAt.out.box.c3
    have bf := HAt.out.box.fr
    have hol : (Link.sendTo e data k).opn.length = e.opn.length + k := by simp [Link.sendTo]; omega
    have hsn : (Link.sendTo e data k).sent = e.sent + k := rfl
    rw [hol] at b3
    rw [hsn] at b1
    by_cases hlt : k < data.length
    · obtain ⟨b, o, hD, hb, hc⟩ := (HR.out wr HK.out).at (k := k) (by simpa using hlt)
      obtain rfl := hD
      simp only [List.getElem_map] at hc
      have hts := Lib.hid (Mem.take_snoc (List.getElem?_eq_getElem hlt))
      obtain ⟨x, hx⟩ : ∃ x, data[k] = x := ⟨_, rfl⟩
      rw [hx] at hc hts
      clear hx
      by_cases h8 : 8 ≤ e.opn.length + k
      · have h8d : decide ((8 : Int) ≤ (e.opn.length : Int) + (k : Int)) = true := by simp; omega
        have hsk := Lib.hid (show Link.sendK e data = k by unfold Link.sendK; omega)
        have hne := Lib.hid (show ¬ k = data.length by omega)
        clear hk8 h8
        go_wp2
        refine bodyPost_ret (v := .tuple #[.int .i64 k, .int .i64 2]) ?_ rfl ⟨A', c', by rw [hsk.out, if_neg hne.out], by rw [hsk.out]; exact HAt.out, HK.out, HM.out⟩
        simp [results, Try.results21, go_sem]
      · have h8d : decide ((8 : Int) ≤ (e.opn.length : Int) + (k : Int)) = false := by simp; omega
        have hO1 := HAt.out.opn.keeps ((Mem.Keeps.refl (fun q => q = g) wr).setCell (p := ⟨g, 1, none⟩) (fun _ => rfl) (.int .i64 (e.sent + k + 1))) (fun q hq eq => HAt.out.ne (by rw [hq, eq]))
        rw [hol] at hO1
        have HO1 := Lib.hid hO1
        have HC1 := Lib.hid (HAt.out.box.s1 (e.sent + k + 1))
        have hgl := HAt.out.box.lt
        have hz := HK.out.size
        have HNE := Lib.hid HAt.out.ne
        have hst := Lib.hid (show Link.sendTo e data (k + 1) = ⟨e.life, e.sent + k + 1, e.got, e.opn ++ data.take k ++ [x]⟩ by unfold Link.sendTo; rw [hts.out, List.append_assoc]; congr 1; simp; omega)
        clear hO1 hts hk8
        go_wp2_with (at_builtin; refine Mem.wpList_app _ rfl (.tmp 33) (.tmp 35) _ rfl strs_elem A' (e.opn.length + k) c' _ rfl (wr.heap.size + 1) (some ⟨wr.heap.size, 0, none⟩) 1 1 [Link.strV x] rfl ?_ (HO1.out.alloc _) (Mem.Rd.alloc_new _ _ _ _ (by simp)) rfl (by simp [Value.oneCell']) (by unfold maxLen; omega) (by omega); intro A2 c2 w4 hown hg4 hat; have HC4 := Lib.hid (Mem.Own.kept (Mem.Own.alloc HC1.out (.cells #[Link.strV x] 9)) hg4 (.inr (fun eq => HNE.out eq.symm))); have f4 := Mem.Own.free HC4.out; have d3 := Link.Cell.c3 HC4.out; have HW := Lib.hid hown; have HG := Lib.hid hg4; have HT := Lib.hid hat; clear hown hg4 hat)
        have hA2 := Lib.hid (show A2 = A' ∨ A2 = some ⟨wr.heap.size + 1, 0, none⟩ from by have := HT.out; simpa using this)
        go_roundw
        case rel =>
          have hK4 := ((HK.out.setCell (p := ⟨g, 1, none⟩) (fun _ => .inl rfl) (.int .i64 (e.sent + k + 1))).alloc (.cells #[Link.strV x] 9)).grown HG.out (fun q hq hlt => by
            rcases HM.out with h | h
            · exact .inr (h.symm.trans hq)
            · have := h.blk q hq; omega)
          refine ⟨k + 1, A2, c2, by omega, .inr (by omega), by go_num, ?_, hK4.setCell (p := ⟨g, 3, none⟩) (fun _ => .inl rfl) _, ?_⟩
          · show Link.At _ g A2 c2 _
            rw [hst.out]
            have hln : (e.opn ++ data.take k ++ [x]).length = e.opn.length + k + 1 := by simp; omega
            refine ⟨?_, ?_, ?_⟩
            · rw [hln]; exact Link.Cell.s3 HC4.out A2 _ c2
            · rw [hln]
              refine Mem.Own.keeps ?_ ((Mem.Keeps.refl (fun q => q = g) w4).setCell (p := ⟨g, 3, none⟩) (fun _ => rfl) _) (fun q hq eq => ?_)
              · have := HW.out
                simpa [Link.sendTo] using this
              · rcases hA2.out with rfl | rfl
                · exact HNE.out (by rw [hq, eq])
                · have hq' : wr.heap.size + 1 = q := by simpa [Mem.blk] using hq
                  have eq' : q = g := eq
                  omega
            · rcases hA2.out with rfl | rfl
              · exact HNE.out
              · intro h
                have h' : wr.heap.size + 1 = g := by simpa [Mem.blk] using h
                omega
          · rcases hA2.out with rfl | rfl
            · exact HM.out
            · exact .inr (Mem.From.some_ (by omega))
        case measure => simp [intOf]; omega
    · obtain rfl : k = data.length := by omega
      have hsk := Lib.hid (show Link.sendK e data = data.length by unfold Link.sendK; omega)
      clear hk8
      go_wp2
      refine bodyPost_ret (v := .tuple #[.int .i64 (data.length : Nat), .int .i64 0]) ?_ rfl ⟨A', c', by rw [hsk.out, if_pos rfl], by rw [hsk.out]; exact HAt.out, HK.out, HM.out⟩
      simp [results, Try.results21, go_sem]
end Go.Proofs.Ytjkonfanmpcipaa
