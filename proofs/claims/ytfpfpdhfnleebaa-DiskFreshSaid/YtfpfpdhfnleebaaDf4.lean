/- The walks of the document's disk: New, Sync, Truncate. No conditions. -/
import Derived.Test.YtfpfpdhfnleebaaDf3
set_option maxRecDepth 8000
namespace Go.Proofs.Ytfpfpdhfnleebaa
open Go.ChangeShapes Go.WideShapes Go.ChangeAt Go.RowKit
set_option linter.unusedVariables false
set_option linter.unusedSimpArgs false
namespace Df
/-- a file is turned, if it is there -/
def setQ (n : Int) (G : Fl → Fl) (l : List Fl) : List Fl := match atF n l with
  | some f => l.set (low n l) (G f)
  | none => l
def syncQ (q : Q) (n : Int) : Q := ⟨setQ n (fun f => { f with cm := List.replicate f.cm.length 0 }) q.l, q.time⟩
def truE (l : List Fl) (n k : Int) : Int := match atF n l with
  | some f => if k < 0 ∨ (f.bs.length : Int) < k then 1 else 0
  | none => 50
def truQ (q : Q) (n k : Int) : Q := if truE q.l n k = 0 then ⟨setQ n (fun f => { f with bs := f.bs.take k.toNat, cm := f.cm.take k.toNat }) q.l, q.time⟩ else q
structure QEnd (w : World) (g : Nat) (F : Nat → Prop) (q' : Q) (v : Value) (x : Ending) (w' : World) : Prop where
  r : x = .returned v
  a : ∃ F', QAt w' g q' F' ∧ ∀ k, F' k → F k ∨ w.heap.size ≤ k
  k : Mem.Keeps F w w'
theorem DS.qat {w : World} {g c time : Nat} {A : Option Addr} {rs : List R} (h : DS w g A c rs time) {l : List Fl} (hf : rs.map (·.f) = l) : QAt w g ⟨l, time⟩ (fpD g A rs) := ⟨A, c, rs, h, hf, fun k => Iff.rfl⟩
theorem split_at {α : Type} {l : List α} {k : Nat} {x : α} (h : l[k]? = some x) : ∃ pre post, l = pre ++ x :: post ∧ pre.length = k := by
  obtain ⟨hk, he⟩ := List.getElem?_eq_some_iff.1 h
  exact ⟨l.take k, l.drop (k + 1), by rw [← he, List.getElem_cons_drop, List.take_append_drop], by rw [List.length_take]; omega⟩
theorem set_mid {α : Type} (pre post : List α) (x y : α) : (pre ++ x :: post).set pre.length y = pre ++ y :: post := by simp
/-- times are turned -/
theorem FAt.times {w w' : World} {r : R} {cm : List Nat} (h : FAt w r) (hl : cm.length = r.f.cm.length) (hP : Mem.Own w' 3 1 r.T r.f.cm.length r.e (cm.map tmV)) (hk : Mem.Keeps (fun q => Mem.blk r.T = some q) w w') :
    FAt w' { r with f := { r.f with cm := cm } } := by
  refine ⟨?_, h.O.keeps hk (fun k hb e => (h.ne k hb).2 e), ?_, h.ne, h.nt, by show cm.length = _; rw [hl, h.len]⟩
  · have := h.B.keeps hk (fun e => h.nt _ e rfl)
    show Mem.Bx _ _ _ _ [.int .i64 r.f.n, .slice r.A r.f.bs.length r.c, .slice r.T cm.length r.e]
    rw [hl]; exact this
  · show Mem.Own _ _ _ r.T cm.length r.e _
    rw [hl]; exact hP
structure SyncRel (w1 : World) (T : Option Addr) (e : Nat) (cm : List Nat) (v : Value) (wr : World) : Prop where
  out : ∃ k, k ≤ cm.length ∧ v = .int .i64 k ∧ Hid (Mem.Own wr 3 1 T cm.length e ((List.replicate k 0 ++ cm.drop k).map tmV)) ∧ Hid (Mem.Keeps (fun q => Mem.blk T = some q) w1 wr)
theorem rep_set (cm : List Nat) {k : Nat} (hk : k < cm.length) : (List.replicate k 0 ++ cm.drop k).set k 0 = List.replicate (k + 1) 0 ++ cm.drop (k + 1) := by
  rw [List.drop_eq_getElem_cons hk]
  have := set_mid (List.replicate k 0) (cm.drop (k + 1)) (cm[k]) 0
  rw [List.length_replicate] at this
  rw [this, List.replicate_succ', List.append_assoc]; rfl
end Df
theorem dfNew_any (w : World) :
    Calls Try.prog 22 #[] w fun x w' => ∃ g, x = .returned (.pointer (some ⟨g, 0, none⟩)) ∧ Df.DS w' g none 0 [] 0 ∧ Below w.heap.size w w' ∧ w.heap.size ≤ g := by
  have hB := Mem.Bx.new w 65 #[.slice none 0 0, .int .i64 0] rfl rfl
  have hDS : Df.DS (w.alloc (.cells #[.slice none 0 0, .int .i64 0] 65)) w.heap.size none 0 [] 0 :=
    ⟨hB, Mem.Own.nil _ _ _, (fun r hr => by cases hr), ⟨(fun k hk => by cases hk), (fun r hr => by cases hr), List.Pairwise.nil⟩⟩
  have HDS := Lib.hid hDS
  have HB : Hid (Below w.heap.size w (w.alloc (.cells #[.slice none 0 0, .int .i64 0] 65))) := (Below.refl _ w).alloc (Nat.le_refl _) _
  clear hDS hB
  go_enter Try.func22, Try.ntmps22
  go_wp2
  go_ret
  exact ⟨_, rfl, HDS.out, HB.out, Nat.le_refl _⟩
open Df in
set_option maxHeartbeats 2000000 in
theorem dfSync_any {w : World} {g c time : Nat} {A : Option Addr} {rs : List Df.R} (h : Df.DS w g A c rs time) (n : Int) :
    Calls Try.prog 32 #[.pointer (some ⟨g, 0, none⟩), .int .i64 n] w (Df.QEnd w g (Df.fpD g A rs) (Df.syncQ ⟨rs.map (·.f), time⟩ n) (.int .i64 (Df.erN n (rs.map (·.f))))) := by
  have hlm : rs.length ≤ maxLen := Nat.le_trans h.O.le h.O.cap
  unfold maxLen at hlm
  have HFD := Lib.hid (dfFind_any h n)
  cases hf : atF n (rs.map (·.f)) with
  | none =>
    have hat := at_none hf
    have HS : Hid (erN n (rs.map (·.f)) = 50) := by show _ = _; unfold erN; rw [hf]
    have HQ : Hid (syncQ ⟨rs.map (·.f), time⟩ n = ⟨rs.map (·.f), time⟩) := by show _ = _; unfold syncQ setQ; dsimp only; rw [hf]
    have HD := Lib.hid h
    unfold fnd at HFD
    rw [hat] at HFD
    clear h hat hf
    go_enter Try.func32, Try.ntmps32
    go_wp2_with (go_at_call 46; (refine HFD.out.mono ?_); rintro x w1 ⟨rfl, m1, rfl⟩; clear HFD)
    go_ret
    exact ⟨by rw [HS.out]; rfl, ⟨_, by rw [HQ.out]; exact (HD.out.drewN m1).qat rfl, fun k hk => .inl hk⟩, ((Mem.Keeps.refl _ w).drewN m1)⟩
  | some f =>
    obtain ⟨hat, r, hr, rfl, hn⟩ := at_some hf
    have HS : Hid (erN n (rs.map (·.f)) = 0) := by show _ = _; unfold erN; rw [hf]
    have hq : syncQ ⟨rs.map (·.f), time⟩ n = ⟨(rs.map (·.f)).set (low n (rs.map (·.f))) { r.f with cm := List.replicate r.f.cm.length 0 }, time⟩ := by unfold syncQ setQ; dsimp only; rw [hf]
    unfold fnd at HFD
    rw [hat] at HFD
    obtain ⟨K, hK⟩ : ∃ K, low n (rs.map (·.f)) = K := ⟨_, rfl⟩
    rw [hK] at hr HFD hq
    have HQ := Lib.hid hq
    have HR := Lib.hid hr
    have HD := Lib.hid h
    have hkl := (List.getElem?_eq_some_iff.1 hr).1
    have hcl : r.f.cm.length ≤ maxLen := Nat.le_trans (h.F r (List.mem_of_getElem? hr)).P.le (h.F r (List.mem_of_getElem? hr)).P.cap
    unfold maxLen at hcl
    clear h hat hf hn hr hK hq
    go_enter Try.func32, Try.ntmps32
    go_wp2_with (go_at_call 46; (refine HFD.out.mono ?_); rintro x w1 ⟨rfl, m1, hw1⟩; have HW1 := Lib.hid hw1; clear HFD hw1)
    have HD1 : Hid (DS w1 g A c rs time) := by show DS _ _ _ _ _ _; rw [HW1.out]; exact HD.out.drewN m1
    have HK1 : Hid (Mem.Keeps (fun _ => False) w w1) := by show Mem.Keeps _ _ _; rw [HW1.out]; exact (Mem.Keeps.refl _ w).drewN m1
    clear HW1 HD
    go_loopw [7] (SyncRel w1 r.T r.e r.f.cm) (fun t _ => r.f.cm.length - (intOf t).toNat)
    case atStart => exact ⟨⟨0, by omega, rfl, Lib.hid (by simpa using (HD1.out.F r (List.mem_of_getElem? HR.out)).P), Mem.Keeps.refl _ _⟩⟩
    case round =>
      obtain ⟨k, hk, rfl, HP, HK⟩ := hrel.out
      clear hrel
      have hFA := HD1.out.F r (List.mem_of_getElem? HR.out)
      have hS := HD1.out.S
      have hne := hS.f r (List.mem_of_getElem? HR.out)
      have hA := hS.a
      have x0 : wr.cell? ⟨g, 0, none⟩ = some (.slice A rs.length c) := (HD1.out.B.keeps HK.out (fun h => (hne g (.inr (.inr h))).1 rfl)).cell (j := 0) rfl
      obtain ⟨b, o, hAe⟩ := HD1.out.O.form (by omega)
      have hOw := HD1.out.O.keeps HK.out (fun k hb h => (hne k (.inr (.inr h))).2 hb)
      have hB := hFA.B.keeps HK.out (fun h => hFA.nt _ h rfl)
      have y2 : wr.cell? ⟨r.h, 2, none⟩ = some (.slice r.T r.f.cm.length r.e) := hB.cell (j := 2) rfl
      have hrh := hB.lt
      subst hAe
      have y0 : wr.cell? ⟨b, o + K, none⟩ = some (.pointer (some ⟨r.h, 0, none⟩)) := hOw.cell (by rw [List.getElem?_map, HR.out]; rfl)
      clear hFA hS hne hA hOw hB
      by_cases hlt : k < r.f.cm.length
      · obtain ⟨b2, o2, hT⟩ := HP.out.form (by omega)
        have hP := HP.out
        rw [hT] at hP y2
        have yt : wr.cell? ⟨b2, o2 + k, none⟩ = some (.int .i64 (r.f.cm[k] : Int)) := hP.cell (by rw [List.getElem?_map, List.getElem?_append_right (by simp), List.length_replicate, Nat.sub_self, List.getElem?_drop, Nat.add_zero, List.getElem?_eq_getElem hlt]; rfl)
        have yf : ∀ i, wr.frozen? ⟨b2, i, none⟩ = false := hP.free
        have hP2 := hP.set k (tmV 0)
        rw [← List.map_set, rep_set _ hlt] at hP2
        have HP2 := Lib.hid hP2
        have HK2 : Hid (Mem.Keeps (fun q => Mem.blk r.T = some q) w1 (wr.setCell ⟨b2, o2 + k, none⟩ (tmV 0))) := HK.out.setCell (p := ⟨b2, o2 + k, none⟩) (fun _ => by rw [hT]; rfl) _
        have HT := Lib.hid hT
        have d0 : decide ((k : Int) < (r.f.cm.length : Int)) = true := by simp; omega
        clear hP hP2 hT HP HK
        go_wp2
        go_roundw
        case rel => exact ⟨⟨k + 1, by omega, by go_num, Lib.hid (by rw [HT.out]; exact HP2.out), HK2⟩⟩
        case measure => simp [intOf]; omega
      · obtain rfl : k = r.f.cm.length := by omega
        have d0 : decide ((r.f.cm.length : Int) < (r.f.cm.length : Int)) = false := by simp
        go_wp2
        go_ret
        obtain ⟨pre, post, hrs, hpl⟩ := split_at HR.out
        have hP := HP.out
        rw [List.drop_length, List.append_nil] at hP
        have hf2 := (HD1.out.F r (List.mem_of_getElem? HR.out)).times (by simp) hP HK.out
        have hD1 := HD1.out
        rw [hrs] at hD1
        obtain ⟨e1, e2, e3⟩ := hD1.file (r' := { r with f := { r.f with cm := List.replicate r.f.cm.length 0 } }) rfl hf2 (HK.out.mono (fun q hq _ => .inr (.inr hq))) (fun q hq => .inl hq)
        have hqa := e1.qat (l := (rs.map (·.f)).set K { r.f with cm := List.replicate r.f.cm.length 0 }) (by rw [hrs, ← hpl]; simp)
        refine ⟨by rw [HS.out]; rfl, ⟨_, by rw [HQ.out]; exact hqa, fun q hq => ?_⟩, ?_⟩
        · rcases e3 q hq with h | h
          · rw [hrs]; exact .inl h
          · exact .inr (Nat.le_trans HK1.out.size h)
        · rw [hrs]
          exact ((HK1.out.mono (T := fpD g (some ⟨b, o, none⟩) (pre ++ r :: post)) (fun _ h _ => h.elim)).trans e2 (fun _ h _ => h))
end Go.Proofs.Ytfpfpdhfnleebaa
