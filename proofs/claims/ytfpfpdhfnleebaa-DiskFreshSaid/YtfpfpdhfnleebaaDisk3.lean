/- The walks of a disk's forget, Sync, Remove. Pieces that are few. -/
import Derived.Test.YtfpfpdhfnleebaaPc0
set_option maxRecDepth 8000
namespace Go.Proofs.Ytfpfpdhfnleebaa
open Go.ChangeShapes Go.WideShapes Go.ChangeAt Go.RowKit
set_option linter.unusedVariables false
set_option linter.unusedSimpArgs false
namespace Dk
def forgetL (n : Int) (lo : List (Int × Nat)) : List (Int × Nat) := Pc.keptL (fun e => e.1 == n) lo
def updF (n : Int) (F : Fl → Fl) (fs : List Fl) : List Fl := fs.map fun f => if f.n = n then F f else f
def findF (fs : List Fl) (n : Int) : Option Fl := fs.find? fun f => f.n == n
/-- what a method leaves -/
structure DEnd (w : World) (g : Nat) (F : Nat → Prop) (d' : D) (v : Value) (x : Ending) (w' : World) : Prop where
  r : x = .returned v
  a : ∃ F', DAt w' g d' F' ∧ ∀ k, F' k → F k ∨ w.heap.size ≤ k
  k : Mem.Keeps F w w'
def syncD (d : D) (n : Int) : D := match findF d.fs n with
  | none => d
  | some _ => ⟨updF n (fun f => { f with syn := f.bs.length }) d.fs, forgetL n d.lo⟩
def removeD (d : D) (n : Int) : D := match findF d.fs n with
  | none => d
  | some _ => ⟨d.fs.filter (fun f => decide (f.n ≠ n)), forgetL n d.lo⟩
def there (d : D) (n : Int) : Int := match findF d.fs n with
  | none => 50
  | some _ => 0
theorem find_fs (rs : List FR) (n : Int) : findF (rs.map (·.f)) n = (findR rs n).map (·.f) := by
  unfold findF findR
  rw [List.find?_map]; rfl
theorem upd_split {pre post : List FR} {r r' : FR} {n : Int} {F : Fl → Fl} (hn : r.f.n = n) (hd : ((pre ++ r :: post).map (·.f.n)).Nodup) (hr : r'.f = F r.f) :
    (pre ++ r' :: post).map (·.f) = updF n F ((pre ++ r :: post).map (·.f)) := by
  have hno : ∀ q ∈ pre ++ post, q.f.n ≠ n := by
    intro q hq e
    rw [List.map_append, List.map_cons, List.nodup_append] at hd
    obtain ⟨h1, h2, h3⟩ := hd
    rcases List.mem_append.1 hq with hq | hq
    · exact h3 _ (List.mem_map.2 ⟨q, hq, rfl⟩) _ List.mem_cons_self (by rw [e, hn])
    · rw [List.nodup_cons] at h2
      exact h2.1 (List.mem_map.2 ⟨q, hq, by rw [e, hn]⟩)
  unfold updF
  rw [List.map_map, List.map_append, List.map_append, List.map_cons, List.map_cons]
  congr 1
  · refine List.map_congr_left fun q hq => ?_
    show q.f = _
    simp only [Function.comp]
    rw [if_neg (hno q (List.mem_append_left _ hq))]
  · congr 1
    · show r'.f = _
      simp only [Function.comp]
      rw [if_pos hn, hr]
    · refine List.map_congr_left fun q hq => ?_
      show q.f = _
      simp only [Function.comp]
      rw [if_neg (hno q (List.mem_append_right _ hq))]
theorem filter_fs (rs : List FR) (n : Int) : (rs.filter (fun r => decide (r.f.n ≠ n))).map (·.f) = (rs.map (·.f)).filter (fun f => decide (f.n ≠ n)) := by
  rw [List.filter_map]; rfl
theorem del_ent (rs : List FR) (n : Int) : Mem.delL (rs.map ent) n = (rs.filter (fun r => decide (r.f.n ≠ n))).map ent := by
  unfold Mem.delL
  rw [List.filter_map]; rfl
theorem DS.at {w : World} {g b c : Nat} {A : Option Addr} {rs : List FR} {lo : List (Int × Nat)} (h : DS w g b A c rs lo) {fs : List Fl} (hf : rs.map (·.f) = fs) : DAt w g ⟨fs, lo⟩ (fpD g b A rs) := ⟨b, A, c, rs, h, hf, fun k => Iff.rfl⟩
end Dk
open Dk in
theorem same_tells (S : Nat → Prop) (w : World) (gb : Nat) (n : Int) (hc : w.cell? ⟨gb, 0, none⟩ = some (.int .i64 n)) (hlt : gb < w.heap.size) (hS : ¬ S gb) :
    Pc.Tells 45 #[.pointer (some ⟨gb, 0, none⟩)] (fun e => e.1 == n) S w := by
  intro W e hk
  have hcW : W.cell? ⟨gb, 0, none⟩ = some (.int .i64 n) := (hk.cell (p := ⟨gb, 0, none⟩) hlt hS).trans hc
  show Calls _ _ #[.agg #[.int .i64 e.1, .int .i64 e.2], .pointer (some ⟨gb, 0, none⟩)] W _
  have hlW : gb < W.heap.size := Nat.lt_of_lt_of_le hlt hk.size
  clear hk hc hS
  have HB : Hid (Below W.heap.size W (W.alloc (.cells #[.int .i64 e.1, .int .i64 e.2] 59))) := (Below.refl _ W).alloc (Nat.le_refl _) _
  go_enter Try.func45, Try.ntmps45
  go_wp2
  go_ret
  exact ⟨rfl, HB.out⟩
open Dk in
set_option maxHeartbeats 1000000 in
theorem forget_any {w : World} {g b c : Nat} {A : Option Addr} {rs : List Dk.FR} {lo : List (Int × Nat)} (h : Dk.DS w g b A c rs lo) (n : Int) (hn : lo.length ≤ 100000) :
    Calls Try.prog 30 #[.pointer (some ⟨g, 0, none⟩), .int .i64 n] w fun x w' => x = .returned (.tuple #[]) ∧ Dk.DS w' g b A c rs (Dk.forgetL n lo) ∧ Mem.Keeps (Dk.fpD g b A rs) w w' := by
  have HD := Lib.hid h
  clear h
  have hmf : ∀ (fn : Fn) (first cap : Array Value) (w : World), (Instr.makeFunc fn first cap).run Try.prog w = .ok (.func fn first cap) w := fun _ _ _ _ => rfl
  go_enter Try.func30, Try.ntmps30
  go_upto_region 1 with fail
  obtain ⟨w1, hw1⟩ : ∃ w1, w.alloc (.cells #[.int .i64 n] 3) = w1 := ⟨_, rfl⟩
  have hb1 : Below w.heap.size w w1 := by rw [← hw1]; exact (Below.refl _ w).alloc (Nat.le_refl _) _
  have hs1 : w1.heap.size = w.heap.size + 1 := by rw [← hw1]; exact Array.size_push _
  have hc1 : w1.cell? ⟨w.heap.size, 0, none⟩ = some (.int .i64 n) := by rw [← hw1]; exact (Mem.Bx.new w 3 #[.int .i64 n] rfl rfl).cell (j := 0) rfl
  have hD1 := HD.out.below hb1
  have hlt : ∀ k, Mem.blk A = some k → k < w.heap.size := fun k hk => HD.out.O.lt hk
  have HDF := Lib.hid (Pc.deleteFunc_any 45 #[.pointer (some ⟨w.heap.size, 0, none⟩)] _ (enters_of Try.func45 (by kernel_rfl) rfl) A c lo w1 (same_tells (fun k => Mem.blk A = some k) w1 w.heap.size n hc1 (by omega) (fun h => by have := hlt _ h; omega)) hD1.O hn)
  have x1 : w1.cell? ⟨g, 1, none⟩ = some (.slice A lo.length c) := hD1.B.cell (j := 1) rfl
  have hne : ∀ k, Mem.blk A = some k → k ≠ g := fun k hk => (hD1.S.a k hk).1
  have HD1 := Lib.hid hD1
  have HB1 := Lib.hid hb1
  rw [hw1]
  clear hw1 hb1 hs1 hc1 hD1 hlt
  go_wp2_with (go_at_call 44; refine HDF.out.mono ?_; rintro x w2 ⟨rfl, hO2, hK2⟩; have hB2 := HD1.out.B.keeps hK2 (fun h => hne g h rfl); have y1 := hB2.cell (j := 1) rfl; have yf := hB2.fr)
  first | go_end0 | ((try simp only [Exit.inBlock, Exit.then]); refine bodyPost_ret (results_none rfl _ _ _) rfl ?_)
  have hk3 : Mem.Keeps (fun k => k = g) w2 (w2.setCell ⟨g, 1, none⟩ (.slice A (forgetL n lo).length c)) := (Mem.Keeps.refl (fun k => k = g) w2).setCell (p := ⟨g, 1, none⟩) (fun _ => rfl) _
  have hO3 := hO2.keeps hk3 (fun k hk => hne k hk)
  have hB3 := hB2.set 1 (.slice A (forgetL n lo).length c)
  have hk : Mem.Keeps (fun k => k = g ∨ Mem.blk A = some k) w (w2.setCell ⟨g, 1, none⟩ (.slice A (forgetL n lo).length c)) :=
    (((Mem.Keeps.of_below HB1.out).mono (T := fun k => k = g ∨ Mem.blk A = some k) (fun _ h _ => h.elim)).trans hK2 (fun k h _ => .inr h)).trans hk3 (fun k h _ => .inl h)
  obtain ⟨r1, r2, _⟩ := HD.out.loose hB3 hO3 hk (fun k h => .inl h)
  exact ⟨rfl, r1, r2⟩
open Dk in
set_option maxHeartbeats 1000000 in
theorem sync_any {w : World} {g b c : Nat} {A : Option Addr} {rs : List Dk.FR} {lo : List (Int × Nat)} (h : Dk.DS w g b A c rs lo) {n : Int} (hn : Dk.okI n) (hl : lo.length ≤ 100000) :
    Calls Try.prog 21 #[.pointer (some ⟨g, 0, none⟩), .int .i64 n] w (Dk.DEnd w g (Dk.fpD g b A rs) (Dk.syncD ⟨rs.map (·.f), lo⟩ n) (.int .i64 (Dk.there ⟨rs.map (·.f), lo⟩ n))) := by
  have x0 : w.cell? ⟨g, 0, none⟩ = some (.map (some b)) := h.B.cell (j := 0) rfl
  have hlk := look_at h hn
  have HD := Lib.hid h
  have hnd := h.nodup
  clear h
  cases hf : findR rs n with
  | none =>
    have hs : Hid (syncD ⟨rs.map (·.f), lo⟩ n = ⟨rs.map (·.f), lo⟩ ∧ there ⟨rs.map (·.f), lo⟩ n = 50) := by unfold syncD there; rw [find_fs, hf]; exact ⟨rfl, rfl⟩
    rw [hf] at hlk
    clear hf
    unfold ptrV at hlk
    go_enter Try.func21, Try.ntmps21
    go_wp2
    go_ret
    rw [hs.out.1, hs.out.2]
    exact ⟨rfl, ⟨_, HD.out.at rfl, fun k hk => .inl hk⟩, Mem.Keeps.refl _ _⟩
  | some r =>
    have hs : Hid (syncD ⟨rs.map (·.f), lo⟩ n = ⟨updF n (fun f => { f with syn := f.bs.length }) (rs.map (·.f)), forgetL n lo⟩ ∧ there ⟨rs.map (·.f), lo⟩ n = 0) := by unfold syncD there; rw [find_fs, hf]; exact ⟨rfl, rfl⟩
    obtain ⟨pre, post, rfl, hrn, _⟩ := find_split hf
    have hF := HD.out.F r (by simp)
    have y0 : w.cell? ⟨r.h, 0, none⟩ = some (.slice r.A r.f.bs.length r.c) := hF.B.cell (j := 0) rfl
    have y1 : w.cell? ⟨r.h, 1, none⟩ = some (.int .i64 r.f.syn) := hF.B.cell (j := 1) rfl
    have yf := hF.B.fr
    have HU := Lib.hid (upd_split (r' := { r with f := { r.f with syn := r.f.bs.length } }) (F := fun f => { f with syn := f.bs.length }) hrn hnd rfl)
    rw [hf] at hlk
    clear hf hnd
    unfold ptrV at hlk
    have hk2 : Mem.Keeps r.fp w (w.setCell ⟨r.h, 1, none⟩ (.int .i64 r.f.bs.length)) := (Mem.Keeps.refl r.fp w).setCell (p := ⟨r.h, 1, none⟩) (fun _ => .inl rfl) _
    have hf2 : FAt (w.setCell ⟨r.h, 1, none⟩ (.int .i64 r.f.bs.length)) { r with f := { r.f with syn := r.f.bs.length } } :=
      ⟨hF.B.set 1 _, hF.O.keeps ((Mem.Keeps.refl (fun k => k = r.h) w).setCell (p := ⟨r.h, 1, none⟩) (fun _ => rfl) _) (fun k hb => hF.ne k hb), hF.ne, Nat.le_refl _⟩
    obtain ⟨r1, r2, r3⟩ := HD.out.file (r' := { r with f := { r.f with syn := r.f.bs.length } }) rfl rfl hf2 hk2 (fun k hk => .inl hk)
    have HX := Lib.hid (forget_any r1 n hl)
    have R2 := Lib.hid r2
    have R3 := Lib.hid r3
    obtain ⟨f, fh, fA, fc⟩ := r
    clear hF hk2 hf2 r1 r2 r3
    dsimp only at y0 y1 yf HX R2 R3 hlk HU
    go_enter Try.func21, Try.ntmps21
    go_wp2_with (go_at_call 30; refine HX.out.mono ?_; rintro x9 w9 ⟨rfl, h2, h3⟩; have HE := Lib.hid h2; have HK := Lib.hid h3; clear h2 h3 HX)
    go_ret
    rw [hs.out.1, hs.out.2]
    refine ⟨rfl, ⟨_, HE.out.at HU.out, fun k hk => R3.out k hk⟩, ?_⟩
    exact R2.out.trans HK.out (fun k hk hlt => by
      rcases R3.out k hk with h9 | h9
      · exact h9
      · omega)
open Dk in
set_option maxHeartbeats 1000000 in
theorem remove_any {w : World} {g b c : Nat} {A : Option Addr} {rs : List Dk.FR} {lo : List (Int × Nat)} (h : Dk.DS w g b A c rs lo) {n : Int} (hn : Dk.okI n) (hl : lo.length ≤ 100000) :
    Calls Try.prog 26 #[.pointer (some ⟨g, 0, none⟩), .int .i64 n] w (Dk.DEnd w g (Dk.fpD g b A rs) (Dk.removeD ⟨rs.map (·.f), lo⟩ n) (.int .i64 (Dk.there ⟨rs.map (·.f), lo⟩ n))) := by
  have x0 : w.cell? ⟨g, 0, none⟩ = some (.map (some b)) := h.B.cell (j := 0) rfl
  have hlk := look_at h hn
  have HD := Lib.hid h
  clear h
  have HN := Lib.hid hn
  cases hf : findR rs n with
  | none =>
    have hs : Hid (removeD ⟨rs.map (·.f), lo⟩ n = ⟨rs.map (·.f), lo⟩ ∧ there ⟨rs.map (·.f), lo⟩ n = 50) := by unfold removeD there; rw [find_fs, hf]; exact ⟨rfl, rfl⟩
    rw [hf] at hlk
    clear hf
    unfold ptrV at hlk
    go_enter Try.func26, Try.ntmps26
    go_wp2
    go_ret
    rw [hs.out.1, hs.out.2]
    exact ⟨rfl, ⟨_, HD.out.at rfl, fun k hk => .inl hk⟩, Mem.Keeps.refl _ _⟩
  | some r =>
    have hs : Hid (removeD ⟨rs.map (·.f), lo⟩ n = ⟨(rs.map (·.f)).filter (fun f => decide (f.n ≠ n)), forgetL n lo⟩ ∧ there ⟨rs.map (·.f), lo⟩ n = 0) := by unfold removeD there; rw [find_fs, hf]; exact ⟨rfl, rfl⟩
    rw [hf] at hlk
    clear hf hn
    unfold ptrV at hlk
    go_enter Try.func26, Try.ntmps26
    go_upto_region 4 with (refine Mem.wpList_mapDel intKey Try.underlying51 b (rs.map ent) n rfl rfl HD.out.M HN.out ?_; intro w2 hM2 hk2 hs2; rw [del_ent] at hM2; have hd2 := HD.out.drop hM2 hk2; have HD2 := Lib.hid hd2; clear hM2 hk2 hs2 hd2)
    have HX := Lib.hid (forget_any HD2.out.1 n hl)
    go_wp2_with (go_at_call 30; refine HX.out.mono ?_; rintro x9 w9 ⟨rfl, h2, h3⟩; have HE := Lib.hid h2; have HK := Lib.hid h3; clear h2 h3 HX)
    go_ret
    rw [hs.out.1, hs.out.2]
    refine ⟨rfl, ⟨_, HE.out.at (filter_fs rs n), fun k hk => HD2.out.2.2 k hk⟩, ?_⟩
    exact HD2.out.2.1.trans HK.out (fun k hk hlt => by
      rcases HD2.out.2.2 k hk with h9 | h9
      · exact h9
      · omega)
end Go.Proofs.Ytfpfpdhfnleebaa
