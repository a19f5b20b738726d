/- The walks of a store's Latest and has. Stores that are few. -/
import Derived.Test.YtfafehffnjbhnaaStore1
set_option maxRecDepth 8000
namespace Go.Proofs.Ytfafehffnjbhnaa
open Go.ChangeShapes Go.WideShapes Go.ChangeAt Go.RowKit
set_option linter.unusedVariables false
set_option linter.unusedSimpArgs false
namespace Sto
def last (es : List Vec.Ent) : Vec.Ent × Bool := match es.getLast? with
  | some e => (e, true)
  | none => (Vec.ent0, false)
def latest (st : List Ls) (k : ByteArray) : Vec.Ent × Bool := last (vers st k)
theorem eql_dt (x : Vec.Ent) (d : Vec.Dt) (w : World) : (binOp .eql 34 (.agg #[.int .i64 x.dc, .int .i64 x.rng, .int .i64 x.seq]) (.agg #[.int .i64 d.dc, .int .i64 d.rng, .int .i64 d.seq])).run Try.prog w = .ok (.bool (eqD x d)) w := by
  unfold eqD
  by_cases h0 : x.dc = d.dc
  · by_cases h1 : x.rng = d.rng
    · by_cases h2 : x.seq = d.seq
      · simp [go_sem, h0, h1, h2]
      · simp [go_sem, h0, h1, h2]
    · simp [go_sem, h0, h1]
  · simp [go_sem, h0]
theorem vers_find {w : World} {g b : Nat} {rng : Int} {mk : Vec.Col} {rs : List LR} (h : SS w g b rng mk rs) {k : ByteArray} :
    (findR rs k = none ∧ vers (states rs) k = []) ∨ ∃ r, findR rs k = some r ∧ r ∈ rs ∧ vers (states rs) k = r.l.es := by
  cases hf : findR rs k with
  | none =>
    refine .inl ⟨rfl, vers_none fun l hl => ?_⟩
    obtain ⟨r, hr, rfl⟩ := List.mem_map.1 hl
    exact find_none hf r hr
  | some r =>
    obtain ⟨pre, post, rfl, rfl, _⟩ := find_split hf
    exact .inr ⟨r, rfl, by simp, vers_mem (List.mem_map.2 ⟨r, by simp, rfl⟩) (by have := h.nodup; unfold states; rw [List.map_map]; exact this)⟩
end Sto
open Vec Sto in
theorem dot_tells (S : Nat → Prop) (w : World) (gb : Nat) (d : Dt) (hE : Mem.Bx w 34 3 gb (dtCells d)) (hS : ¬ S gb) : Tells 52 #[.pointer (some ⟨gb, 0, none⟩)] (fun x => eqD x d) S w := by
  intro W x hk
  have hEW : Mem.Bx W 34 3 gb (dtCells d) := hE.keeps hk hS
  have HEW := Lib.hid hEW
  have hgb := hEW.lt
  clear hE hEW
  go_enter Try.func52, Try.ntmps52
  go_upto_region 1 with fail
  obtain ⟨w0, hw0⟩ : ∃ w0, W.alloc (.cells (entCells x).toArray 40) = w0 := ⟨_, rfl⟩
  have hE0 : EBx w0 W.heap.size x := by rw [← hw0]; exact EBx.new W x rfl
  have hb0 : Below W.heap.size W w0 := by rw [← hw0]; exact Reg.below_new _ _
  have hE1 := HEW.out.below hb0 hgb
  have x0 := hE0.cell (j := 0) rfl
  have x1 := hE0.cell (j := 1) rfl
  have x2 := hE0.cell (j := 2) rfl
  have y0 := hE1.cell (j := 0) rfl
  have y1 := hE1.cell (j := 1) rfl
  have y2 := hE1.cell (j := 2) rfl
  have hq := eql_dt x d
  rw [hw0]
  have HB0 := Lib.hid hb0
  clear hw0 hE0 hE1 hb0
  go_wp2
  go_ret
  exact ⟨rfl, HB0.out⟩
open Sto in
set_option maxHeartbeats 1000000 in
theorem has_any {w : World} {g b : Nat} {rng : Int} {mk : Vec.Col} {rs : List Sto.LR} (h : Sto.SS w g b rng mk rs) (d : Vec.Dt) :
    Calls Try.prog 30 #[.pointer (some ⟨g, 0, none⟩), .agg (Vec.dtCells d).toArray] w fun x w' => x = .returned (.bool (Sto.hasS (Sto.states rs) d)) ∧ Below w.heap.size w w' := by
  have hb0 : Below w.heap.size w (w.alloc (.cells (Vec.dtCells d).toArray 34)) := Reg.below_new _ _
  go_enter Try.func30, Try.ntmps30
  go_upto_region 1 with fail
  obtain ⟨w0, hw0⟩ : ∃ w0, w.alloc (.cells (Vec.dtCells d).toArray 34) = w0 := ⟨_, rfl⟩
  have hD : Mem.Bx w0 34 3 w.heap.size (Vec.dtCells d) := by rw [← hw0]; exact Mem.Bx.new w 34 (Vec.dtCells d).toArray rfl rfl
  have hgd := hD.lt
  rw [hw0] at hb0
  have h0 := h.below hb0
  obtain ⟨g0, hg0⟩ : ∃ g0, w.heap.size = g0 := ⟨_, rfl⟩
  rw [hw0]
  rw [hg0] at hD hgd ⊢
  have HG0 := Lib.hid hg0
  have HB0 := Lib.hid hb0
  clear hw0 hg0 hb0 h
  have x0 : w0.cell? ⟨g, 1, none⟩ = some (.map (some b)) := h0.B.cell (j := 1) rfl
  obtain ⟨w1, hrun, hI, hk1, hs1⟩ := h0.M.range (P := Try.prog) Try.underlying69
  have HD0 := Lib.hid h0
  have HI1 := Lib.hid hI
  have HK1 := Lib.hid hk1
  have HDB : Hid (Mem.Bx w1 34 3 g0 (Vec.dtCells d)) := hD.keeps hk1 id
  clear h0 hI hk1 hD
  obtain ⟨gt, hgt⟩ : ∃ gt, w0.heap.size = gt := ⟨_, rfl⟩
  rw [hgt] at hrun HI1
  have HGT := Lib.hid hgt
  rw [hgt] at hgd
  clear hgt hs1
  go_wp2
  clear hrun x0
  go_loopw [4] (HsRel w0 g0 d rs b gt) (fun _ wq => wq.rangeLeft b gt)
  case atStart => exact ⟨⟨rs, [], List.Perm.refl _, rfl, (fun q hq => by cases hq), HI1, HK1, HDB⟩⟩
  case round =>
    obtain ⟨lf, dn, HP, rfl, HN, HI, HK, HBX⟩ := hrel.out
    clear hrel
    rcases HI.out.nexts Try.prog with ⟨hl, hrun⟩ | ⟨i, p, w2, hp, hrun, hI2, hk2, hs2, hen⟩
    · have hlf : lf = [] := by simpa using hl
      subst hlf
      have hno : hasS (states rs) d = false := by
        unfold hasS states
        rw [List.any_eq_false]
        intro l hl
        obtain ⟨r, hr, rfl⟩ := List.mem_map.1 hl
        have := HN.out r (HP.out.symm.subset hr |> fun h => by simpa using h)
        simpa using this
      have HS := Lib.hid hno
      clear hl hno
      go_wp2
      go_ret
      exact ⟨by rw [HS.out]; rfl, HB0.out.trans (HK.out.below (fun k h => h.elim) HB0.out.size)⟩
    · obtain ⟨r, hr, hpr⟩ : ∃ r, lf[i]? = some r ∧ p = ent r := by
        rw [List.getElem?_map] at hp
        cases hl : lf[i]? with
        | none => rw [hl] at hp; cases hp
        | some r => rw [hl] at hp; exact ⟨r, rfl, by simpa using hp.symm⟩
      subst hpr
      have hmem : r ∈ rs := HP.out.subset (List.mem_append_right _ (List.mem_of_getElem? hr))
      have hK2 : Mem.Keeps (fun _ => False) w0 w2 := HK.out.trans hk2 (fun q hq hlt => by have := HGT.out; omega)
      have hO := (HD0.out.O r hmem).keeps hK2 (fun _ _ h => h)
      have hB2 := HBX.out.keeps hk2 (by omega)
      have hpe := erase_perm hr
      have hI3 : Mem.IterIs Value.string okS w2 b gt (rs.map ent) ((lf.eraseIdx i).map ent) := by rw [ChangeMaps.map_eraseIdx]; exact hI2
      have hcnt : w2.rangeLeft b gt < wr.rangeLeft b gt := by
        rw [hI3.count, HI.out.count, List.length_map, List.length_map, List.length_eraseIdx, if_pos (List.getElem?_eq_some_iff.1 hr).1]
        have := (List.getElem?_eq_some_iff.1 hr).1
        omega
      have hP2 : ((dn ++ [r]) ++ lf.eraseIdx i).Perm rs := by
        rw [List.append_assoc]
        exact (List.Perm.append_left dn hpe).trans HP.out
      have HC := Lib.hid (contains_any 52 #[.pointer (some ⟨g0, 0, none⟩)] _ (enters_of Try.func52 (by kernel_rfl) rfl) r.A r.c r.l.es w2.heap.size w2 (dot_tells _ w2 g0 d hB2 id) hO.rd (Nat.le_refl _) (Nat.le_trans hO.le hO.cap))
      have HB2 := Lib.hid hB2
      have HI3 := Lib.hid hI3
      have HK2 := Lib.hid hK2
      have HP2 := Lib.hid hP2
      have HCN := Lib.hid hcnt
      have HM := Lib.hid hmem
      unfold ent at hrun hen
      dsimp only at hrun hen
      have hmf : ∀ (fn : Fn) (first cap : Array Value) (w : World), (Instr.makeFunc fn first cap).run Try.prog w = .ok (.func fn first cap) w := fun _ _ _ _ => rfl
      clear hp hr hmem hpe hI2 hI3 hk2 hs2 hK2 hP2 hcnt HI HK HP hO hB2 HBX
      cases hq : r.l.es.any (fun x => eqD x d) with
      | true =>
        have hyes : hasS (states rs) d = true := by
          unfold hasS states
          rw [List.any_eq_true]
          exact ⟨r.l, List.mem_map.2 ⟨r, HM.out, rfl⟩, hq⟩
        rw [hq] at HC
        have HS := Lib.hid hyes
        clear hq hyes
        go_wp2_with (go_at_call 51; refine HC.out.mono ?_; rintro x w5 ⟨rfl, hb5⟩; have HB5 := Lib.hid hb5; clear hb5 HC)
        go_ret
        exact ⟨by rw [HS.out]; rfl, HB0.out.trans ((HK2.out.below (fun k h => h.elim) HB0.out.size).trans (HB5.out.mono (Nat.le_trans HB0.out.size HK2.out.size)))⟩
      | false =>
        rw [hq] at HC
        have HQ := Lib.hid hq
        clear hq
        go_wp2_with (go_at_call 51; refine HC.out.mono ?_; rintro x w5 ⟨rfl, hb5⟩; have HB5 := Lib.hid hb5; clear hb5 HC)
        go_roundw
        case rel =>
          refine ⟨⟨lf.eraseIdx i, dn ++ [r], HP2, rfl, ?_, ?_, ?_, ?_⟩⟩
          · intro q hq
            rcases List.mem_append.1 hq with hq | hq
            · exact HN.out q hq
            · rw [List.mem_singleton] at hq; subst hq; exact HQ.out
          · exact HI3.out.keeps (Mem.Keeps.of_below HB5.out) id id
          · exact HK2.out.trans (Mem.Keeps.of_below HB5.out) (fun _ h _ => h)
          · exact HB2.out.below HB5.out HB2.out.lt
        case measure =>
          have h9 := HI3.out.keeps (Mem.Keeps.of_below HB5.out) id id
          rw [h9.count, ← HI3.out.count]
          exact HCN.out
open Sto Vec in
theorem storeLatest_any {w : World} {g b : Nat} {rng : Int} {mk : Vec.Col} {rs : List Sto.LR} (h : Sto.SS w g b rng mk rs) {k : ByteArray} (hk : Sto.okS k) (hn : ∀ r ∈ rs, r.l.es ≠ []) :
    Calls Try.prog 21 #[.pointer (some ⟨g, 0, none⟩), .string k] w fun x w' => x = .returned (.tuple #[Vec.E (Sto.latest (Sto.states rs) k).1, .bool (Sto.latest (Sto.states rs) k).2]) ∧ Below w.heap.size w w' := by
  have x0 := h.B.cell (j := 1) rfl
  have hg := h.B.lt
  have hl := fun o => look_at (h.below (Reg.below_new w o)) hk
  rcases vers_find h (k := k) with ⟨hf, hv⟩ | ⟨r, hf, hm, hv⟩
  · rw [hf] at hl
    unfold lsV at hl
    have HV : Hid (latest (states rs) k = (Vec.ent0, false)) := by show _ = _; unfold latest; rw [hv]; rfl
    clear hf h hv
    go_enter Try.func21, Try.ntmps21
    go_wp2_with ((with_reducible refine Mem.store_agg _ _ entry_agg w.heap.size (entCells ent0) (entCells ent0) ?hxb ?hyb ?hbb (entCells_length _) (ent_one ent0) ?_); ((case hxb => exact rfl); (case hyb => exact rfl); (case hbb => exact Mem.Bx.new w _ (entCells ent0).toArray rfl rfl); intro w3 hb3 hk3 hs3))
    refine bodyPost_ret (v := .tuple #[.agg (entCells ent0).toArray, .bool false]) ?_ rfl ⟨by rw [HV.out]; rfl, ?_⟩
    · rw [Mem.results_agg2 Try.results21 entry_agg rfl hb3]
      rfl
    · exact (hk3.newBox rfl).belowAll
  · rw [hf] at hl
    unfold lsV at hl
    have hne := hn r hm
    have hO := h.O r hm
    obtain ⟨⟨rk, es⟩, rA, rc⟩ := r
    dsimp only at hl hne hv hO
    obtain ⟨n, hn1⟩ : ∃ n, es.length = n + 1 := ⟨es.length - 1, by cases es with | nil => exact absurd rfl hne | cons a l => simp⟩
    obtain ⟨e, he⟩ : ∃ e, es[n]? = some e := ⟨_, List.getElem?_eq_getElem (by omega)⟩
    have HV : Hid (latest (states rs) k = (e, true)) := by
      show _ = _
      unfold latest last
      rw [hv, List.getLast?_eq_getElem?, hn1, Nat.add_sub_cancel, he]
    obtain ⟨b2, o2, e2, rfl, hb2, he2, hat⟩ := ent_elem hO.rd (k := n) (by omega)
    rw [he] at he2
    cases he2
    have HAT := Lib.hid hat
    have HB2 := Lib.hid hb2
    have hcm := Nat.le_trans hO.le hO.cap
    rw [hn1] at hl hcm
    unfold maxLen at hcm
    have hd0 : (((n + 1 : Nat) : Int) == 0) = false := by simp; omega
    have HG := Lib.hid hg
    clear hf h hv hO hne hn1 he hn hat hb2 hm
    go_enter Try.func21, Try.ntmps21
    go_wp2_with (first | ((with_reducible refine Mem.load_agg _ _ entry_agg b2 (o2 + n * 20) (entCells e) ?hz (entCells_length e) (fun j u hu => ((Reg.below_new w _).cell (p := ⟨b2, _, none⟩) HB2.out).trans (HAT.out.c j u hu)) ?_); case hz => exact rfl) | ((with_reducible refine Mem.store_agg _ _ entry_agg w.heap.size (entCells ent0) (entCells e) ?hxb ?hyb ?hbb (entCells_length _) (ent_one e) ?_); ((case hxb => exact rfl); (case hyb => exact rfl); (case hbb => exact Mem.Bx.new w _ (entCells ent0).toArray rfl rfl); intro w3 hb3 hk3 hs3)))
    refine bodyPost_ret (v := .tuple #[.agg (entCells e).toArray, .bool true]) ?_ rfl ⟨by rw [HV.out]; rfl, ?_⟩
    · rw [Mem.results_agg2 Try.results21 entry_agg rfl hb3]
      rfl
    · exact (hk3.newBox rfl).belowAll
end Go.Proofs.Ytfafehffnjbhnaa
