/- The walk of DiskPlays: any work on any files, any crashes. No conditions. -/
import Derived.Test.YtfpfpdhfnleebaaDkA4
set_option maxRecDepth 8000
namespace Go.Proofs.Ytfpfpdhfnleebaa
open Go.ChangeShapes Go.WideShapes Go.ChangeAt Go.RowKit
set_option linter.unusedVariables false
set_option linter.unusedSimpArgs false
namespace Dq
theorem act_fs {d : Dk.D} {a : Ac} {g : Dk.Fl} (hg : g ∈ (actD d a).fs) : (∃ f ∈ d.fs, g.n = f.n) ∨ g.n = a.file := by
  have hu : ∀ {n : Int} {F : Dk.Fl → Dk.Fl}, g ∈ Dk.updF n F d.fs → (∀ f, (F f).n = f.n) → ∃ f ∈ d.fs, g.n = f.n := fun h hF => by
    obtain ⟨f, hf, h1⟩ := Dk.upd_mem h
    rcases h1 with ⟨_, rfl⟩ | ⟨_, rfl⟩
    · exact ⟨f, hf, hF f⟩
    · exact ⟨g, hf, rfl⟩
  unfold actD at hg
  split at hg
  · unfold Dk.appD at hg
    split at hg
    · exact .inl ⟨g, hg, rfl⟩
    · dsimp only at hg
      split at hg
      · rcases List.mem_append.1 hg with h | h
        · exact .inl ⟨g, h, rfl⟩
        · rw [List.mem_singleton] at h; subst h; exact .inr rfl
      · exact .inl (hu hg (fun _ => rfl))
  split at hg
  · unfold Dk.syncD at hg
    split at hg
    · exact .inl ⟨g, hg, rfl⟩
    · exact .inl (hu hg (fun _ => rfl))
  split at hg
  · unfold Dk.truD at hg
    split at hg
    · exact .inl ⟨g, hg, rfl⟩
    · exact .inl (hu hg (fun _ => rfl))
  split at hg
  · unfold Dk.removeD at hg
    split at hg
    · exact .inl ⟨g, hg, rfl⟩
    · exact .inl ⟨g, (List.mem_filter.1 hg).1, rfl⟩
  split at hg
  · rw [crashD_eq] at hg
    obtain ⟨f, hf, rfl⟩ := List.mem_map.1 hg
    exact .inl ⟨f, hf, rfl⟩
  · exact .inl ⟨g, hg, rfl⟩
theorem play_fs {l : List Ac} (h : ∀ a ∈ l, Dk.okI a.file) : ∀ f ∈ (playD l).fs, Dk.okI f.n := by
  have : ∀ (l : List Ac) (d : Dk.D), (∀ a ∈ l, Dk.okI a.file) → (∀ f ∈ d.fs, Dk.okI f.n) → ∀ f ∈ (l.foldl actD d).fs, Dk.okI f.n := by
    intro l
    induction l with
    | nil => intro d _ h; exact h
    | cons a l ih =>
      intro d ha hd
      rw [List.foldl_cons]
      refine ih (actD d a) (fun b hb => ha b (List.mem_cons_of_mem _ hb)) (fun g hg => ?_)
      rcases act_fs hg with ⟨f, hf, he⟩ | he
      · rw [he]; exact hd f hf
      · rw [he]; exact ha a List.mem_cons_self
  exact this l ⟨[], []⟩ h (fun f hf => by cases hf)
end Dq
namespace diskPlaysOpen
open Dq
set_option maxHeartbeats 4000000 in
theorem walk (A : Option Addr) (c : Nat) (ps : List Ac) (w : World) (hR : Mem.Rd w w.heap.size A (ps.flatMap acCells)) (hok : ∀ a ∈ ps, AcOk w w.heap.size a) (hl : ps.length ≤ c) (hc : c ≤ 17592186044416) :
    Calls Try.prog 7 #[.slice A ps.length c] w fun e w' => e = .returned (.bool true) ∧ Below w.heap.size w w' := by
  have HR := Lib.hid hR
  have HOK := Lib.hid hok
  have HA := Lib.hid (diskAble_any w)
  clear hR hok
  go_enter Try.func7, Try.ntmps7
  go_upto_region 3 with (go_at_call 9; (refine HA.out.mono ?_); rintro x w1 ⟨rfl, hb1⟩; have HB1 := Lib.hid hb1; clear hb1 HA)
  have HR1 := Lib.hid (HR.out.below HB1.out)
  have HMU := Lib.hid (dkMuch_any (c := c) HR1.out (by omega) (fun a ha => (HOK.out a ha).2.2.2.2.2.2))
  cases hbg : bigS ps with
  | true =>
    rw [hbg] at HMU
    go_wp2_with (go_at_call 16; (refine HMU.out.mono ?_); rintro x w2 ⟨rfl, hw2⟩; obtain rfl := hw2.symm; clear HMU hw2)
    go_ret
    exact ⟨rfl, HB1.out⟩
  | false =>
    rw [hbg] at HMU
    have ht : tot ps ps.length ≤ 20000 := by unfold bigS at hbg; simpa using hbg
    have HT := Lib.hid ht
    have hlen : ps.length ≤ 1000 := by have := tot_le ps 0; rw [tot_zero] at this; omega
    have HN := Lib.hid (new_d (Mem.Many.none BAt w1))
    clear hbg ht
    go_wp2_with (first | (go_at_call 16; (refine HMU.out.mono ?_); rintro x w2 ⟨rfl, hw2⟩; obtain rfl := hw2.symm; clear HMU hw2) | (go_at_call 10; (refine HN.out.mono ?_); rintro x w2 ⟨gd, rfl, h1, hb1⟩; clear HN; have HN2 := Lib.hid (new_q h1)) | (go_at_call 22; (refine HN2.out.mono ?_); rintro x w3 ⟨gm, rfl, h2, hb2⟩; rw [List.nil_append] at h2; have HM3 := Lib.hid h2; clear HN2 h1 hb1 h2 hb2))
    go_loopw [5] (MaRel w1 gd gm ps) (fun t _ => ps.length - (intOf t).toNat)
    case atStart => exact ⟨⟨0, ⟨[], 0⟩, [], by omega, rfl, HM3, Rel.nil, Nat.zero_le _⟩⟩
    case round =>
      obtain ⟨k, q, P, hk, rfl, HM, HREL, HTI⟩ := hrel.out
      clear hrel
      by_cases hlt : k < ps.length
      · obtain ⟨b, o, p, rfl, hb, hp, hcl⟩ := at_act HR.out hlt
        have hbel : Below w.heap.size w wr := HB1.out.trans (HM.out.bel.mono HB1.out.size)
        have hcl2 : ∀ j u, (acCells p)[j]? = some u → wr.cell? ⟨b, o + k * 4 + j, none⟩ = some u := fun j u hj => (hbel.cell (p := ⟨b, o + k * 4 + j, none⟩) hb).trans (hcl j u hj)
        have HCL := Lib.hid hcl2
        have hac := (HOK.out p (List.mem_of_getElem? hp)).below hbel HB1.out.size
        have HFI := Lib.hid hac.2.2.2.2.1
        have hps := play_snoc hp
        have hts := tot_succ hp
        have hto := tot_one hp
        have htl := tot_le ps k
        have h9 := HT.out
        have h8 := HTI.out
        have hca := dkAct_any HM.out ((play_ok (ps.take k)).mono (L := 1000) (by rw [List.length_take]; omega)) (by omega) HREL.out (by omega) p hac (by omega)
        rw [← hps] at hca
        have HCA := Lib.hid hca
        have HTS := Lib.hid hts
        have HOK5 : Hid (Dk.Ok (playD (ps.take (k + 1))) 1000) := (play_ok (ps.take (k + 1))).mono (by rw [List.length_take]; omega)
        have HFS : Hid (∀ f ∈ (playD (ps.take (k + 1))).fs, Dk.okI f.n) := play_fs (fun a ha => (HOK.out a (List.mem_of_mem_take ha)).2.2.2.2.1)
        have HBO : Hid (b < w.heap.size) := hb
        have HCO := Lib.hid hcl
        have d0 : decide ((k : Int) < (ps.length : Int)) = true := by simp; omega
        clear hp hcl hcl2 hac hps hts hto htl h9 h8 hca hbel
        go_upto_region 8 with (first
          | ((with_reducible refine Mem.load_agg _ _ dact_agg b (o + k * 4) (acCells p) ?hx (acCells_length p) HCL.out ?_); case hx => exact rfl)
          | (go_at_call 23; (refine HCA.out.mono ?_); rintro x w5 ⟨rfl, q', hn', hM'⟩; obtain ⟨⟨P', hr5⟩, ht5⟩ := hn'; have HT5 := Lib.hid ht5; have HM5 := Lib.hid hM'; have HR5 := Lib.hid hr5; have HLK := Lib.hid (dkLooks_any hM' HOK5.out hr5 HFS.out HFI.out); have y1 : w5.cell? ⟨b, o + k * 4 + 1, none⟩ = some (.int .i64 p.file) := ((HB1.out.trans (hM'.bel.mono HB1.out.size)).cell (p := ⟨b, o + k * 4 + 1, none⟩) HBO.out).trans (HCO.out 1 _ rfl); clear ht5 hM' hr5 HCA)
          | (go_at_call 24; (refine HLK.out.mono ?_); rintro x w6 ⟨rfl, hb6⟩; have HM6 := Lib.hid (HM5.out.below standsB hb6); clear hb6 HLK HM5 y1))
        go_wp2
        go_roundw
        case rel => exact ⟨⟨k + 1, q', P', by omega, by go_num, HM6, HR5, by show _ ≤ _; rw [HTS.out]; have h1 := HT5.out; have h2 := HTI.out; omega⟩⟩
        case measure => simp [intOf]; omega
      · obtain rfl : k = ps.length := by omega
        have d0 : decide ((ps.length : Int) < (ps.length : Int)) = false := by simp
        go_wp2
        go_ret
        exact ⟨rfl, HB1.out.trans (HM.out.bel.mono HB1.out.size)⟩
theorem opened {H : Type} (enc : TypeId × Value → H) (W : World) (base : Nat) (v0 : Value) {d0 : DataW H} {p0 : List MemPlace}
    (o0 : Value.okWide Try.prog W .any base 36 v0) (k0 : DataW.Trod enc Try.prog W 0 (fun _ => true) true 36 v0 d0 p0) (z0 : (d0.weights Try.prog 36).all (· ≤ reachBytes) = true) :
    Calls Try.prog 7 #[v0] W fun e w' => e = .returned (.bool true) ∧ Below W.heap.size W w' := by
  obtain ⟨A, c, ps, rfl, h1, h2, h3, h4⟩ := open_dacts o0 k0 z0
  exact walk A c ps W h3 h4 h1 h2
end diskPlaysOpen
end Go.Proofs.Ytfpfpdhfnleebaa
