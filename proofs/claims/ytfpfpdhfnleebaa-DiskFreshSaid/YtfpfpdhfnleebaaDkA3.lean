/- made and looks of the statements on disks. No conditions but that they are no great ones. -/
import Derived.Test.YtfpfpdhfnleebaaDkA2
set_option maxRecDepth 8000
namespace Go.Proofs.Ytfpfpdhfnleebaa
open Go.ChangeShapes Go.WideShapes Go.ChangeAt Go.RowKit
set_option linter.unusedVariables false
set_option linter.unusedSimpArgs false
theorem dact_agg : Mem.Agg Try.prog 47 4 := Mem.agg_of Try.underlying47 rfl (by kernel_rfl)
namespace Dq
theorem AcOk.below {w w' : World} {B B' : Nat} {a : Ac} (h : AcOk w B a) (hb : Below B w w') (hB : B ≤ B') : AcOk w' B' a := ⟨(h.1.below hb).more hB, h.2⟩
structure MaRel (w : World) (gd gm : Nat) (ps : List Ac) (v : Value) (wr : World) : Prop where
  out : ∃ (k : Nat) (q : Df.Q) (P : List (Nat × Int)), k ≤ ps.length ∧ v = .int .i64 k ∧ Hid (Ms w (fun _ => False) [(gd, .inl (playD (ps.take k))), (gm, .inr q)] wr) ∧ Hid (Rel (playD (ps.take k)) q P) ∧ Hid (q.time ≤ tot ps k)
theorem tot_one {ps : List Ac} {k : Nat} {p : Ac} (h : ps[k]? = some p) : p.bs.length ≤ tot ps ps.length := by
  have h1 := tot_succ h
  have h2 := tot_le ps (k + 1)
  omega
end Dq
open Dq in
set_option maxHeartbeats 4000000 in
theorem dkMade_any {w : World} {B : Nat} {A : Option Addr} {c : Nat} {ps : List Dq.Ac} (hR : Mem.Rd w B A (ps.flatMap Dq.acCells)) (hB : B ≤ w.heap.size) (hok : ∀ a ∈ ps, Dq.AcOk w B a) (hl : ps.length ≤ c) (hc : c ≤ 17592186044416) (ht : Dq.tot ps ps.length ≤ 20000) :
    Calls Try.prog 17 #[.slice A ps.length c] w fun x w' => ∃ g F, x = .returned (.pointer (some ⟨g, 0, none⟩)) ∧ Dk.DAt w' g (Dq.playD ps) F ∧ Below w.heap.size w w' ∧ ∀ k, F k → w.heap.size ≤ k := by
  have HR := Lib.hid hR
  have HOK := Lib.hid hok
  have HT := Lib.hid ht
  have hlen : ps.length ≤ 1000 := by have := tot_le ps 0; rw [tot_zero] at this; omega
  have HN := Lib.hid (new_d (Mem.Many.none BAt w))
  clear hR hok ht
  go_enter Try.func17, Try.ntmps17
  go_wp2_with (first | (go_at_call 10; (refine HN.out.mono ?_); rintro x w2 ⟨gd, rfl, h1, hb1⟩; clear HN; have HN2 := Lib.hid (new_q h1)) | (go_at_call 22; (refine HN2.out.mono ?_); rintro x w3 ⟨gm, rfl, h2, hb2⟩; rw [List.nil_append] at h2; have HM3 := Lib.hid h2; clear HN2 h1 hb1 h2 hb2))
  go_loopw [5] (MaRel w gd gm ps) (fun t _ => ps.length - (intOf t).toNat)
  case atStart => exact ⟨⟨0, ⟨[], 0⟩, [], by omega, rfl, HM3, Rel.nil, Nat.zero_le _⟩⟩
  case round =>
    obtain ⟨k, q, P, hk, rfl, HM, HREL, HTI⟩ := hrel.out
    clear hrel
    by_cases hlt : k < ps.length
    · obtain ⟨b, o, p, rfl, hb, hp, hcl⟩ := at_act HR.out hlt
      have hbel := HM.out.bel.mono hB
      have hcl2 : ∀ j u, (acCells p)[j]? = some u → wr.cell? ⟨b, o + k * 4 + j, none⟩ = some u := fun j u hj => (hbel.cell (p := ⟨b, o + k * 4 + j, none⟩) hb).trans (hcl j u hj)
      have HCL := Lib.hid hcl2
      have hac := (HOK.out p (List.mem_of_getElem? hp)).below hbel hB
      have hps := play_snoc hp
      have hts := tot_succ hp
      have hto := tot_one hp
      have htl := tot_le ps k
      have h9 := HT.out
      have h8 := HTI.out
      have hca := dkAct_any HM.out ((play_ok (ps.take k)).mono (L := 1000) (by rw [List.length_take]; omega)) (by omega) HREL.out (by omega) p hac (by omega)
      rw [← hps] at hca
      have HCA := Lib.hid hca
      have HTS := Lib.hid hts
      have d0 : decide ((k : Int) < (ps.length : Int)) = true := by simp; omega
      clear hp hcl hcl2 hac hps hts hto htl h9 h8 hca hbel
      go_wp2_with (first | ((with_reducible refine Mem.load_agg _ _ dact_agg b (o + k * 4) (acCells p) ?hx (acCells_length p) HCL.out ?_); case hx => exact rfl) | (go_at_call 23; (refine HCA.out.mono ?_); rintro x w5 ⟨rfl, q', hn', hM'⟩; have HN5 := Lib.hid hn'; have HM5 := Lib.hid hM'; clear hn' hM' HCA))
      obtain ⟨P', hr5⟩ := HN5.out.1
      have HR5 := Lib.hid hr5
      clear hr5
      go_roundw
      case rel => exact ⟨⟨k + 1, q', P', by omega, by go_num, HM5, HR5, by show _ ≤ _; rw [HTS.out]; have h1 := HN5.out.2; have h2 := HTI.out; omega⟩⟩
      case measure => simp [intOf]; omega
    · obtain rfl : k = ps.length := by omega
      have d0 : decide ((ps.length : Int) < (ps.length : Int)) = false := by simp
      have hM := HM.out
      rw [List.take_length] at hM
      have HM2 := Lib.hid hM
      clear hM HM
      go_wp2
      go_ret
      obtain ⟨F, h1, h2⟩ := HM2.out.get (i := 0) rfl
      exact ⟨gd, F, rfl, h1, HM2.out.bel, fun k hk => (h2 k hk).1⟩
end Go.Proofs.Ytfpfpdhfnleebaa
