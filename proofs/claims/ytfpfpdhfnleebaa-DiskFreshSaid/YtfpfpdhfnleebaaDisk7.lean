/- The walk of a disk's Crash. A disk whose loose pieces are of its files, and no more than these have. -/
import Derived.Test.YtfpfpdhfnleebaaDisk6
set_option maxRecDepth 8000
namespace Go.Proofs.Ytfpfpdhfnleebaa
open Go.ChangeShapes Go.WideShapes Go.ChangeAt Go.RowKit
set_option linter.unusedVariables false
set_option linter.unusedSimpArgs false
namespace Dk
def looseOf (n : Int) (lo : List (Int × Nat)) : Nat := ((lo.filter fun p => p.1 == n).map (·.2)).sum
structure Room (fs : List Fl) (lo : List (Int × Nat)) : Prop where
  mem : ∀ p ∈ lo, ∃ f ∈ fs, f.n = p.1
  le : ∀ f ∈ fs, f.syn + looseOf f.n lo ≤ f.bs.length
def keptI (keep : Int) (n : Nat) : Nat := (max 0 (min keep n)).toNat
structure Cs where
  keep : Int
  lost : Nat
  fs : List Fl
def crStep (s : Cs) (p : Int × Nat) : Cs := ⟨s.keep - keptI s.keep p.2, s.lost + (p.2 - keptI s.keep p.2), updF p.1 (fun f => { f with syn := f.syn + keptI s.keep p.2 }) s.fs⟩
def crFold (s : Cs) (lo : List (Int × Nat)) : Cs := lo.foldl crStep s
def cutF (f : Fl) : Fl := { f with bs := f.bs.take f.syn }
def crashD (d : D) (keep : Int) : D := ⟨(crFold ⟨keep, 0, d.fs⟩ d.lo).fs.map cutF, []⟩
def crashN (d : D) (keep : Int) : Nat := (crFold ⟨keep, 0, d.fs⟩ d.lo).lost
theorem looseOf_cons (n : Int) (p : Int × Nat) (lo : List (Int × Nat)) : looseOf n (p :: lo) = (if p.1 = n then p.2 else 0) + looseOf n lo := by
  unfold looseOf
  rw [List.filter_cons]
  by_cases h : p.1 = n
  · simp [h]
  · have : (p.1 == n) = false := by simpa using h
    rw [this]; simp [h]
theorem kept_le (keep : Int) (n : Nat) : keptI keep n ≤ n := by unfold keptI; omega
theorem Room.step {fs : List Fl} {p : Int × Nat} {lo : List (Int × Nat)} (h : Room fs (p :: lo)) {m : Nat} (hm : m ≤ p.2) : Room (updF p.1 (fun f => { f with syn := f.syn + m }) fs) lo := by
  refine ⟨fun q hq => ?_, fun f hf => ?_⟩
  · obtain ⟨f, hf, hn⟩ := h.mem q (List.mem_cons_of_mem _ hq)
    by_cases hp : f.n = p.1
    · exact ⟨{ f with syn := f.syn + m }, List.mem_map.2 ⟨f, hf, by rw [if_pos hp]⟩, hn⟩
    · exact ⟨f, List.mem_map.2 ⟨f, hf, by rw [if_neg hp]⟩, hn⟩
  · obtain ⟨f0, hf0, he⟩ := List.mem_map.1 hf
    have h1 := h.le f0 hf0
    rw [looseOf_cons] at h1
    split at he
    · rename_i hp
      subst he
      rw [if_pos hp.symm] at h1
      dsimp only
      omega
    · rename_i hp
      subst he
      rw [if_neg (fun e => hp e.symm)] at h1
      omega
def updR (n : Int) (F : FR → FR) (rs : List FR) : List FR := rs.map fun r => if r.f.n = n then F r else r
theorem updR_split {pre post : List FR} {r : FR} {n : Int} {F : FR → FR} (hn : r.f.n = n) (hd : ((pre ++ r :: post).map (·.f.n)).Nodup) : pre ++ F r :: post = updR n F (pre ++ r :: post) := by
  have hno : ∀ q ∈ pre ++ post, q.f.n ≠ n := by
    intro q hq e
    rw [List.map_append, List.map_cons, List.nodup_append] at hd
    obtain ⟨h1, h2, h3⟩ := hd
    rcases List.mem_append.1 hq with hq | hq
    · exact h3 _ (List.mem_map.2 ⟨q, hq, rfl⟩) _ List.mem_cons_self (by rw [e, hn])
    · rw [List.nodup_cons] at h2
      exact h2.1 (List.mem_map.2 ⟨q, hq, by rw [e, hn]⟩)
  unfold updR
  rw [List.map_append, List.map_cons, if_pos hn]
  congr 1
  · rw [List.map_congr_left (g := id) (fun q hq => by rw [if_neg (hno q (List.mem_append_left _ hq))]; rfl), List.map_id]
  · congr 1
    rw [List.map_congr_left (g := id) (fun q hq => by rw [if_neg (hno q (List.mem_append_right _ hq))]; rfl), List.map_id]
theorem fp_file {g b : Nat} {A : Option Addr} {pre post : List FR} {r r' : FR} (h : ∀ k, r'.fp k ↔ r.fp k) (k : Nat) : fpD g b A (pre ++ r' :: post) k ↔ fpD g b A (pre ++ r :: post) k := by
  unfold fpD
  simp only [List.mem_append, List.mem_cons]
  constructor
  · rintro (h1 | h1 | h1 | ⟨q, hq, hk⟩)
    · exact .inl h1
    · exact .inr (.inl h1)
    · exact .inr (.inr (.inl h1))
    · rcases hq with hq | rfl | hq
      · exact .inr (.inr (.inr ⟨q, .inl hq, hk⟩))
      · exact .inr (.inr (.inr ⟨r, .inr (.inl rfl), (h k).1 hk⟩))
      · exact .inr (.inr (.inr ⟨q, .inr (.inr hq), hk⟩))
  · rintro (h1 | h1 | h1 | ⟨q, hq, hk⟩)
    · exact .inl h1
    · exact .inr (.inl h1)
    · exact .inr (.inr (.inl h1))
    · rcases hq with hq | rfl | hq
      · exact .inr (.inr (.inr ⟨q, .inl hq, hk⟩))
      · exact .inr (.inr (.inr ⟨r', .inr (.inl rfl), (h k).2 hk⟩))
      · exact .inr (.inr (.inr ⟨q, .inr (.inr hq), hk⟩))
structure CkRel (w : World) (g b : Nat) (A : Option Addr) (c : Nat) (rs : List FR) (lo : List (Int × Nat)) (keep : Int) (v1 v5 v16 : Value) (wr : World) : Prop where
  out : ∃ (k : Nat) (rk : List FR) (kp : Int) (ls : Nat), k ≤ lo.length ∧ v1 = .int .i64 kp ∧ v5 = .int .i64 ls ∧ v16 = .int .i64 k ∧ okI kp ∧ ls ≤ looseR (lo.take k) ∧ Hid ((⟨kp, ls, rk.map (·.f)⟩ : Cs) = crFold ⟨keep, 0, rs.map (·.f)⟩ (lo.take k)) ∧
    Hid (DS wr g b A c rk lo) ∧ Hid (∀ q, fpD g b A rk q ↔ fpD g b A rs q) ∧ Hid (Mem.Keeps (fpD g b A rs) w wr) ∧ Hid (Room (rk.map (·.f)) (lo.drop k))
def cutFR (r : FR) : FR := { r with f := cutF r.f }
def cutIn (dn : List Int) (rs : List FR) : List FR := rs.map fun r => if r.f.n ∈ dn then cutFR r else r
structure CcRel (w : World) (g b : Nat) (A : Option Addr) (c : Nat) (rk : List FR) (lo : List (Int × Nat)) (gt : Nat) (v : Value) (wr : World) : Prop where
  out : ∃ (lf : List FR) (dn : List Int), Hid (∀ q ∈ lf, q ∈ rk ∧ q.f.n ∉ dn) ∧ Hid (∀ r ∈ rk, r.f.n ∈ dn ∨ r ∈ lf) ∧ Hid ((lf.map (·.f.n)).Nodup) ∧ Hid (DS wr g b A c (cutIn dn rk) lo) ∧ Hid (Mem.IterIs (Value.int .i64) okI wr b gt (rk.map ent) (lf.map ent)) ∧ Hid (Mem.Keeps (fpD g b A rk) w wr) ∧ Hid (gt < wr.heap.size)
theorem cutIn_ent (dn : List Int) (rs : List FR) : (cutIn dn rs).map ent = rs.map ent := by
  unfold cutIn
  rw [List.map_map]
  refine List.map_congr_left fun r hr => ?_
  simp only [Function.comp]
  split <;> rfl
theorem cutIn_fp (g b : Nat) (A : Option Addr) (dn : List Int) (rs : List FR) (k : Nat) : fpD g b A (cutIn dn rs) k ↔ fpD g b A rs k := by
  unfold fpD cutIn
  have : (∃ r ∈ rs.map (fun r => if r.f.n ∈ dn then cutFR r else r), r.fp k) ↔ ∃ r ∈ rs, r.fp k := by
    constructor
    · rintro ⟨q, hq, hk⟩
      obtain ⟨r, hr, he⟩ := List.mem_map.1 hq
      refine ⟨r, hr, ?_⟩
      subst he
      split at hk <;> exact hk
    · rintro ⟨r, hr, hk⟩
      refine ⟨_, List.mem_map.2 ⟨r, hr, rfl⟩, ?_⟩
      split <;> exact hk
  rw [this]
theorem cutIn_step {dn : List Int} {rs : List FR} {n : Int} (hn : n ∉ dn) : cutIn (n :: dn) rs = updR n cutFR (cutIn dn rs) := by
  unfold cutIn updR
  rw [List.map_map]
  refine List.map_congr_left fun r hr => ?_
  simp only [Function.comp, List.mem_cons]
  by_cases h1 : r.f.n = n
  · have h2 : r.f.n ∉ dn := by rw [h1]; exact hn
    rw [if_pos (.inl h1), if_neg h2, if_pos h1]
  · by_cases h2 : r.f.n ∈ dn
    · rw [if_pos (.inr h2), if_pos h2, if_neg (by exact h1)]
    · rw [if_neg (fun h => h.elim h1 h2), if_neg h2, if_neg h1]
end Dk
open Dk in
set_option maxHeartbeats 4000000 in
theorem crash_any {w : World} {g b c : Nat} {A : Option Addr} {rs : List Dk.FR} {lo : List (Int × Nat)} (h : Dk.DS w g b A c rs lo) {keep : Int} (hkp : Dk.okI keep) (hl : Dk.looseR lo ≤ 1000000000) (hroom : Dk.Room (rs.map (·.f)) lo) :
    Calls Try.prog 12 #[.pointer (some ⟨g, 0, none⟩), .int .i64 keep] w (Dk.DEnd w g (Dk.fpD g b A rs) (Dk.crashD ⟨rs.map (·.f), lo⟩ keep) (.int .i64 (Dk.crashN ⟨rs.map (·.f), lo⟩ keep))) := by
  obtain ⟨fs0, hfs0⟩ : ∃ z, rs.map (·.f) = z := ⟨_, rfl⟩
  have HFS0 := Lib.hid hfs0
  have x1 : w.cell? ⟨g, 1, none⟩ = some (.slice A lo.length c) := h.B.cell (j := 1) rfl
  have hlol : lo.length ≤ maxLen := Nat.le_trans h.O.le h.O.cap
  unfold maxLen at hlol
  have HD := Lib.hid h
  have HRM := Lib.hid hroom
  have hnonok : ∀ r ∈ rs, okI r.f.n := by
    intro r hr
    obtain ⟨es, clock, _, _, _, ho⟩ := h.M
    exact ho (ent r) (List.mem_map.2 ⟨r, hr, rfl⟩)
  have HNO := Lib.hid hnonok
  rw [hfs0]
  clear h hroom hfs0 hnonok
  go_enter Try.func12, Try.ntmps12
  go_upto_region 3 with fail
  clear x1
  go_loopw [1, 5, 16] (CkRel w g b A c rs lo keep) (fun _ _ t _ => lo.length - (intOf t).toNat)
  case atStart => exact ⟨⟨0, rs, keep, 0, by omega, rfl, rfl, rfl, hkp, by simp [looseR], rfl, HD, fun q => Iff.rfl, Mem.Keeps.refl _ _, HRM⟩⟩
  case round =>
    obtain ⟨k, rk, kp, ls, hk, rfl, rfl, rfl, hkpo, hls, HFO, HDk, HFP, HK, HR⟩ := hrel.out
    clear hrel
    by_cases hlt : k < lo.length
    · obtain ⟨p, hp⟩ : ∃ p, lo[k]? = some p := ⟨_, List.getElem?_eq_getElem hlt⟩
      have hdrop : lo.drop k = p :: lo.drop (k + 1) := by
        obtain ⟨h1, h2⟩ := List.getElem?_eq_some_iff.1 hp
        rw [List.drop_eq_getElem_cons h1, h2]
      have hRk := HR.out
      rw [hdrop] at hRk
      obtain ⟨f, hf, hfn⟩ := hRk.mem p List.mem_cons_self
      obtain ⟨r0, hr0, hr0f⟩ := List.mem_map.1 hf
      obtain ⟨r, hfind⟩ : ∃ r, findR rk p.1 = some r := by
        unfold findR
        cases hq : rk.find? (fun r => r.f.n == p.1) with
        | some r => exact ⟨r, rfl⟩
        | none =>
          rw [List.find?_eq_none] at hq
          have := hq r0 hr0
          rw [hr0f, hfn] at this
          simp at this
      have hokp : okI p.1 := by
        have h1 := HDk.out.M
        obtain ⟨es, clock, _, _, _, ho⟩ := h1
        have := ho (ent r0) (List.mem_map.2 ⟨r0, hr0, rfl⟩)
        unfold ent at this
        rw [hr0f, hfn] at this
        exact this
      have HFD := Lib.hid hfind
      obtain ⟨pre, post, hsplit, hrn, _⟩ := find_split hfind
      have hF := HDk.out.F r (by rw [hsplit]; simp)
      have hrl := hRk.le r.f (List.mem_map.2 ⟨r, by rw [hsplit]; simp, rfl⟩)
      rw [looseOf_cons, if_pos hrn.symm] at hrl
      obtain ⟨b2, o2, hA⟩ := HDk.out.O.form (by omega)
      subst hA
      obtain ⟨q0, q1⟩ := pcs_get hp
      have z0 : wr.cell? ⟨b2, o2 + k * 2, none⟩ = some (.int .i64 p.1) := HDk.out.O.cell q0
      have z1 : wr.cell? ⟨b2, o2 + k * 2 + 1, none⟩ = some (.int .i64 p.2) := by have := HDk.out.O.cell q1; rwa [← Nat.add_assoc] at this
      have hst := loose_step hp
      have hle := loose_le lo (k + 1)
      have hp2 : p.2 ≤ 1000000000 := by omega
      obtain ⟨kt, hkt⟩ : ∃ kt, keptI kp p.2 = kt := ⟨_, rfl⟩
      have hktl : kt ≤ p.2 := by rw [← hkt]; exact kept_le _ _
      have hkpo2 : -9223372036854775808 ≤ kp ∧ kp ≤ 9223372036854775807 := hkpo
      have hkv : okI (kp - kt) := by show _ ∧ _; unfold keptI at hkt; omega
      obtain ⟨z, hz⟩ : ∃ z, min kp (p.2 : Int) = z := ⟨_, rfl⟩
      have hmn : ∀ ts t W, (Builtin.min_ ts t #[.int .i64 kp, .int .i64 p.2]).run Try.prog W = .ok (.int .i64 z) W := fun ts t W => by rw [run_min2, hz]
      have hmx : ∀ ts t W, (Builtin.max_ ts t #[.int .i64 0, .int .i64 z]).run Try.prog W = .ok (.int .i64 kt) W := fun ts t W => by rw [run_max2]; congr 2; unfold keptI at hkt; omega
      have hsub : (p.2 : Int) - (kt : Int) = ((p.2 - kt : Nat) : Int) := by omega
      have hkb : -9223372036854775808 ≤ kp - kt ∧ kp - kt ≤ 9223372036854775807 := hkv
      obtain ⟨hkb1, hkb2⟩ := hkb
      have d1 : decide ((k : Int) < (lo.length : Int)) = true := by simp; omega
      have HRK := Lib.hid hRk
      have HKT := Lib.hid hkt
      have HKV := Lib.hid hkv
      have HPP := Lib.hid hp
      have HRN := Lib.hid hrn
      have HSP := Lib.hid hsplit
      have HOK := Lib.hid hokp
      have hsyl : r.f.syn + kt ≤ r.f.bs.length := by omega
      have hlr : r.f.bs.length ≤ maxLen := Nat.le_trans hF.O.le hF.O.cap
      unfold maxLen at hlr
      obtain ⟨v1, hv1⟩ : ∃ v1, wr.alloc (.cells #[.int .i64 p.1, .int .i64 p.2] 59) = v1 := ⟨_, rfl⟩
      have hbv : Below wr.heap.size wr v1 := by rw [← hv1]; exact (Below.refl _ wr).alloc (Nat.le_refl _) _
      have hpb : Mem.Bx v1 59 2 wr.heap.size [.int .i64 p.1, .int .i64 p.2] := by rw [← hv1]; exact Mem.Bx.new wr 59 #[.int .i64 p.1, .int .i64 p.2] rfl rfl
      obtain ⟨gp, hgp⟩ : ∃ gp, wr.heap.size = gp := ⟨_, rfl⟩
      have hDv := HDk.out.below hbv
      rw [hgp] at hpb
      have HDV := Lib.hid hDv
      have HBV := Lib.hid hbv
      have x0 : v1.cell? ⟨g, 0, none⟩ = some (.map (some b)) := hDv.B.cell (j := 0) rfl
      have u0 : v1.cell? ⟨gp, 0, none⟩ = some (.int .i64 p.1) := hpb.cell (j := 0) rfl
      have u1 : v1.cell? ⟨gp, 1, none⟩ = some (.int .i64 p.2) := hpb.cell (j := 1) rfl
      have hgl : g < v1.heap.size := hDv.B.lt
      have hgpl : gp < v1.heap.size := hpb.lt
      have HFv := Lib.hid (hDv.F r (by rw [hsplit]; simp))
      obtain ⟨rf, rh, rA, rc⟩ := r
      have y1 : v1.cell? ⟨rh, 1, none⟩ = some (.int .i64 rf.syn) := HFv.out.B.cell (j := 1) rfl
      have hrhl : rh < v1.heap.size := HFv.out.B.lt
      have HGP := Lib.hid hgp
      obtain ⟨sy, hsy⟩ : ∃ sy, rf.syn + kt = sy := ⟨_, rfl⟩
      have hadd : (rf.syn : Int) + (kt : Int) = (sy : Int) := by omega
      have HSY := Lib.hid hsy
      have HSYL := Lib.hid hsyl
      dsimp only at hlr
      have hsb : rf.syn + kt ≤ 9223372036854775807 := by dsimp only at hsyl; omega
      have hlsb : ls + (p.2 - kt) ≤ looseR (lo.take (k + 1)) := by omega
      have hlsb2 : ls + (p.2 - kt) ≤ 1000000000 := by omega
      clear hsy hp hdrop hRk hf hfn hr0 hr0f hfind hrn hF hrl q0 q1 hst hle hkt hkv hz hokp hbv hDv hpb hkpo hkpo2 hls hgp hsplit hsyl HR
      go_upto_region 5 with fail
      try rw [hv1]
      try rw [HGP.out]
      clear hv1 z0 z1
      go_upto_region 6 with fail
      refine Reg.wp_region_w (by kernel_rfl) 74 15 rfl rfl (by kernel_rfl) (14) (fun q => q = rh) (14) (fun _ => False) (14) (fun _ => False)
        (fun i v u => match i with
          | 0 => v = .pointer (some ⟨g, 0, none⟩)
          | 1 => v = .pointer (some ⟨g, 0, none⟩)
          | 2 => v = .pointer (some ⟨g, 0, none⟩)
          | 3 => v = .map (some b)
          | 4 => v = .pointer (some ⟨gp, 0, none⟩)
          | 5 => v = .int .i64 p.1
          | 6 => v = .pointer (some ⟨rh, 0, none⟩)
          | 7 => v = .pointer (some ⟨rh, 0, none⟩)
          | 8 => v = .pointer (some ⟨rh, 1, none⟩)
          | 9 => v = .int .i64 rf.syn
          | 10 => v = .int .i64 kt
          | 11 => v = .int .i64 (sy : Int)
          | 12 => v = .pointer (some ⟨rh, 0, none⟩)
          | 13 => v = .pointer (some ⟨rh, 1, none⟩)
          | 14 => Dk.FAt u ⟨{ rf with syn := sy }, rh, rA, rc⟩
          | _ => True) ?_ ?_
      · refine Reg.Steps.cons ?_ (Reg.Steps.cons ?_ (Reg.Steps.cons ?_ (Reg.Steps.cons ?_ (Reg.Steps.cons ?_ (Reg.Steps.cons ?_ (Reg.Steps.cons ?_ (Reg.Steps.cons ?_ (Reg.Steps.cons ?_ (Reg.Steps.cons ?_ (Reg.Steps.cons ?_ (Reg.Steps.cons ?_ (Reg.Steps.cons ?_ (Reg.Steps.cons ?_ (Reg.Steps.cons ?_ (Reg.Steps.nil _)))))))))))))))
        · intro val ac u hR hp ha K hK      -- 0: t25 := Op.move t0
          have e0 : (ac.tmps[0]?).getD undef = .pointer (some ⟨g, 0, none⟩) := ha 0 (by decide)
          clear ha hp
          refine Reg.Op1.plain rfl ?_
          go_wp2
          exact ⟨rfl, hK _ _ rfl (Reg.Wr.same _)⟩
        · intro val ac u hR hp ha K hK      -- 1: t26 := Op.nilCheck t25
          obtain ⟨w25, h25, r25⟩ := hp 0 (by decide)
          have e25 : (ac.tmps[25]?).getD undef = .pointer (some ⟨g, 0, none⟩) := (ha 25 (by decide)).trans h25
          clear h25
          clear ha hp
          refine Reg.Op1.plain rfl ?_
          go_wp2
          exact ⟨rfl, hK _ _ rfl (Reg.Wr.same _)⟩
        · intro val ac u hR hp ha K hK      -- 2: t27 := Op.fieldAddr 54 t26 0
          obtain ⟨w26, h26, r26⟩ := hp 1 (by decide)
          have e26 : (ac.tmps[26]?).getD undef = .pointer (some ⟨g, 0, none⟩) := (ha 26 (by decide)).trans h26
          clear h26
          clear ha hp
          refine Reg.Op1.plain rfl ?_
          go_wp2
          exact ⟨rfl, hK _ _ rfl (Reg.Wr.same _)⟩
        · intro val ac u hR hp ha K hK      -- 3: t28 := Op.load 51 t27
          obtain ⟨w27, h27, r27⟩ := hp 2 (by decide)
          have e27 : (ac.tmps[27]?).getD undef = .pointer (some ⟨g, 0, none⟩) := (ha 27 (by decide)).trans h27
          clear h27
          clear ha hp
          refine Reg.Op1.plain rfl ?_
          have x0 := (((Reg.Wr.none hR (by decide +kernel) (by decide +kernel) (by decide +kernel))).cell (p := ⟨g, 0, none⟩) (hgl) (id)).trans (x0)
          go_wp2
          exact ⟨rfl, hK _ _ rfl (Reg.Wr.same _)⟩
        · intro val ac u hR hp ha K hK      -- 4: t29 := Op.fieldAddr 59 t7 0
          have e7 : (ac.tmps[7]?).getD undef = .pointer (some ⟨gp, 0, none⟩) := ha 7 (by decide)
          clear ha hp
          refine Reg.Op1.plain rfl ?_
          go_wp2
          exact ⟨rfl, hK _ _ rfl (Reg.Wr.same _)⟩
        · intro val ac u hR hp ha K hK      -- 5: t30 := Op.load 3 t29
          obtain ⟨w29, h29, r29⟩ := hp 4 (by decide)
          have e29 : (ac.tmps[29]?).getD undef = .pointer (some ⟨gp, 0, none⟩) := (ha 29 (by decide)).trans h29
          clear h29
          clear ha hp
          refine Reg.Op1.plain rfl ?_
          have x0 := (((Reg.Wr.none hR (by decide +kernel) (by decide +kernel) (by decide +kernel))).cell (p := ⟨gp, 0, none⟩) (hgpl) (id)).trans (u0)
          go_wp2
          exact ⟨rfl, hK _ _ rfl (Reg.Wr.same _)⟩
        · intro val ac u hR hp ha K hK      -- 6: t31 := Op.lookup 51 t28 t30 false
          obtain ⟨w28, h28, r28⟩ := hp 3 (by decide)
          have e28 : (ac.tmps[28]?).getD undef = .map (some b) := (ha 28 (by decide)).trans h28
          clear h28
          obtain ⟨w30, h30, r30⟩ := hp 5 (by decide)
          have e30 : (ac.tmps[30]?).getD undef = .int .i64 p.1 := (ha 30 (by decide)).trans h30
          clear h30
          clear ha hp
          refine Reg.Op1.plain rfl ?_
          have hq : Mem.Keeps (fun _ => False) v1 u := (Mem.Keeps.refl (fun _ => False) v1).drew.trans (Reg.Wr.none hR (by decide +kernel) (by decide +kernel) (by decide +kernel)) (fun _ h _ => h)
          have hlk := look_at (HDV.out.keeps hq (fun _ _ h => h)) HOK.out
          rw [HFD.out] at hlk
          unfold ptrV at hlk
          go_wp2
          exact ⟨rfl, hK _ _ rfl (Reg.Wr.same _)⟩
        · intro val ac u hR hp ha K hK      -- 7: t32 := Op.nilCheck t31
          obtain ⟨w31, h31, r31⟩ := hp 6 (by decide)
          have e31 : (ac.tmps[31]?).getD undef = .pointer (some ⟨rh, 0, none⟩) := (ha 31 (by decide)).trans h31
          clear h31
          clear ha hp
          refine Reg.Op1.plain rfl ?_
          go_wp2
          exact ⟨rfl, hK _ _ rfl (Reg.Wr.same _)⟩
        · intro val ac u hR hp ha K hK      -- 8: t33 := Op.fieldAddr 57 t32 1
          obtain ⟨w32, h32, r32⟩ := hp 7 (by decide)
          have e32 : (ac.tmps[32]?).getD undef = .pointer (some ⟨rh, 0, none⟩) := (ha 32 (by decide)).trans h32
          clear h32
          clear ha hp
          refine Reg.Op1.plain rfl ?_
          go_wp2
          exact ⟨rfl, hK _ _ rfl (Reg.Wr.same _)⟩
        · intro val ac u hR hp ha K hK      -- 9: t34 := Op.load 3 t33
          obtain ⟨w33, h33, r33⟩ := hp 8 (by decide)
          have e33 : (ac.tmps[33]?).getD undef = .pointer (some ⟨rh, 1, none⟩) := (ha 33 (by decide)).trans h33
          clear h33
          clear ha hp
          refine Reg.Op1.plain rfl ?_
          have x0 := (((Reg.Wr.none hR (by decide +kernel) (by decide +kernel) (by decide +kernel))).cell (p := ⟨rh, 1, none⟩) (hrhl) (id)).trans (y1)
          go_wp2
          exact ⟨rfl, hK _ _ rfl (Reg.Wr.same _)⟩
        · intro val ac u hR hp ha K hK      -- 10: t35 := Op.move t8
          have e8 : (ac.tmps[8]?).getD undef = .int .i64 kt := ha 8 (by decide)
          clear ha hp
          refine Reg.Op1.plain rfl ?_
          go_wp2
          exact ⟨rfl, hK _ _ rfl (Reg.Wr.same _)⟩
        · intro val ac u hR hp ha K hK      -- 11: t36 := Op.binOp BinOp.add 3 t34 t35 3
          obtain ⟨w34, h34, r34⟩ := hp 9 (by decide)
          have e34 : (ac.tmps[34]?).getD undef = .int .i64 rf.syn := (ha 34 (by decide)).trans h34
          clear h34
          obtain ⟨w35, h35, r35⟩ := hp 10 (by decide)
          have e35 : (ac.tmps[35]?).getD undef = .int .i64 kt := (ha 35 (by decide)).trans h35
          clear h35
          clear ha hp
          refine Reg.Op1.plain rfl ?_
          go_wp2
          exact ⟨rfl, hK _ _ rfl (Reg.Wr.same _)⟩
        · intro val ac u hR hp ha K hK      -- 12: t37 := Op.nilCheck t31
          obtain ⟨w31, h31, r31⟩ := hp 6 (by decide)
          have e31 : (ac.tmps[31]?).getD undef = .pointer (some ⟨rh, 0, none⟩) := (ha 31 (by decide)).trans h31
          clear h31
          clear ha hp
          refine Reg.Op1.plain rfl ?_
          go_wp2
          exact ⟨rfl, hK _ _ rfl (Reg.Wr.same _)⟩
        · intro val ac u hR hp ha K hK      -- 13: t38 := Op.fieldAddr 57 t37 1
          obtain ⟨w37, h37, r37⟩ := hp 12 (by decide)
          have e37 : (ac.tmps[37]?).getD undef = .pointer (some ⟨rh, 0, none⟩) := (ha 37 (by decide)).trans h37
          clear h37
          clear ha hp
          refine Reg.Op1.plain rfl ?_
          go_wp2
          exact ⟨rfl, hK _ _ rfl (Reg.Wr.same _)⟩
        · intro val ac u hR hp ha K hK      -- 14: Op.store 3 t38 t36
          obtain ⟨w38, h38, r38⟩ := hp 13 (by decide)
          have e38 : (ac.tmps[38]?).getD undef = .pointer (some ⟨rh, 1, none⟩) := (ha 38 (by decide)).trans h38
          clear h38
          obtain ⟨w36, h36, r36⟩ := hp 11 (by decide)
          have e36 : (ac.tmps[36]?).getD undef = .int .i64 (sy : Int) := (ha 36 (by decide)).trans h36
          clear h36
          clear ha hp
          refine Reg.Op1.plain rfl ?_
          have hq : Mem.Keeps (fun _ => False) v1 u := (Mem.Keeps.refl (fun _ => False) v1).drew.trans (Reg.Wr.none hR (by decide +kernel) (by decide +kernel) (by decide +kernel)) (fun _ h _ => h)
          have hFu := HFv.out.keeps hq (fun _ _ h => h)
          have x1 := hFu.B.cell (j := 1) rfl
          have xf := hFu.B.fr
          go_wp2
          exact ⟨rfl, hK undef _ ⟨hFu.B.set 1 (.int .i64 (sy : Int)), hFu.O.keeps ((Mem.Keeps.refl (fun q => q = rh) u).setCell (p := ⟨rh, 1, none⟩) (fun _ => rfl) _) (fun k hk => hFu.ne k hk), hFu.ne, HSY.out ▸ HSYL.out⟩ (Reg.Wr.does1 ((Mem.Keeps.refl (fun q => q = rh) u).setCell (p := ⟨rh, 1, none⟩) (fun _ => rfl) _))⟩
      · intro val u hR H
        obtain ⟨w14, hB14, r14⟩ := H 14 (by decide)
        have hFu := FAt.keeps hB14 (Reg.Wr.none r14 (by decide +kernel) (by decide +kernel) (by decide +kernel)) (fun _ _ h => h)
        have hKu : Mem.Keeps (fun q => q = rh) v1 u := ((Mem.Keeps.refl (fun q => q = rh ∨ False ∨ False) v1).drew.trans (Reg.Wr.all hR) (fun _ h _ => h)).mono (fun q h _ => h.elim id (fun h => h.elim False.elim False.elim))
        rw [← HSY.out] at hFu
        simp only [List.map_cons, List.map_nil, Reg.lay, Act.put, List.setIfInBounds_toArray, List.set_cons_succ, List.set_cons_zero, Nat.reduceAdd]
        have hDs := HDV.out
        rw [HSP.out] at hDs
        obtain ⟨f1, f2, f3⟩ := hDs.file (r' := ⟨{ rf with syn := rf.syn + kt }, rh, rA, rc⟩) rfl rfl hFu (hKu.mono (fun k h _ => .inl h)) (fun k h => .inl h)
        have hnd := hDs.nodup
        have e1 := upd_split (pre := pre) (post := post) (r := ⟨rf, rh, rA, rc⟩) (r' := ⟨{ rf with syn := rf.syn + kt }, rh, rA, rc⟩) (F := fun f => { f with syn := f.syn + kt }) HRN.out hnd rfl
        rw [← HSP.out] at e1
        have hfp : ∀ q, fpD g b (some ⟨b2, o2, none⟩) (pre ++ (⟨{ rf with syn := rf.syn + kt }, rh, rA, rc⟩ : FR) :: post) q ↔ fpD g b (some ⟨b2, o2, none⟩) rs q := fun q => by
          have h9 := HFP.out q
          rw [HSP.out] at h9
          exact (fp_file (r := ⟨rf, rh, rA, rc⟩) (r' := ⟨{ rf with syn := rf.syn + kt }, rh, rA, rc⟩) (fun k => Iff.rfl) q).trans h9
        rw [← HSP.out] at f2
        have hKw : Mem.Keeps (fpD g b (some ⟨b2, o2, none⟩) rs) w u := (HK.out.trans (Mem.Keeps.of_below HBV.out) (fun _ h _ => h.elim)).trans f2 (fun q h _ => (HFP.out q).1 h)
        have hfo : (⟨kp - kt, ls + (p.2 - kt), (pre ++ (⟨{ rf with syn := rf.syn + kt }, rh, rA, rc⟩ : FR) :: post).map (·.f)⟩ : Cs) = crFold ⟨keep, 0, rs.map (·.f)⟩ (lo.take (k + 1)) := by
          unfold crFold
          rw [Mem.take_snoc HPP.out, List.foldl_append]
          have h9 := HFO.out
          unfold crFold at h9
          rw [← h9]
          show _ = crStep _ p
          unfold crStep
          dsimp only
          rw [HKT.out, e1]
        have hro : Room ((pre ++ (⟨{ rf with syn := rf.syn + kt }, rh, rA, rc⟩ : FR) :: post).map (·.f)) (lo.drop (k + 1)) := by
          rw [e1]
          exact HRK.out.step hktl
        have u1' : u.cell? ⟨gp, 1, none⟩ = some (.int .i64 p.2) := (hKu.cell (p := ⟨gp, 1, none⟩) hgpl (fun h => by have h9 : rh < wr.heap.size := (HDk.out.F (⟨rf, rh, rA, rc⟩ : FR) (by rw [HSP.out]; simp)).B.lt; have h8 : gp = rh := h; have := HGP.out; omega)).trans u1
        have HF1 := Lib.hid f1
        have HFPn := Lib.hid hfp
        have HKn := Lib.hid hKw
        have HFOn := Lib.hid hfo
        have HROn := Lib.hid hro
        clear hB14 hFu hKu hDs f1 f2 f3 hnd e1 hfp hKw hfo hro hR H r14 x0 u0 u1 y1 HFO HDk HFP HK HRK HDV HBV HFv
        go_wp2
        go_roundw
        case rel => exact ⟨⟨k + 1, _, kp - kt, ls + (p.2 - kt), by omega, by go_num, by go_num, by go_num, HKV.out, hlsb, HFOn, HF1, HFPn, HKn, HROn⟩⟩
        case measure => first | (simp [intOf]; done) | (simp [intOf]; omega)
    · obtain rfl : k = lo.length := by omega
      obtain ⟨wy, hwy⟩ : ∃ wy, wy = wr := ⟨_, rfl⟩
      subst hwy
      rw [List.take_of_length_le (Nat.le_refl _)] at hls HFO
      have x0 : wy.cell? ⟨g, 0, none⟩ = some (.map (some b)) := HDk.out.B.cell (j := 0) rfl
      obtain ⟨w1, hrun, hI, hk1, hs1⟩ := HDk.out.M.range (P := Try.prog) Try.underlying51
      obtain ⟨gt, hgt⟩ : ∃ gt, wy.heap.size = gt := ⟨_, rfl⟩
      rw [hgt] at hrun hI hs1
      have HGT := Lib.hid hgt
      have HI1 := Lib.hid hI
      have HD1 := Lib.hid (HDk.out.keeps hk1 (fun _ _ h => h))
      have hgl1 : gt < w1.heap.size := by omega
      have HK1 : Hid (Mem.Keeps (fpD g b A rk) wy w1) := hk1.mono (fun _ h _ => h.elim)
      have hndk := HDk.out.nodup
      have HNDK := Lib.hid hndk
      have HGL1 := Lib.hid hgl1
      clear hI hk1 hs1 hgt hlt hk HR hndk hgl1
      go_upto_region 11 with fail
      clear hrun x0
      have hc0 : cutIn [] rk = rk := by
        unfold cutIn
        rw [List.map_congr_left (g := id) (fun q hq => by rw [if_neg (by simp)]; rfl), List.map_id]
      go_loopw [10] (CcRel wy g b A c rk lo gt) (fun _ wq => wq.rangeLeft b gt)
      case atStart => exact ⟨⟨rk, [], (fun q hq => ⟨hq, by simp⟩), (fun r hr => .inr hr), HNDK.out, by show DS _ _ _ _ _ _ _; rw [hc0]; exact HD1.out, HI1, HK1, HGL1⟩⟩
      case round =>
        clear hc0
        obtain ⟨lf, dn, HLF, HRD, HLN, HDc, HI, HK2, HGL⟩ := hrel.out
        clear hrel
        rcases HI.out.nexts Try.prog with ⟨hlf0, hrun⟩ | ⟨i, p, w2, hp, hrun, hI2, hk2, hs2, hen⟩
        · have hlf : lf = [] := by simpa using hlf0
          subst hlf
          have hca : cutIn dn rk = rk.map cutFR := by
            unfold cutIn
            refine List.map_congr_left fun r hr => ?_
            rcases HRD.out r hr with h1 | h1
            · rw [if_pos h1]
            · cases h1
          have HCA := Lib.hid hca
          have x1 := HDc.out.B.cell (j := 1) rfl
          have xf := HDc.out.B.fr
          have HBB := Lib.hid (HDc.out.B.set 1 (.slice none 0 0))
          clear hlf0 hca HLN HLF HRD HI HD1 HI1 HK1
          go_wp2
          go_ret
          obtain ⟨f1, f2, f3⟩ := HDc.out.loose (A' := none) (c' := 0) (lo' := []) HBB.out (Mem.Own.nil _ _ _) ((Mem.Keeps.refl (fun k => k = g ∨ Mem.blk A = some k) _).setCell (p := ⟨g, 1, none⟩) (fun _ => .inl rfl) _) (fun k hk => by cases hk)
          have hfs : (cutIn dn rk).map (·.f) = ((crFold ⟨keep, 0, fs0⟩ lo).fs).map cutF := by
            rw [← HFS0.out, ← HFO.out, HCA.out, List.map_map, List.map_map]; rfl
          have hn : crashN ⟨fs0, lo⟩ keep = ls := by
            unfold crashN
            rw [← HFS0.out, ← HFO.out]
          have e1 : ∀ k, fpD g b A (cutIn dn rk) k ↔ fpD g b A rs k := fun k => (cutIn_fp g b A dn rk k).trans (HFP.out k)
          have k1 : Mem.Keeps (fpD g b A rs) w wr := HK.out.trans (HK2.out.mono (T := fpD g b A rs) (fun k h _ => (HFP.out k).1 h)) (fun _ h _ => h)
          rw [hn]
          refine ⟨rfl, ⟨_, f1.at hfs, fun k hk => ?_⟩, k1.trans (f2.mono (T := fpD g b A rs) (fun k h _ => (e1 k).1 h)) (fun _ h _ => h)⟩
          rcases f3 k hk with h1 | h1
          · exact .inl ((e1 k).1 h1)
          · exact .inr (Nat.le_trans k1.size h1)
        · obtain ⟨r, hr, hpr⟩ : ∃ r, lf[i]? = some r ∧ p = ent r := by
            rw [List.getElem?_map] at hp
            cases hl9 : lf[i]? with
            | none => rw [hl9] at hp; cases hp
            | some r => rw [hl9] at hp; exact ⟨r, rfl, by simpa using hp.symm⟩
          subst hpr
          have hrm := List.mem_of_getElem? hr
          obtain ⟨hrk, hrdn⟩ := HLF.out r hrm
          have hilt := (List.getElem?_eq_some_iff.1 hr).1
          have hpe := erase_perm hr
          have hnd1 : ((r :: lf.eraseIdx i).map (·.f.n)).Nodup := (hpe.map _).nodup_iff.2 HLN.out
          rw [List.map_cons, List.nodup_cons] at hnd1
          have hlen : (lf.eraseIdx i).length = lf.length - 1 := by rw [List.length_eraseIdx, if_pos hilt]
          have hI3 : Mem.IterIs (Value.int .i64) okI w2 b gt (rk.map ent) ((lf.eraseIdx i).map ent) := by rw [ChangeMaps.map_eraseIdx]; exact hI2
          have hgtl := HGL.out
          have hnew : ∀ k, fpD g b A (cutIn dn rk) k → k ≠ gt := fun k hk e => by
            have h1 := HDk.out.lt ((cutIn_fp g b A dn rk k).1 hk)
            have := HGT.out
            omega
          have hD2 := HDc.out.keeps hk2 hnew
          have hrc : r ∈ cutIn dn rk := by
            unfold cutIn
            exact List.mem_map.2 ⟨r, hrk, by rw [if_neg hrdn]⟩
          obtain ⟨pre, post, hsp⟩ := List.append_of_mem hrc
          have hFr := hD2.F r hrc
          have hndc := hD2.nodup
          have hk2w : Mem.Keeps (fpD g b A rk) wy w2 := HK2.out.trans hk2 (fun q hq hlt => by have := HGT.out; omega)
          have HLF2 : Hid (∀ q ∈ lf.eraseIdx i, q ∈ rk ∧ q.f.n ∉ r.f.n :: dn) := fun q hq => by
            obtain ⟨h1, h2⟩ := HLF.out q ((List.eraseIdx_sublist _ _).subset hq)
            refine ⟨h1, fun h => ?_⟩
            rcases List.mem_cons.1 h with h | h
            · exact hnd1.1 (List.mem_map.2 ⟨q, hq, h⟩)
            · exact h2 h
          have HRD2 : Hid (∀ q ∈ rk, q.f.n ∈ r.f.n :: dn ∨ q ∈ lf.eraseIdx i) := fun q hq => by
            rcases HRD.out q hq with h | h
            · exact .inl (List.mem_cons_of_mem _ h)
            · rcases List.mem_cons.1 (hpe.symm.subset h) with h | h
              · subst h; exact .inl List.mem_cons_self
              · exact .inr h
          have HLN2 := Lib.hid hnd1.2
          have HLEN := Lib.hid hlen
          have HILT := Lib.hid hilt
          have HCT : Hid (wr.rangeLeft b gt = lf.length) := by show _ = _; rw [HI.out.count, List.length_map]
          have HSTEP := Lib.hid (cutIn_step (rs := rk) hrdn)
          have HSP := Lib.hid hsp
          have HFR := Lib.hid hFr
          have HNDC := Lib.hid hndc
          have HD2 := Lib.hid hD2
          have HK2W := Lib.hid hk2w
          have HI3 := Lib.hid hI3
          have HNEW := Lib.hid hnew
          unfold ent at hrun hen
          obtain ⟨rf, rh, rA, rc⟩ := r
          dsimp only at hrun hen
          obtain ⟨l0, hl0⟩ : ∃ l0, rf.bs.length = l0 := ⟨_, rfl⟩
          obtain ⟨s0, hs0⟩ : ∃ s0, rf.syn = s0 := ⟨_, rfl⟩
          have y0 : w2.cell? ⟨rh, 0, none⟩ = some (.slice rA l0 rc) := by rw [← hl0]; exact hFr.B.cell (j := 0) rfl
          have y1 : w2.cell? ⟨rh, 1, none⟩ = some (.int .i64 s0) := by rw [← hs0]; exact hFr.B.cell (j := 1) rfl
          have hrhl : rh < w2.heap.size := hFr.B.lt
          have hsl : s0 ≤ l0 := by rw [← hl0, ← hs0]; exact hFr.syn
          have HL0 := Lib.hid hl0
          have HS0 := Lib.hid hs0
          have HAA : Hid ((rA = none ∧ l0 = 0 ∧ rc = 0 ∧ s0 = 0) ∨ ∃ b2 o2, rA = some ⟨b2, o2, none⟩ ∧ l0 ≤ rc) := by
            have hO := hFr.O
            rcases hO.2 with ⟨h1, h2, h3⟩ | ⟨b2, o2, cur, h1, _⟩
            · dsimp only at h1 h2 h3
              rw [hl0] at h2
              exact .inl ⟨h1, h2, h3, by omega⟩
            · have := hO.le
              dsimp only at h1 this
              rw [hl0] at this
              exact .inr ⟨b2, o2, h1, this⟩
          have HSL := Lib.hid hsl
          clear hp hr hrm hrk hrdn hilt hlen hpe hnd1 hI2 hI3 hk2 hs2 hgtl hnew hD2 hrc hsp hFr hndc hk2w hl0 hs0 hsl HLF HRD HLN HI HDc HK2 HD1 HI1 HK1
          go_upto_region 13 with fail
          refine Reg.wp_region_w (by kernel_rfl) 74 13 rfl rfl (by kernel_rfl) (12) (fun q => q = rh) (12) (fun _ => False) (12) (fun _ => False)
            (fun i v u => match i with
              | 0 => v = .pointer (some ⟨rh, 0, none⟩)
              | 1 => v = .pointer (some ⟨rh, 0, none⟩)
              | 2 => v = .pointer (some ⟨rh, 0, none⟩)
              | 3 => v = .pointer (some ⟨rh, 0, none⟩)
              | 4 => v = .slice rA l0 rc
              | 5 => v = .pointer (some ⟨rh, 0, none⟩)
              | 6 => v = .pointer (some ⟨rh, 0, none⟩)
              | 7 => v = .pointer (some ⟨rh, 1, none⟩)
              | 8 => v = .int .i64 s0
              | 9 => v = .slice rA s0 rc
              | 10 => v = .pointer (some ⟨rh, 0, none⟩)
              | 11 => v = .pointer (some ⟨rh, 0, none⟩)
              | 12 => Mem.Bx u 57 2 rh [.slice rA s0 rc, .int .i64 s0]
              | _ => True) ?_ ?_
          · refine Reg.Steps.cons ?_ (Reg.Steps.cons ?_ (Reg.Steps.cons ?_ (Reg.Steps.cons ?_ (Reg.Steps.cons ?_ (Reg.Steps.cons ?_ (Reg.Steps.cons ?_ (Reg.Steps.cons ?_ (Reg.Steps.cons ?_ (Reg.Steps.cons ?_ (Reg.Steps.cons ?_ (Reg.Steps.cons ?_ (Reg.Steps.cons ?_ (Reg.Steps.nil _)))))))))))))
            · intro val ac u hR hp ha K hK      -- 0: t58 := Op.move t10
              have e10 : (ac.tmps[10]?).getD undef = .pointer (some ⟨rh, 0, none⟩) := ha 10 (by decide)
              clear ha hp
              refine Reg.Op1.plain rfl ?_
              go_wp2
              exact ⟨rfl, hK _ _ rfl (Reg.Wr.same _)⟩
            · intro val ac u hR hp ha K hK      -- 1: t59 := Op.move t10
              have e10 : (ac.tmps[10]?).getD undef = .pointer (some ⟨rh, 0, none⟩) := ha 10 (by decide)
              clear ha hp
              refine Reg.Op1.plain rfl ?_
              go_wp2
              exact ⟨rfl, hK _ _ rfl (Reg.Wr.same _)⟩
            · intro val ac u hR hp ha K hK      -- 2: t60 := Op.nilCheck t59
              obtain ⟨w59, h59, r59⟩ := hp 1 (by decide)
              have e59 : (ac.tmps[59]?).getD undef = .pointer (some ⟨rh, 0, none⟩) := (ha 59 (by decide)).trans h59
              clear h59
              clear ha hp
              refine Reg.Op1.plain rfl ?_
              go_wp2
              exact ⟨rfl, hK _ _ rfl (Reg.Wr.same _)⟩
            · intro val ac u hR hp ha K hK      -- 3: t61 := Op.fieldAddr 57 t60 0
              obtain ⟨w60, h60, r60⟩ := hp 2 (by decide)
              have e60 : (ac.tmps[60]?).getD undef = .pointer (some ⟨rh, 0, none⟩) := (ha 60 (by decide)).trans h60
              clear h60
              clear ha hp
              refine Reg.Op1.plain rfl ?_
              go_wp2
              exact ⟨rfl, hK _ _ rfl (Reg.Wr.same _)⟩
            · intro val ac u hR hp ha K hK      -- 4: t62 := Op.load 24 t61
              obtain ⟨w61, h61, r61⟩ := hp 3 (by decide)
              have e61 : (ac.tmps[61]?).getD undef = .pointer (some ⟨rh, 0, none⟩) := (ha 61 (by decide)).trans h61
              clear h61
              clear ha hp
              refine Reg.Op1.plain rfl ?_
              have x0 := (((Reg.Wr.none hR (by decide +kernel) (by decide +kernel) (by decide +kernel))).cell (p := ⟨rh, 0, none⟩) (hrhl) (id)).trans (y0)
              go_wp2
              exact ⟨rfl, hK _ _ rfl (Reg.Wr.same _)⟩
            · intro val ac u hR hp ha K hK      -- 5: t63 := Op.move t10
              have e10 : (ac.tmps[10]?).getD undef = .pointer (some ⟨rh, 0, none⟩) := ha 10 (by decide)
              clear ha hp
              refine Reg.Op1.plain rfl ?_
              go_wp2
              exact ⟨rfl, hK _ _ rfl (Reg.Wr.same _)⟩
            · intro val ac u hR hp ha K hK      -- 6: t64 := Op.nilCheck t63
              obtain ⟨w63, h63, r63⟩ := hp 5 (by decide)
              have e63 : (ac.tmps[63]?).getD undef = .pointer (some ⟨rh, 0, none⟩) := (ha 63 (by decide)).trans h63
              clear h63
              clear ha hp
              refine Reg.Op1.plain rfl ?_
              go_wp2
              exact ⟨rfl, hK _ _ rfl (Reg.Wr.same _)⟩
            · intro val ac u hR hp ha K hK      -- 7: t65 := Op.fieldAddr 57 t64 1
              obtain ⟨w64, h64, r64⟩ := hp 6 (by decide)
              have e64 : (ac.tmps[64]?).getD undef = .pointer (some ⟨rh, 0, none⟩) := (ha 64 (by decide)).trans h64
              clear h64
              clear ha hp
              refine Reg.Op1.plain rfl ?_
              go_wp2
              exact ⟨rfl, hK _ _ rfl (Reg.Wr.same _)⟩
            · intro val ac u hR hp ha K hK      -- 8: t66 := Op.load 3 t65
              obtain ⟨w65, h65, r65⟩ := hp 7 (by decide)
              have e65 : (ac.tmps[65]?).getD undef = .pointer (some ⟨rh, 1, none⟩) := (ha 65 (by decide)).trans h65
              clear h65
              clear ha hp
              refine Reg.Op1.plain rfl ?_
              have x0 := (((Reg.Wr.none hR (by decide +kernel) (by decide +kernel) (by decide +kernel))).cell (p := ⟨rh, 1, none⟩) (hrhl) (id)).trans (y1)
              go_wp2
              exact ⟨rfl, hK _ _ rfl (Reg.Wr.same _)⟩
            · intro val ac u hR hp ha K hK      -- 9: t67 := Op.slice 24 t62 none (some t66) none
              obtain ⟨w62, h62, r62⟩ := hp 4 (by decide)
              have e62 : (ac.tmps[62]?).getD undef = .slice rA l0 rc := (ha 62 (by decide)).trans h62
              clear h62
              obtain ⟨w66, h66, r66⟩ := hp 8 (by decide)
              have e66 : (ac.tmps[66]?).getD undef = .int .i64 s0 := (ha 66 (by decide)).trans h66
              clear h66
              clear ha hp
              refine Reg.Op1.plain rfl ?_
              have hsl := HSL.out
              rcases HAA.out with ⟨h1, h2, h3, h4⟩ | ⟨b2, o2, h1, h2⟩
              · subst h1 h2 h3 h4
                go_wp2
                exact ⟨rfl, hK _ _ rfl (Reg.Wr.same _)⟩
              · subst h1
                go_wp2
                exact ⟨rfl, hK _ _ rfl (Reg.Wr.same _)⟩
            · intro val ac u hR hp ha K hK      -- 10: t68 := Op.nilCheck t58
              obtain ⟨w58, h58, r58⟩ := hp 0 (by decide)
              have e58 : (ac.tmps[58]?).getD undef = .pointer (some ⟨rh, 0, none⟩) := (ha 58 (by decide)).trans h58
              clear h58
              clear ha hp
              refine Reg.Op1.plain rfl ?_
              go_wp2
              exact ⟨rfl, hK _ _ rfl (Reg.Wr.same _)⟩
            · intro val ac u hR hp ha K hK      -- 11: t69 := Op.fieldAddr 57 t68 0
              obtain ⟨w68, h68, r68⟩ := hp 10 (by decide)
              have e68 : (ac.tmps[68]?).getD undef = .pointer (some ⟨rh, 0, none⟩) := (ha 68 (by decide)).trans h68
              clear h68
              clear ha hp
              refine Reg.Op1.plain rfl ?_
              go_wp2
              exact ⟨rfl, hK _ _ rfl (Reg.Wr.same _)⟩
            · intro val ac u hR hp ha K hK      -- 12: Op.store 24 t69 t67
              obtain ⟨w69, h69, r69⟩ := hp 11 (by decide)
              have e69 : (ac.tmps[69]?).getD undef = .pointer (some ⟨rh, 0, none⟩) := (ha 69 (by decide)).trans h69
              clear h69
              obtain ⟨w67, h67, r67⟩ := hp 9 (by decide)
              have e67 : (ac.tmps[67]?).getD undef = .slice rA s0 rc := (ha 67 (by decide)).trans h67
              clear h67
              clear ha hp
              refine Reg.Op1.plain rfl ?_
              have hq : Mem.Keeps (fun _ => False) w2 u := (Mem.Keeps.refl (fun _ => False) w2).drew.trans (Reg.Wr.none hR (by decide +kernel) (by decide +kernel) (by decide +kernel)) (fun _ h _ => h)
              have hB2 : Mem.Bx u 57 2 rh [.slice rA l0 rc, .int .i64 s0] := by rw [← HL0.out, ← HS0.out]; exact HFR.out.B.keeps hq id
              have x1 := hB2.cell (j := 0) rfl
              have xf := hB2.fr
              go_wp2
              exact ⟨rfl, hK undef _ (hB2.set 0 (.slice rA s0 rc)) (Reg.Wr.does1 ((Mem.Keeps.refl (fun q => q = rh) u).setCell (p := ⟨rh, 0, none⟩) (fun _ => rfl) _))⟩
          · intro val u hR H
            obtain ⟨w14, hB14, r14⟩ := H 12 (by decide)
            have hBu := Mem.Bx.keeps hB14 (Reg.Wr.none r14 (by decide +kernel) (by decide +kernel) (by decide +kernel)) id
            have hKu : Mem.Keeps (fun q => q = rh) w2 u := ((Mem.Keeps.refl (fun q => q = rh ∨ False ∨ False) w2).drew.trans (Reg.Wr.all hR) (fun _ h _ => h)).mono (fun q h _ => h.elim id (fun h => h.elim False.elim False.elim))
            simp only [List.map_cons, List.map_nil, Reg.lay, Act.put, List.setIfInBounds_toArray, List.set_cons_succ, List.set_cons_zero, Nat.reduceAdd]
            have hml2 : (rf.bs.take rf.syn).length = s0 := by rw [List.length_take]; have := HL0.out; have := HS0.out; have := HSL.out; omega
            have hfu : FAt u (cutFR ⟨rf, rh, rA, rc⟩) := by
              refine ⟨?_, ?_, HFR.out.ne, ?_⟩
              · show Mem.Bx _ _ _ _ [.slice rA (rf.bs.take rf.syn).length rc, .int .i64 rf.syn]
                rw [hml2, HS0.out]
                exact hBu
              · have h9 := (HFR.out.O.keeps hKu (fun k hk => HFR.out.ne k hk)).take (k := s0) (by show s0 ≤ rf.bs.length; have := HL0.out; have := HSL.out; omega)
                show Mem.Own _ _ _ rA (rf.bs.take rf.syn).length rc ((rf.bs.take rf.syn).map Mem.byteV)
                rw [hml2, List.map_take, HS0.out]
                rw [Nat.mul_one] at h9
                exact h9
              · show rf.syn ≤ (rf.bs.take rf.syn).length
                rw [hml2, HS0.out]; exact Nat.le_refl _
            have hDs := HD2.out
            rw [HSP.out] at hDs
            obtain ⟨f1, f2, _⟩ := hDs.file (r' := cutFR ⟨rf, rh, rA, rc⟩) rfl rfl hfu (hKu.mono (fun k h _ => .inl h)) (fun k h => .inl h)
            have hnd := hDs.nodup
            rw [updR_split (F := cutFR) rfl hnd, ← HSP.out, ← HSTEP.out] at f1
            rw [← HSP.out] at f2
            have hk3 : Mem.Keeps (fpD g b A rk) wy u := HK2W.out.trans f2 (fun q h _ => (cutIn_fp g b A dn rk q).1 h)
            have hnb : ¬ rh = b := fun e => by
              have hm : (⟨rf, rh, rA, rc⟩ : FR) ∈ cutIn dn rk := by rw [HSP.out]; simp
              exact (HD2.out.S.f _ hm rh (.inl rfl)).2.1 e
            have hng : ¬ rh = gt := fun e => by
              have hm : (⟨rf, rh, rA, rc⟩ : FR) ∈ cutIn dn rk := by rw [HSP.out]; simp
              exact HNEW.out rh (.inr (.inr (.inr ⟨_, hm, .inl rfl⟩))) e
            have hI4 : Mem.IterIs (Value.int .i64) okI u b gt (rk.map ent) ((lf.eraseIdx i).map ent) := HI3.out.keeps hKu (fun h => hnb h.symm) (fun h => hng h.symm)
            have hcnt : u.rangeLeft b gt < wr.rangeLeft b gt := by
              rw [hI4.count, HCT.out, List.length_map, HLEN.out]; have := HILT.out; omega
            have hgt9 : gt < u.heap.size := hI4.lt
            have HF1 := Lib.hid f1
            have HK3 := Lib.hid hk3
            have HI4 := Lib.hid hI4
            have HCN := Lib.hid hcnt
            have HG9 := Lib.hid hgt9
            clear hB14 hBu hKu hfu hDs f1 f2 hnd hk3 hI4 hcnt hgt9 hR H r14 y0 y1 hnb hng HFR HD2 HK2W HI3 HCT
            go_wp2
            go_roundw
            case rel => exact ⟨⟨lf.eraseIdx i, rf.n :: dn, HLF2, HRD2, HLN2, HF1, HI4, HK3, HG9⟩⟩
            case measure => exact HCN.out
end Go.Proofs.Ytfpfpdhfnleebaa
