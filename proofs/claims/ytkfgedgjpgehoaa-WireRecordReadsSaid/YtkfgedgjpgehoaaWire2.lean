/- Passes over the cells of a struct; the walk of numbers. No conditions but that the bytes are few. -/
import Derived.Test.YtkfgedgjpgehoaaWire1
namespace Go.Proofs.Ytkfgedgjpgehoaa
open Go.ChangeShapes Go.WideShapes Go.ChangeAt Go.RowKit
set_option linter.unusedVariables false
set_option linter.unusedSimpArgs false
namespace Wi
/-- few bytes, and the place is among them -/
structure Fit (c : Cd) (L : Nat) : Prop where
  pos : c.pos ≤ c.bs.length
  len : c.bs.length ≤ L
theorem takeF_pos (bs : List UInt8) : ∀ (f i n p : Nat), p ≤ bs.length → p ≤ (takeF bs f i n p).2 ∧ (takeF bs f i n p).2 ≤ bs.length
  | 0, i, n, p, h => ⟨Nat.le_refl _, h⟩
  | f + 1, i, n, p, h => by
    cases hx : bs[p]? with
    | none => rw [takeF_end _ _ _ _ _ hx]; exact ⟨Nat.le_refl _, h⟩
    | some x =>
      have hl : p < bs.length := (List.getElem?_eq_some_iff.1 hx).1
      rw [takeF_step hx]
      split
      · have := takeF_pos bs f (i + 1) (n + x.toNat % 128 * 2 ^ (7 * i)) (p + 1) hl
        omega
      · split <;> exact ⟨Nat.le_succ _, hl⟩
theorem takeC_same (c : Cd) : (takeC c).1.bs = c.bs ∧ (takeC c).1.reads = c.reads ∧ (takeC c).1.arg = c.arg ∧ (takeC c).1.long = c.long := by
  unfold takeC; split <;> exact ⟨rfl, rfl, rfl, rfl⟩
theorem takeC_fit {c : Cd} {L : Nat} (h : Fit c L) : Fit (takeC c).1 L := by
  have h1 := takeF_pos c.bs 9 0 0 c.pos h.pos
  unfold takeC
  split
  · rename_i p hp; rw [hp] at h1; exact ⟨h1.2, h.len⟩
  · rename_i n p hp; rw [hp] at h1; exact ⟨h1.2, h.len⟩
theorem stepNum_fit {c : Cd} {L : Nat} (h : Fit c L) (v : Int) : Fit (stepNum c v).1 (L + 9) := by
  unfold stepNum
  split
  · have := takeC_fit h; exact ⟨this.pos, Nat.le_trans this.len (by omega)⟩
  · split
    · exact ⟨h.pos, by have := h.len; show c.bs.length ≤ _; omega⟩
    · rename_i hb
      have h9 := vb_9 (n := v.toNat) (by omega)
      refine ⟨?_, ?_⟩
      · show c.pos ≤ (c.bs ++ _).length; rw [List.length_append]; have := h.pos; omega
      · show (c.bs ++ _).length ≤ _; rw [List.length_append]; have := h.len; omega
/-- a pass over one number's cell -/
def stepN (r : Cd × List Value) (k : Nat) : Cd × List Value := match r.2[k]? with
  | some (.int .i64 v) => ((stepNum r.1 v).1, r.2.set k (.int .i64 (stepNum r.1 v).2))
  | _ => r
def IsInt (zs : List Value) (k : Nat) : Prop := ∃ v, zs[k]? = some (.int .i64 v)
theorem stepN_int {r : Cd × List Value} {k j : Nat} (h : IsInt r.2 j) : IsInt (stepN r k).2 j := by
  unfold stepN
  split
  · rename_i v hv
    by_cases hkj : k = j
    · subst hkj
      exact ⟨_, by show (r.2.set k _)[k]? = _; rw [List.getElem?_set_self (List.getElem?_eq_some_iff.1 hv).1]⟩
    · obtain ⟨u, hu⟩ := h
      exact ⟨u, by show (r.2.set k _)[j]? = _; rw [List.getElem?_set_ne hkj]; exact hu⟩
  · exact h
theorem stepN_fit {r : Cd × List Value} {L : Nat} (h : Fit r.1 L) (k : Nat) : Fit (stepN r k).1 (L + 9) := by
  unfold stepN
  split
  · exact stepNum_fit h _
  · exact ⟨h.pos, by have := h.len; omega⟩
theorem stepNum_reads (c : Cd) (v : Int) : (stepNum c v).1.reads = c.reads := by
  unfold stepNum
  split
  · exact (takeC_same c).2.1
  · split <;> rfl
theorem stepN_reads (r : Cd × List Value) (k : Nat) : (stepN r k).1.reads = r.1.reads := by
  unfold stepN
  split
  · exact stepNum_reads _ _
  · rfl
theorem foldl_reads : ∀ (ks : List Nat) (r : Cd × List Value), (ks.foldl stepN r).1.reads = r.1.reads
  | [], r => rfl
  | k :: ks, r => (foldl_reads ks (stepN r k)).trans (stepN_reads r k)
/-- what a pass over a struct leaves -/
structure Pass (w : World) (g : Nat) (A : Option Addr) (t : TypeId) (n gm : Nat) (r : Cd × List Value) (w' : World) : Prop where
  out : ∃ (A2 : Option Addr) (cap2 : Nat), CAt w' g A2 cap2 r.1 ∧ Mem.Bx w' t n gm r.2 ∧ Mem.Keeps (fun q => (q = g ∨ Mem.blk A = some q) ∨ q = gm) w w' ∧ (∀ q, Mem.blk A2 = some q → Mem.blk A = some q ∨ w.heap.size ≤ q)
  rd : r.1.reads = true → Mem.Keeps (fun q => q = g ∨ q = gm) w w'
theorem Pass.refl {w : World} {g : Nat} {A : Option Addr} {cap : Nat} {t : TypeId} {n gm : Nat} {r : Cd × List Value} (h : CAt w g A cap r.1) (hz : Mem.Bx w t n gm r.2) : Pass w g A t n gm r w := ⟨⟨A, cap, h, hz, Mem.Keeps.refl _ _, fun q h => .inl h⟩, fun _ => Mem.Keeps.refl _ _⟩
theorem Pass.below {w w1 w2 : World} {g : Nat} {A : Option Addr} {t : TypeId} {n gm : Nat} {r : Cd × List Value} (h : Pass w g A t n gm r w1) (hb : Below w1.heap.size w1 w2) : Pass w g A t n gm r w2 := by
  obtain ⟨A2, cap2, h1, h2, h3, h4⟩ := h.out
  exact ⟨⟨A2, cap2, h1.keeps (Mem.Keeps.of_below hb) (fun _ _ h => h), h2.keeps (Mem.Keeps.of_below hb) id, h3.trans (Mem.Keeps.of_below hb) (fun _ h _ => h.elim), h4⟩, fun hr => (h.rd hr).trans (Mem.Keeps.of_below hb) (fun _ h _ => h.elim)⟩
theorem Pass.step {w w1 w2 : World} {g : Nat} {A A2 : Option Addr} {t : TypeId} {n gm : Nat} {r2 : Cd × List Value} (hk : Mem.Keeps (fun q => (q = g ∨ Mem.blk A = some q) ∨ q = gm) w w1) (hq : ∀ q, Mem.blk A2 = some q → Mem.blk A = some q ∨ w.heap.size ≤ q) (hrd : r2.1.reads = true → Mem.Keeps (fun q => q = g ∨ q = gm) w w1) (h2 : Pass w1 g A2 t n gm r2 w2) : Pass w g A t n gm r2 w2 := by
  obtain ⟨A3, cap3, a1, a2, a3, a4⟩ := h2.out
  refine ⟨⟨A3, cap3, a1, a2, hk.trans a3 (fun q h hlt => ?_), fun q h => ?_⟩, fun hr => (hrd hr).trans (h2.rd hr) (fun _ h _ => h)⟩
  · rcases h with (h | h) | h
    · exact .inl (.inl h)
    · rcases hq q h with h9 | h9
      · exact .inl (.inr h9)
      · omega
    · exact .inr h
  · rcases a4 q h with h9 | h9
    · exact hq q h9
    · exact .inr (Nat.le_trans hk.size h9)
theorem number_pass {w : World} {g : Nat} {A : Option Addr} {cap : Nat} {t : TypeId} {n gm : Nat} {r : Cd × List Value} {k : Nat} {L : Nat} (h : CAt w g A cap r.1) (hf : Fit r.1 L) (hL : L ≤ 1000000000) (hz : Mem.Bx w t n gm r.2) (hv : IsInt r.2 k) (hg : gm ≠ g) (ha : Mem.blk A ≠ some gm) :
    Calls Try.prog 45 #[.pointer (some ⟨g, 0, none⟩), .pointer (some ⟨gm, k, none⟩)] w fun x w' => x = .returned (.tuple #[]) ∧ Pass w g A t n gm (stepN r k) w' := by
  obtain ⟨v, hv⟩ := hv
  refine (number_any w g A cap r.1 t n gm r.2 k v h hf.pos (Nat.le_trans hf.len hL) hz hv hg ha).mono fun x w' h => ⟨h.1, ?_⟩
  obtain ⟨A2, cap2, h1, h2, h3, h4⟩ := h.2.out
  have e : stepN r k = ((stepNum r.1 v).1, r.2.set k (.int .i64 (stepNum r.1 v).2)) := by unfold stepN; rw [hv]
  rw [e]
  exact ⟨⟨A2, cap2, h1, h2, h3, h4⟩, h.2.rd⟩
abbrev ptrV (gm k : Nat) : Value := .pointer (some ⟨gm, k, none⟩)
structure NsRel (w : World) (g : Nat) (A : Option Addr) (t : TypeId) (n gm : Nat) (r : Cd × List Value) (ks : List Nat) (L : Nat) (v8 : Value) (wr : World) : Prop where
  out : ∃ j : Nat, j ≤ ks.length ∧ v8 = .int .i64 j ∧ Fit ((ks.take j).foldl stepN r).1 (L + 9 * j) ∧ (∀ k, IsInt r.2 k → IsInt ((ks.take j).foldl stepN r).2 k) ∧ Hid (Pass w g A t n gm ((ks.take j).foldl stepN r) wr)
end Wi
open Wi in
set_option maxRecDepth 8000 in
set_option maxHeartbeats 4000000 in
theorem numbers_any {w : World} {g : Nat} {A : Option Addr} {cap : Nat} {t : TypeId} {n gm : Nat} {r : Wi.Cd × List Value} {L : Nat} (P : Option Addr) (cP : Nat) (ks : List Nat) (B : Nat) (h : Wi.CAt w g A cap r.1) (hf : Wi.Fit r.1 L) (hL : L + 9 * ks.length ≤ 1000000000) (hz : Mem.Bx w t n gm r.2) (hv : ∀ k ∈ ks, Wi.IsInt r.2 k) (hg : gm ≠ g) (ha : Mem.blk A ≠ some gm)
    (hP : Mem.Rd w w.heap.size P (ks.map (Wi.ptrV gm))) (hPn : ∀ q, Mem.blk P = some q → ¬ ((q = g ∨ Mem.blk A = some q) ∨ q = gm)) :
    Calls Try.prog 56 #[.pointer (some ⟨g, 0, none⟩), .slice P ks.length cP] w fun x w' => x = .returned (.tuple #[]) ∧ Wi.Pass w g A t n gm (ks.foldl Wi.stepN r) w' := by
  have HC := Lib.hid h
  have HZ := Lib.hid hz
  have HP := Lib.hid hP
  have HPn := Lib.hid hPn
  have HA := Lib.hid ha
  have HV := Lib.hid hv
  clear h hz hP hPn ha hv
  go_enter Try.func56, Try.ntmps56
  go_wp2
  go_loopw [8] (NsRel w g A t n gm r ks L) (fun t _ => ks.length - (intOf t).toNat)
  case atStart => exact ⟨⟨0, Nat.zero_le _, rfl, by simpa using hf, fun k h => by simpa using h, Pass.refl HC.out HZ.out⟩⟩
  case round =>
    obtain ⟨j, hj, rfl, hfj, hij, HPj⟩ := hrel.out
    clear hrel
    by_cases hlt : j < ks.length
    · obtain ⟨A2, cap2, p1, p2, p3, p4⟩ := HPj.out.out
      have HP1 := Lib.hid p1
      have HP2 := Lib.hid p2
      have HP3 := Lib.hid p3
      have HP4 := Lib.hid p4
      obtain ⟨b, o, rfl, hb, hcc⟩ := (HP.out.keepsAt HP3.out (Nat.le_refl _) HPn.out).at (k := j) (by simpa using hlt)
      obtain ⟨k, hk⟩ : ∃ k, ks[j] = k := ⟨_, rfl⟩
      have x0 : wr.cell? ⟨b, o + j, none⟩ = some (ptrV gm k) := by rw [← hk]; simpa using hcc
      have hkm : k ∈ ks := by rw [← hk]; exact List.getElem_mem hlt
      have hkj : ks[j]? = some k := by rw [← hk]; exact List.getElem?_eq_getElem hlt
      have hts : (ks.take (j + 1)).foldl stepN r = stepN ((ks.take j).foldl stepN r) k := by rw [Mem.take_snoc hkj, List.foldl_append]; rfl
      have hna : Mem.blk A2 ≠ some gm := fun h9 => by
        rcases HP4.out gm h9 with h8 | h8
        · exact HA.out h8
        · have := HZ.out.lt; omega
      have HN := Lib.hid (number_pass (t := t) (n := n) (gm := gm) (k := k) HP1.out hfj (by omega) HP2.out (hij k (HV.out k hkm)) hg hna)
      have HTS := Lib.hid hts
      have HFJ := Lib.hid hfj
      have HIJ := Lib.hid hij
      have HRDj := Lib.hid HPj.out.rd
      clear p1 p2 p3 p4 hcc hk hkm hkj hts hna hfj hij HPj
      go_wp2_with (go_at_call 45; refine HN.out.mono ?_; rintro x9 w2 ⟨rfl, hp⟩; have HPa := Lib.hid (Pass.step HP3.out HP4.out (fun hr => HRDj.out (by rw [stepN_reads] at hr; exact hr)) hp); clear hp)
      go_roundw
      case rel => exact ⟨⟨j + 1, hlt, by go_num, by rw [HTS.out]; exact (show L + 9 * (j + 1) = L + 9 * j + 9 by omega) ▸ stepN_fit HFJ.out k, fun q hq => by rw [HTS.out]; exact stepN_int (HIJ.out q hq), by show Pass _ _ _ _ _ _ _ _; rw [HTS.out]; exact HPa.out⟩⟩
      case measure => simp [intOf]; omega
    · obtain rfl : j = ks.length := by omega
      have HPe := HPj.out
      rw [List.take_length] at HPe
      clear HPj hfj hij
      have HPE := Lib.hid HPe
      clear HPe
      go_wp2
      first | go_end0 | ((try simp only [Exit.inBlock, Exit.then]); refine bodyPost_ret (results_none rfl _ _ _) rfl ?_)
      exact ⟨rfl, HPE.out⟩
end Go.Proofs.Ytkfgedgjpgehoaa
