/- Pieces of bytes that came in; what a disk is behind pieces that were appended. Plain. -/
import Derived.Test.YtfpfpdhfnleebaaDisk9
import Derived.Laws.IdiomStrings
namespace Go.Proofs.Ytfpfpdhfnleebaa
open Go.ChangeShapes Go.WideShapes Go.ChangeAt Go.RowKit
set_option linter.unusedVariables false
set_option linter.unusedSimpArgs false
namespace Pcs
/-- a piece: where it lies, its room, its bytes -/
structure T where
  A : Option Addr
  c : Nat
  bs : List UInt8
def cells (p : T) : List Value := [.slice p.A p.bs.length p.c]
def Good (w : World) (B : Nat) (p : T) : Prop := Mem.Rd w B p.A (p.bs.map Mem.byteV) ∧ p.bs.length ≤ p.c ∧ p.c ≤ maxLen
theorem cells_length (p : T) : (cells p).length = 1 := rfl
theorem uint8_bytes : Try.prog.bytesOf 5 = 1 := by kernel_rfl
/-- numbers that fit bytes, as bytes -/
theorem bytes_of (W : World) (a : Addr) (l c : Nat) (zs : List Int) (hl : l ≤ c) (hm : c ≤ maxLen) (hz : zs.length = c) (hcell : ∀ i, i < zs.length → W.cell? (a.add i) = some (.int .u8 (zs.getD i 0))) (hwz : ∀ n ∈ zs, (Lit.int .u8 n).wf = true) :
    ∃ bs : List UInt8, bs.length = l ∧ Mem.Rd W W.heap.size (some a) (bs.map Mem.byteV) := by
  refine ⟨(zs.take l).map fun z => UInt8.ofNat z.toNat, by simp; omega, ?_⟩
  by_cases h0 : l = 0
  · subst h0; exact .inl rfl
  · obtain ⟨b, off, spot⟩ := a
    have hc0 := hcell 0 (by omega)
    have hspot : spot = none := by simpa [Addr.add] using World.cell?_spot hc0
    subst hspot
    refine .inr ⟨b, off, rfl, by simpa [Addr.add] using World.block_lt_of_cell? W _ hc0, fun j u hu => ?_⟩
    simp only [List.map_map, List.getElem?_map, Option.map_eq_some_iff] at hu
    obtain ⟨z, hz1, rfl⟩ := hu
    rw [List.getElem?_take] at hz1
    split at hz1
    · rename_i hj
      have hj2 : j < zs.length := (List.getElem?_eq_some_iff.1 hz1).1
      have hc := hcell j hj2
      rw [Mem.add_flat] at hc
      rw [hc, List.getD_eq_getElem?_getD, hz1]
      have hb := bounds_u8 (hwz z (List.mem_of_getElem? hz1))
      simp only [Option.getD_some, Function.comp, Mem.byteV, UInt8.toNat_ofNat']
      congr 2
      omega
    · cases hz1
section
variable {H : Type} {enc : TypeId × Value → H} {W : World}
/-- bytes that lie in a field or an element -/
theorem trod_bytes {n : Nat} {cs : List Value} {x : DataW H × List MemPlace} (h : DataW.trod enc Try.prog W 0 (fun _ => true) true n 24 cs = some x) (hw : Mem.Sz Try.prog 24 x.1) :
    ∃ p : T, cs = Pcs.cells p ∧ Good W W.heap.size p ∧ p.bs.length ≤ reachBytes := by
  unfold Mem.Sz at hw
  rcases open_ints Try.underlying24 Try.underlying5 (by kernel_rfl) h with ⟨hcs, _⟩ | ⟨a, l, c, zs, hcs, _, hl, hm, hz, hx, hcell, hwz⟩
  · exact ⟨⟨none, 0, []⟩, hcs, ⟨.inl rfl, by simp, by simp [maxLen]⟩, by simp⟩
  · obtain ⟨b, h1, h2⟩ := bytes_of W a l c zs hl hm (by simpa using hz) hcell hwz
    refine ⟨⟨some a, c, b⟩, by rw [hcs]; unfold Pcs.cells; rw [h1], ⟨h2, by simp only; omega, hm⟩, ?_⟩
    rw [hx] at hw
    simp only [DataW.weights, Try.underlying24, List.all_cons, Bool.and_eq_true, decide_eq_true_eq, uint8_bytes, lits, List.length_map, List.length_take, List.length_drop] at hw
    have := hw.1
    simp only at hz ⊢
    simp at hz
    omega
theorem open_parts {base : Nat} {v : Value} {d : DataW H} {p : List MemPlace} (o : Value.okWide Try.prog W .any base 22 v) (k : DataW.Trod enc Try.prog W 0 (fun _ => true) true 22 v d p)
    (hz : (d.weights Try.prog 22).all (· ≤ reachBytes) = true) :
    ∃ A c, ∃ ps : List T, v = .slice A ps.length c ∧ ps.length ≤ c ∧ c * Try.prog.bytesOf 24 ≤ reachBytes ∧ Mem.Rd W W.heap.size A (ps.flatMap cells) ∧ (∀ p ∈ ps, Good W W.heap.size p ∧ p.bs.length ≤ reachBytes) ∧ c ≤ maxLen :=
  Mem.open_slice_sz (α := T) (sz := 1) Try.underlying22 (by kernel_rfl) (by omega) cells cells_length (fun p => Good W W.heap.size p ∧ p.bs.length ≤ reachBytes) (fun n cs x h hl hw => trod_bytes h hw) o k hz
end
theorem at_part {W : World} {B : Nat} {A : Option Addr} {ps : List T} (h : Mem.Rd W B A (ps.flatMap cells)) {k : Nat} (hk : k < ps.length) :
    ∃ b o p, A = some ⟨b, o, none⟩ ∧ b < B ∧ ps[k]? = some p ∧ W.cell? ⟨b, o + k, none⟩ = some (.slice p.A p.bs.length p.c) := by
  obtain ⟨b, o, e, hb, hc⟩ := Mem.Rd.elem cells_length h hk (by omega)
  exact ⟨b, o, ps[k], e, hb, List.getElem?_eq_getElem hk, by simpa [cells] using hc 0 _ rfl⟩
def tot (ps : List T) (k : Nat) : Nat := 20 * ps.length + ((ps.take k).map (·.bs.length)).sum
theorem tot_zero (ps : List T) : tot ps 0 = 20 * ps.length := by simp [tot]
theorem tot_succ {ps : List T} {k : Nat} {p : T} (h : ps[k]? = some p) : tot ps (k + 1) = tot ps k + p.bs.length := by
  unfold tot; rw [Mem.take_snoc h]; simp [Nat.add_assoc]
def flat (ps : List T) (k : Nat) : List UInt8 := ((ps.take k).map (·.bs)).flatten
theorem flat_succ {ps : List T} {k : Nat} {p : T} (h : ps[k]? = some p) : flat ps (k + 1) = flat ps k ++ p.bs := by
  unfold flat; rw [Mem.take_snoc h]; simp
theorem sum_take_le (l : List Nat) (k : Nat) : (l.take k).sum ≤ l.sum := by
  conv => rhs; rw [← List.take_append_drop k l]
  rw [List.sum_append]; omega
theorem flat_le (ps : List T) (k : Nat) : (flat ps k).length + 20 * ps.length ≤ tot ps ps.length := by
  have : (flat ps k).length = ((ps.map (·.bs.length)).take k).sum := by
    unfold flat; rw [List.length_flatten, List.map_map, List.map_take]; rfl
  rw [this]
  unfold tot
  rw [List.take_length]
  have := sum_take_le (ps.map (·.bs.length)) k
  omega
end Pcs
namespace Dk
/-- a disk behind pieces that were appended to one file -/
def pcD (n : Int) (l : List (List UInt8)) : D := if l = [] then ⟨[], []⟩ else ⟨[⟨n, l.flatten, 0⟩], l.map fun b => (n, b.length)⟩
def fits (n : Int) : Prop := 0 ≤ n ∧ n ≤ 1099511627776
theorem app_bad {n : Int} (h : ¬ fits n) (d : D) (bs : List UInt8) : appE d n bs = 50 ∧ appD d n bs = d := by
  have h1 : appE d n bs = 50 := by unfold appE; rw [if_pos (by unfold fits at h; omega)]
  exact ⟨h1, by unfold appD; rw [if_pos (by omega)]⟩
theorem app_good {n : Int} (h : fits n) (l : List (List UInt8)) (bs : List UInt8) (hs : l.flatten.length + bs.length ≤ 1048576) : appE (pcD n l) n bs = 0 ∧ appD (pcD n l) n bs = pcD n (l ++ [bs]) := by
  unfold fits at h
  by_cases hl : l = []
  · subst hl
    have h1 : appE (pcD n []) n bs = 0 := by
      unfold appE pcD
      rw [if_neg (by omega), if_pos rfl, if_neg]
      rintro (⟨_, h2⟩ | h2)
      · simp at h2
      · unfold usedD at h2; simp at h2 hs; omega
    refine ⟨h1, ?_⟩
    unfold appD
    rw [if_neg (by omega)]
    unfold pcD findF
    simp
  · have hfd : findF (pcD n l).fs n = some ⟨n, l.flatten, 0⟩ := by unfold pcD findF; rw [if_neg hl]; simp
    have h1 : appE (pcD n l) n bs = 0 := by
      unfold appE
      rw [if_neg (by omega), if_neg]
      rintro (⟨h2, _⟩ | h2)
      · rw [hfd] at h2; cases h2
      · unfold usedD pcD at h2; rw [if_neg hl] at h2; simp at h2 hs; omega
    refine ⟨h1, ?_⟩
    unfold appD
    rw [if_neg (by omega), hfd]
    unfold pcD updF
    rw [if_neg hl, if_neg (by simp)]
    simp
theorem cr_pieces (n : Int) (F : List UInt8) : ∀ (l : List (List UInt8)) (keep : Int) (lost s : Nat), crFold ⟨keep, lost, [⟨n, F, s⟩]⟩ (l.map fun b => (n, b.length)) = ⟨keep - keptI keep l.flatten.length, lost + (l.flatten.length - keptI keep l.flatten.length), [⟨n, F, s + keptI keep l.flatten.length⟩]⟩
  | [], keep, lost, s => by
    have : keptI keep 0 = 0 := by unfold keptI; omega
    simp [crFold, this]
  | b :: l, keep, lost, s => by
    have h1 : crFold ⟨keep, lost, [⟨n, F, s⟩]⟩ ((b :: l).map fun b => (n, b.length)) = crFold ⟨keep - keptI keep b.length, lost + (b.length - keptI keep b.length), [⟨n, F, s + keptI keep b.length⟩]⟩ (l.map fun b => (n, b.length)) := by
      rw [List.map_cons]
      unfold crFold
      rw [List.foldl_cons]
      congr 1
      unfold crStep updF
      simp
    rw [h1, cr_pieces n F l]
    have hk : ∀ (m : Nat), keptI keep (b.length + m) = keptI keep b.length + keptI (keep - keptI keep b.length) m := fun m => by unfold keptI; omega
    have hl1 := kept_le keep b.length
    have hl2 := kept_le (keep - keptI keep b.length) l.flatten.length
    rw [List.flatten_cons, List.length_append, hk]
    congr 1
    · omega
    · omega
    · rw [Nat.add_assoc]
theorem crash_pieces (n keep : Int) (l : List (List UInt8)) (hl : l ≠ []) : crashD (pcD n l) keep = crashD (pcD n [l.flatten]) keep ∧ crashN (pcD n l) keep = crashN (pcD n [l.flatten]) keep := by
  unfold crashD crashN pcD
  rw [if_neg hl, if_neg (by simp)]
  dsimp only
  rw [cr_pieces, cr_pieces]
  simp
end Dk
end Go.Proofs.Ytfpfpdhfnleebaa
