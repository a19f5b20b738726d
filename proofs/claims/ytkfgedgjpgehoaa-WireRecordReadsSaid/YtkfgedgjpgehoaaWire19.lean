/- What reading answers, plain; what reading keeps. -/
import Derived.Test.YtkfgedgjpgehoaaWire18
namespace Go.Proofs.Ytkfgedgjpgehoaa
open Go.ChangeShapes Go.WideShapes Go.ChangeAt Go.RowKit
set_option linter.unusedVariables false
set_option linter.unusedSimpArgs false
namespace Wi
def zeroR : List Value := [.int .i64 0, .int .i64 0, .int .i64 0, .int .i64 0, .int .i64 0, .int .i64 0, .int .i64 0, .string ⟨#[]⟩, .string ⟨#[]⟩, .bool false, .int .i64 0, .int .i64 0, .int .i64 0, .int .i64 0, .int .i64 0, .int .i64 0, .int .i64 0, .int .i64 0, .int .i64 0, .int .i64 0, .int .i64 0, .int .i64 0, .int .i64 0, .int .i64 0, .int .i64 0, .int .i64 0, .int .i64 0, .int .i64 0, .int .i64 0, .int .i64 0, .int .i64 0, .bool false, .int .i64 0, .int .i64 0, .int .i64 0]
def zeroM : List Value := [.int .i64 0, .int .i64 0, .int .i64 0, .int .i64 0, .int .i64 0, .int .i64 0, .int .i64 0, .int .i64 0, .int .i64 0, .int .i64 0, .int .i64 0, .int .i64 0, .int .i64 0, .int .i64 0, .int .i64 0, .int .i64 0, .int .i64 0, .int .i64 0, .int .i64 0, .int .i64 0, .int .i64 0, .int .i64 0, .int .i64 0, .int .i64 0, .bool false, .int .i64 0, .int .i64 0, .int .i64 0, .int .i64 0, .int .i64 0, .int .i64 0, .int .i64 0, .int .i64 0, .string ⟨#[]⟩, .string ⟨#[]⟩, .bool false, .int .i64 0, .int .i64 0, .int .i64 0, .int .i64 0, .int .i64 0, .int .i64 0, .int .i64 0, .int .i64 0, .int .i64 0, .int .i64 0, .int .i64 0, .bool false, .string ⟨#[]⟩, .string ⟨#[]⟩, .bool false, .bool false, .int .i64 0, .int .i64 0, .int .i64 0, .int .i64 0, .int .i64 0, .int .i64 0, .int .i64 0, .int .i64 0, .int .i64 0, .int .i64 0, .int .i64 0, .int .i64 0, .int .i64 0, .int .i64 0, .int .i64 0, .int .i64 0, .int .i64 0, .int .i64 0, .int .i64 0, .int .i64 0, .int .i64 0, .int .i64 0]
theorem zeroR_recZ : zeroR = recZ 0 := rfl
theorem zeroR_ok : Cells.Ok recK zeroR := by simp [recK, entryK, chainKd, zeroR, Cells.Ok, Cells.ok]
theorem zeroM_ok : Cells.Ok msgK zeroM := by simp [msgK, entryK, chainKd, zeroM, Cells.Ok, Cells.ok]
/-- a coder that reads -/
def rdC (bs : List UInt8) : Cd := ⟨bs, 0, true, false, false, false⟩
def Sh (M : Nat) (zs : List Value) : Prop := ∀ (k : Nat) (s : ByteArray), zs[k]? = some (.string s) → s.size ≤ M
theorem Sh.set {M k : Nat} {zs : List Value} {v : Value} (h : Sh M zs) (hv : ∀ s, v = .string s → s.size ≤ M) : Sh M (zs.set k v) := fun j s hj => by
  by_cases hkj : k = j
  · subst hkj
    by_cases hl : k < zs.length
    · rw [List.getElem?_set_self hl] at hj
      exact hv s (by simpa using hj)
    · rw [List.set_eq_of_length_le (by omega)] at hj
      exact h k s hj
  · rw [List.getElem?_set_ne hkj] at hj
    exact h j s hj
theorem strB_le (bs : List UInt8) (p n : Nat) : (strB (Mem.sub bs p n)).size ≤ bs.length := by
  show (Mem.sub bs p n).toArray.size ≤ _
  rw [List.size_toArray]
  unfold Mem.sub
  rw [List.length_take, List.length_drop]
  omega
theorem readTxt_bs (c : Cd) : (readTxt c).1.bs = c.bs ∧ (readTxt c).2.size ≤ c.bs.length := by
  unfold readTxt
  have h := (takeC_same c).1
  split
  · exact ⟨h, by rw [← h]; exact strB_le _ _ _⟩
  · exact ⟨h, by rw [← h]; exact strB_le _ _ _⟩
theorem stepM_rd {r : Cd × List Value} {M : Nat} (hr : r.1.reads = true) (hM : r.1.bs.length ≤ M) (h : Sh M r.2) (op : Mo) : (stepM r op).1.bs = r.1.bs ∧ Sh M (stepM r op).2 := by
  cases op with
  | n k =>
    show (stepN r k).1.bs = _ ∧ Sh M (stepN r k).2
    unfold stepN
    split
    · refine ⟨?_, h.set (fun s hs => by cases hs)⟩
      show (stepNum _ _).1.bs = _
      unfold stepNum; rw [if_pos hr]; exact (takeC_same _).1
    · exact ⟨rfl, h⟩
  | b k =>
    show (stepB r k).1.bs = _ ∧ Sh M (stepB r k).2
    unfold stepB
    split
    · refine ⟨?_, h.set (fun s hs => by cases hs)⟩
      show (stepNum _ _).1.bs = _
      unfold stepNum; rw [if_pos hr]; exact (takeC_same _).1
    · exact ⟨rfl, h⟩
  | t k m =>
    show (stepTx r k m).1.bs = _ ∧ Sh M (stepTx r k m).2
    unfold stepTx
    split
    · rw [if_pos hr]
      exact ⟨(readTxt_bs _).1, h.set (fun s hs => by cases hs; exact Nat.le_trans (readTxt_bs _).2 hM)⟩
    · exact ⟨rfl, h⟩
  | k k lo hi =>
    show (stepK r k lo hi).1.bs = _ ∧ Sh M (stepK r k lo hi).2
    unfold stepK
    split <;> exact ⟨rfl, h⟩
theorem runM_rd {M : Nat} : ∀ (ops : List Mo) {r : Cd × List Value}, r.1.reads = true → r.1.bs.length ≤ M → Sh M r.2 → (runM ops r).1.bs = r.1.bs ∧ Sh M (runM ops r).2
  | [], r, _, _, h => ⟨rfl, h⟩
  | op :: ops, r, hr, hM, h => by
    have h1 := stepM_rd hr hM h op
    have h2 := runM_rd ops (r := stepM r op) (by rw [stepM_reads]; exact hr) (by rw [h1.1]; exact hM) h1.2
    exact ⟨h2.1.trans h1.1, h2.2⟩
theorem recB_rd {M : Nat} {r : Cd × List Value} (hr : r.1.reads = true) (hM : r.1.bs.length ≤ M) (h : Sh M r.2) : (recB r).1.bs = r.1.bs ∧ Sh M (recB r).2 := by
  unfold recB
  split
  · split
    · exact runM_rd _ hr hM h
    · split
      · exact runM_rd _ hr hM h
      · split <;> exact ⟨rfl, h⟩
  · exact ⟨rfl, h⟩
theorem recF_rd {M : Nat} {r : Cd × List Value} (hr : r.1.reads = true) (hM : r.1.bs.length ≤ M) (h : Sh M r.2) : (recF r).1.bs = r.1.bs ∧ Sh M (recF r).2 := by
  have h1 := stepM_rd hr hM h (.n 0)
  rw [stepM_n] at h1
  have h2 := recB_rd (r := stepN r 0) (by rw [stepN_reads]; exact hr) (by rw [h1.1]; exact hM) h1.2
  exact ⟨h2.1.trans h1.1, h2.2⟩
theorem recF_ok {ks : List Cells.Kd} {r : Cd × List Value} (h : Cells.Ok ks r.2) : Cells.Ok ks (recF r).2 := recB_ok (r := stepN r 0) (stepM_ok h (.n 0))
theorem zero_sh {M : Nat} {zs : List Value} (h : ∀ v ∈ zs, v = .int .i64 0 ∨ v = .bool false ∨ v = .string ⟨#[]⟩) : Sh M zs := fun k s hk => by
  rcases h _ (List.mem_of_getElem? hk) with h | h | h
  · cases h
  · cases h
  · cases h; exact Nat.zero_le _
theorem zeroR_sh (M : Nat) : Sh M zeroR := zero_sh (by simp [zeroR])
theorem zeroM_sh (M : Nat) : Sh M zeroM := zero_sh (by simp [zeroM])
theorem zeroR_one : ∀ y ∈ zeroR, y.oneCell' = true := okL_one zeroR_ok
theorem zeroM_one : ∀ y ∈ zeroM, y.oneCell' = true := okL_one zeroM_ok
def runR (bs : List UInt8) : Cd × List Value := recF (rdC bs, zeroR)
def runMs (bs : List UInt8) : Cd × List Value := runM msgM (rdC bs, zeroM)
def poor (r : Cd × List Value) (n : Nat) : Bool := r.1.bad || r.1.arg || decide (r.1.pos < n)
def readR (bs : List UInt8) : List Value × Nat × Int :=
  if bs = [] then (zeroR, 0, 3) else if bodyC bs ≠ 0 then (zeroR, 0, bodyC bs)
  else if poor (runR (Mem.sub bs 2 (hdN bs))) (hdN bs) = true then (zeroR, 0, 41)
  else if (framedC (recC (runR (Mem.sub bs 2 (hdN bs))).2)).2 = 0 ∧ (framedC (recC (runR (Mem.sub bs 2 (hdN bs))).2)).1 = Mem.sub bs 0 (hdN bs + 6) then ((runR (Mem.sub bs 2 (hdN bs))).2, (framedC (recC (runR (Mem.sub bs 2 (hdN bs))).2)).1.length, 0)
  else (zeroR, 0, 41)
def readM (bs : List UInt8) : List Value × Int :=
  if bodyC bs = 40 then (zeroM, 40) else if bodyC bs ≠ 0 ∨ bs.length ≠ hdN bs + 6 then (zeroM, 41)
  else if poor (runMs (Mem.sub bs 2 (hdN bs))) (hdN bs) = true then (zeroM, 41)
  else if (framedC (msgC (runMs (Mem.sub bs 2 (hdN bs))).2)).2 = 0 ∧ (framedC (msgC (runMs (Mem.sub bs 2 (hdN bs))).2)).1 = bs then ((runMs (Mem.sub bs 2 (hdN bs))).2, 0)
  else (zeroM, 41)
theorem bodyC_cases (bs : List UInt8) : bodyC bs = 0 ∨ bodyC bs = 40 ∨ bodyC bs = 41 := by
  unfold bodyC; split
  · exact .inr (.inl rfl)
  · split
    · exact .inl rfl
    · exact .inr (.inr rfl)
theorem hdN_lt (bs : List UInt8) : hdN bs < 65536 := by
  unfold hdN
  have h0 := (bs[0]?.getD 0).toNat_lt
  have h1 := (bs[1]?.getD 0).toNat_lt
  omega
theorem bodyC_good {bs : List UInt8} (h : bodyC bs = 0) : hdN bs + 6 ≤ bs.length := by
  unfold bodyC at h
  split at h
  · cases h
  · rename_i h1; omega
/-- a body that is good: where it lies -/
theorem bodyV_good {w : World} {B : Nat} {A : Option Addr} {cap : Nat} {bs : List UInt8} (h : bodyC bs = 0) (hR : Mem.Rd w B A (bs.map Mem.byteV)) (hl : bs.length ≤ cap) :
    ∃ b o, A = some ⟨b, o, none⟩ ∧ b < B ∧ bodyV A cap bs = .slice (some ⟨b, o + 2, none⟩) (hdN bs) (cap - 2) ∧ (∀ w', Mem.Rd w' B A (bs.map Mem.byteV) → Mem.Rd w' B (some ⟨b, o + 2, none⟩) ((Mem.sub bs 2 (hdN bs)).map Mem.byteV)) ∧ (Mem.sub bs 2 (hdN bs)).length = hdN bs := by
  have h6 := bodyC_good h
  obtain ⟨b, o, rfl, hb, _⟩ := hR.at (k := 0) (by simp; omega)
  refine ⟨b, o, rfl, hb, ?_, fun w' hR => .inr ⟨b, o + 2, rfl, hb, fun k v hk => ?_⟩, Mem.sub_len (by omega)⟩
  · unfold bodyV Mem.slc
    rw [if_pos h, if_neg (by omega), Nat.add_sub_cancel]
    simp [Mem.add_flat]
  · obtain ⟨hk1, hk2⟩ := List.getElem?_eq_some_iff.1 hk
    rw [List.length_map, Mem.sub_len (by omega)] at hk1
    have h9 := hR.cells0 (k := 2 + k) (by simp; omega)
    rw [Nat.add_assoc, h9, ← hk2]
    simp [Mem.sub]
end Wi
theorem results_agg3 {P : Program} {w : World} {fn : Func} {p u v : Tmp} {t : TypeId} {n g : Nat} {xs : List Value} {tmps : Array Value} (h : fn.results = #[.cell p t, .tmp u, .tmp v]) (hA : Mem.Agg P t n) (hp : tmps.getD p undef = .pointer (some ⟨g, 0, none⟩)) (hb : Mem.Bx w t n g xs) :
    (results fn tmps).run P w = .ok (.tuple #[.agg xs.toArray, tmps.getD u undef, tmps.getD v undef]) w := by
  have hp' : tmps[p]?.getD undef = .pointer (some ⟨g, 0, none⟩) := by simpa using hp
  simp [results, h, hp', asAddr, Mem.run_loadBx hA hb]
theorem msg_agg : Mem.Agg Try.prog 55 74 := Mem.agg_of Try.underlying55 rfl (by kernel_rfl)
@[go_sem] theorem build_rec0 (w : World) : (Instr.build 37 #[]).run Try.prog w = .ok (.agg Wi.zeroR.toArray) w := run_build w _ _ _ (by kernel_rfl)
@[go_sem] theorem build_msg0 (w : World) : (Instr.build 55 #[]).run Try.prog w = .ok (.agg Wi.zeroM.toArray) w := run_build w _ _ _ (by kernel_rfl)
end Go.Proofs.Ytkfgedgjpgehoaa
