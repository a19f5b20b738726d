/- What Out's methods write, plain; the walks of truth, text, member, addr, vec. Cells of the right kinds, short texts. -/
import Derived.Test.YtkfgedgjpgehoaaOut0
import Derived.Test.YtkfgedgjpgehoaaAppS
namespace Go.Proofs.Ytkfgedgjpgehoaa
open Go.ChangeShapes Go.WideShapes Go.ChangeAt Go.RowKit
set_option linter.unusedVariables false
set_option linter.unusedSimpArgs false
namespace Wi
def badN (xs : List Value) : Mo → Bool
  | .n k => argM xs (.n k)
  | _ => false
def outL (ops : List Mo) (xs : List Value) (o : Od) : Od := ⟨o.bs ++ encL ops xs, o.bad || ops.any (badN xs)⟩
theorem outL_nil (xs : List Value) (o : Od) : outL [] xs o = o := by simp [outL, encL]
theorem outL_app (a b : List Mo) (xs : List Value) (o : Od) : outL (a ++ b) xs o = outL b xs (outL a xs o) := by simp [outL, encL, List.append_assoc, Bool.or_assoc]
theorem outL_n {xs : List Value} {k : Nat} {v : Int} (h : xs[k]? = some (.int .i64 v)) (o : Od) : outN o v = outL [.n k] xs o := by
  unfold outN outL encL
  by_cases hv : v < 0 ∨ 4611686018427387904 < v
  · simp [encM_n h, badN, argM_n h, hv]
  · simp [encM_n h, badN, argM_n h, hv]
theorem outL_b {xs : List Value} {k : Nat} {b : Bool} (h : xs[k]? = some (.bool b)) (o : Od) : { o with bs := o.bs ++ vb (b2i b).toNat } = outL [.b k] xs o := by
  unfold outL encL
  simp [encM_b h, badN]
theorem outL_t {xs : List Value} {k : Nat} {m : Int} {s : ByteArray} (h : xs[k]? = some (.string s)) (o : Od) : { o with bs := o.bs ++ (vb s.size ++ s.data.toList) } = outL [.t k m] xs o := by
  unfold outL encL
  simp [encM_t h, badN]
theorem encM_len {xs : List Value} (hs : Sm xs) (op : Mo) : (encM xs op).length ≤ 100009 := by
  cases op with
  | n k =>
    by_cases hv : ∃ v, xs[k]? = some (.int .i64 v)
    · obtain ⟨v, hv⟩ := hv
      rw [encM_n hv]
      split
      · exact Nat.zero_le _
      · exact Nat.le_trans (vb_len 8 _ (by omega)) (by omega)
    · simp only [encM]
      split
      · exact absurd ⟨_, ‹_›⟩ hv
      · exact Nat.zero_le _
  | b k =>
    by_cases hv : ∃ v, xs[k]? = some (.bool v)
    · obtain ⟨b, hv⟩ := hv
      rw [encM_b hv]
      exact Nat.le_trans (vb_len 0 _ (by cases b <;> decide)) (by omega)
    · simp only [encM]
      split
      · exact absurd ⟨_, ‹_›⟩ hv
      · exact Nat.zero_le _
  | t k m =>
    by_cases hv : ∃ v, xs[k]? = some (.string v)
    · obtain ⟨s, hv⟩ := hv
      rw [encM_t hv]
      have h1 := hs k s hv
      have h2 := vb_len 8 s.size (by omega)
      have hsl : s.data.toList.length = s.size := by rw [Array.length_toList]; rfl
      rw [List.length_append, hsl]; omega
    · simp only [encM]
      split
      · exact absurd ⟨_, ‹_›⟩ hv
      · exact Nat.zero_le _
  | k k lo hi => exact Nat.zero_le _
theorem outL_len {xs : List Value} (hs : Sm xs) (o : Od) : ∀ ops : List Mo, (outL ops xs o).bs.length ≤ o.bs.length + 100009 * ops.length
  | [] => by simp [outL, encL]
  | op :: ops => by
    have h1 := encM_len hs op
    have h2 := outL_len hs o ops
    unfold outL encL at h2 ⊢
    rw [List.length_append] at h2 ⊢
    rw [List.flatMap_cons, List.length_append, List.length_cons]
    omega
/-! a part of the cells -/
def keyN : Mo → Nat
  | .n k => k
  | .b k => k
  | .t k _ => k
  | .k k _ _ => k
def shM (off : Nat) : Mo → Mo
  | .n k => .n (off + k)
  | .b k => .b (off + k)
  | .t k m => .t (off + k) m
  | .k k lo hi => .k (off + k) lo hi
theorem part_get {xs : List Value} {off n k : Nat} (h : k < n) : ((xs.drop off).take n)[k]? = xs[off + k]? := by
  rw [List.getElem?_take_of_lt h, List.getElem?_drop]
theorem encM_sh {xs : List Value} {off n : Nat} {op : Mo} (h : keyN op < n) : encM xs (shM off op) = encM ((xs.drop off).take n) op ∧ badN xs (shM off op) = badN ((xs.drop off).take n) op := by
  cases op with
  | n k => have hk : k < n := h; constructor <;> simp only [shM, encM, badN, argM, part_get hk]
  | b k => have hk : k < n := h; constructor <;> simp only [shM, encM, badN, argM, part_get hk]
  | t k m => have hk : k < n := h; constructor <;> simp only [shM, encM, badN, argM, part_get hk]
  | k k lo hi => have hk : k < n := h; constructor <;> simp only [shM, encM, badN, argM, part_get hk]
theorem outL_sh {xs : List Value} {off n : Nat} : ∀ {ops : List Mo} (o : Od), (ops.all fun op => decide (keyN op < n)) = true → outL (ops.map (shM off)) xs o = outL ops ((xs.drop off).take n) o
  | [], o, _ => by simp [outL_nil]
  | op :: ops, o, h => by
    rw [List.all_cons, Bool.and_eq_true] at h
    have h1 := encM_sh (xs := xs) (off := off) (op := op) (n := n) (by simpa using h.1)
    have e : ∀ (p : Mo) (l : List Mo) (z : List Value), outL (p :: l) z o = outL l z (outL [p] z o) := fun p l z => outL_app [p] l z o
    have e1 : outL [shM off op] xs o = outL [op] ((xs.drop off).take n) o := by unfold outL encL; simp [h1.1, h1.2]
    rw [List.map_cons, e (shM off op) (ops.map (shM off)) xs, e op ops ((xs.drop off).take n), e1]
    exact outL_sh (ops := ops) _ h.2
theorem sm_part {xs : List Value} (h : Sm xs) (off n : Nat) : Sm ((xs.drop off).take n) := fun k s hk => by
  by_cases hn : k < n
  · rw [part_get hn] at hk; exact h _ s hk
  · rw [List.getElem?_take, if_neg hn] at hk; cases hk
end Wi
open Wi in
set_option maxRecDepth 8000 in
set_option maxHeartbeats 4000000 in
theorem oTruth_any {wr : World} {g : Nat} {A : Option Addr} {cap : Nat} {o : Wi.Od} (b : Bool) (h : Wi.OAt wr g A cap o) (hb : o.bs.length ≤ 1000000000) :
    Calls Try.prog 49 #[.pointer (some ⟨g, 0, none⟩), .bool b] wr (Wi.OEnd wr g A { o with bs := o.bs ++ Wi.vb (Wi.b2i b).toNat }) := by
  have HC := Lib.hid h
  have yf := h.B.fr
  obtain ⟨cap0, hcap0⟩ : ∃ n, o.bs.length = n := ⟨_, rfl⟩
  have HL0 := Lib.hid hcap0
  rw [hcap0] at hb
  clear h hcap0
  cases b
  · rw [show vb (b2i false).toNat = [(0 : UInt8)] from by rw [show (b2i false).toNat = 0 from rfl, vb_lo (by omega)]; rfl]
    go_enter Try.func49, Try.ntmps49
    have x0 : wr.cell? ⟨g, 0, none⟩ = some (.slice A cap0 cap) := by rw [← HL0.out]; exact HC.out.B.cell (j := 0) rfl
    have HRD : Hid (Mem.Rd (wr.alloc (.cells #[.int .u8 0] 5)) (wr.heap.size + 1) (some ⟨wr.heap.size, 0, none⟩) [Mem.byteV 0]) := Mem.Rd.alloc_new wr #[.int .u8 0] 5 (0, 0) rfl
    have HKA : Hid (Mem.Keeps (fun _ => False) wr (wr.alloc (.cells #[.int .u8 0] 5))) := (Mem.Keeps.refl (fun _ => False) wr).alloc (.cells #[.int .u8 0] 5)
    have hO9 : Mem.Own (wr.alloc (.cells #[.int .u8 0] 5)) 5 1 A o.bs.length cap (o.bs.map Mem.byteV) := HC.out.O.keeps HKA.out (fun _ _ h => h)
    rw [HL0.out] at hO9
    have HO9 := Lib.hid hO9
    have hone : ∀ u ∈ [Mem.byteV 0], u.oneCell' = true := by simp [Value.oneCell']
    clear hO9
    go_wp2_with (at_builtin; refine Mem.wpList_app _ rfl (.tmp 18) (.tmp 19) _ rfl bytes_elem A cap0 cap (o.bs.map Mem.byteV) rfl (wr.heap.size + 1) (some ⟨wr.heap.size, 0, none⟩) 1 1 [Mem.byteV 0] rfl ?_ HO9.out HRD.out rfl hone (by unfold maxLen; omega) (by omega); intro A3 cap3 w2 hown hgr hat; have hpp := OP.app HC.out (Mem.Keeps.refl _ wr) (fun q h => .inl h) HKA.out hgr hat [0] (cap0 + 1) (by rw [HL0.out]; rfl) hown; have HPP := Lib.hid hpp; have hk2 : Mem.Keeps (fun y => Mem.blk A = some y) wr w2 := (HKA.out.mono (fun q h _ => h.elim)).grown hgr (fun k hk _ => hk); have hB2 := HC.out.B.keeps hk2 (fun h9 => HC.out.ne g h9 rfl); have y0 := hB2.cell (j := 0) rfl; have yf2 := hB2.fr; clear hown hgr hat hpp hk2 hB2)
    first | go_end0 | ((try simp only [Exit.inBlock, Exit.then]); refine bodyPost_ret (results_none rfl _ _ _) rfl ?_)
    obtain ⟨hA6, hK5, hQ5⟩ := HPP.out
    exact ⟨rfl, A3, cap3, hA6, hK5, hQ5⟩
  · rw [show vb (b2i true).toNat = [(1 : UInt8)] from by rw [show (b2i true).toNat = 1 from rfl, vb_lo (by omega)]; rfl]
    go_enter Try.func49, Try.ntmps49
    have x0 : wr.cell? ⟨g, 0, none⟩ = some (.slice A cap0 cap) := by rw [← HL0.out]; exact HC.out.B.cell (j := 0) rfl
    have HRD : Hid (Mem.Rd (wr.alloc (.cells #[.int .u8 1] 5)) (wr.heap.size + 1) (some ⟨wr.heap.size, 0, none⟩) [Mem.byteV 1]) := Mem.Rd.alloc_new wr #[.int .u8 1] 5 (0, 0) rfl
    have HKA : Hid (Mem.Keeps (fun _ => False) wr (wr.alloc (.cells #[.int .u8 1] 5))) := (Mem.Keeps.refl (fun _ => False) wr).alloc (.cells #[.int .u8 1] 5)
    have hO9 : Mem.Own (wr.alloc (.cells #[.int .u8 1] 5)) 5 1 A o.bs.length cap (o.bs.map Mem.byteV) := HC.out.O.keeps HKA.out (fun _ _ h => h)
    rw [HL0.out] at hO9
    have HO9 := Lib.hid hO9
    have hone : ∀ u ∈ [Mem.byteV 1], u.oneCell' = true := by simp [Value.oneCell']
    clear hO9
    go_wp2_with (at_builtin; refine Mem.wpList_app _ rfl (.tmp 9) (.tmp 10) _ rfl bytes_elem A cap0 cap (o.bs.map Mem.byteV) rfl (wr.heap.size + 1) (some ⟨wr.heap.size, 0, none⟩) 1 1 [Mem.byteV 1] rfl ?_ HO9.out HRD.out rfl hone (by unfold maxLen; omega) (by omega); intro A3 cap3 w2 hown hgr hat; have hpp := OP.app HC.out (Mem.Keeps.refl _ wr) (fun q h => .inl h) HKA.out hgr hat [1] (cap0 + 1) (by rw [HL0.out]; rfl) hown; have HPP := Lib.hid hpp; have hk2 : Mem.Keeps (fun y => Mem.blk A = some y) wr w2 := (HKA.out.mono (fun q h _ => h.elim)).grown hgr (fun k hk _ => hk); have hB2 := HC.out.B.keeps hk2 (fun h9 => HC.out.ne g h9 rfl); have y0 := hB2.cell (j := 0) rfl; have yf2 := hB2.fr; clear hown hgr hat hpp hk2 hB2)
    first | go_end0 | ((try simp only [Exit.inBlock, Exit.then]); refine bodyPost_ret (results_none rfl _ _ _) rfl ?_)
    obtain ⟨hA6, hK5, hQ5⟩ := HPP.out
    exact ⟨rfl, A3, cap3, hA6, hK5, hQ5⟩
open Wi in
set_option maxRecDepth 8000 in
set_option maxHeartbeats 4000000 in
theorem oText_any {w : World} {g : Nat} {A : Option Addr} {cap : Nat} {o : Wi.Od} (s : ByteArray) (hs : s.size ≤ 100000) (h : Wi.OAt w g A cap o) (hb : o.bs.length ≤ 900000000) :
    Calls Try.prog 48 #[.pointer (some ⟨g, 0, none⟩), .string s] w (Wi.OEnd w g A { o with bs := o.bs ++ (Wi.vb s.size ++ s.data.toList) }) := by
  have HN := Lib.hid (oNumber_any (s.size : Int) h (by omega))
  have ho : outN o (s.size : Int) = { o with bs := o.bs ++ vb s.size } := by unfold outN; rw [if_neg (by omega), Int.toNat_natCast]
  rw [ho] at HN
  have h9 := vb_9 (n := s.size) (by omega)
  obtain ⟨o1, ho1⟩ : ∃ o1 : Od, { o with bs := o.bs ++ vb s.size } = o1 := ⟨_, rfl⟩
  have he : { o with bs := o.bs ++ (vb s.size ++ s.data.toList) } = { o1 with bs := o1.bs ++ s.data.toList } := by rw [← ho1]; simp
  rw [he]
  have hb1 : o1.bs.length ≤ 900000009 := by rw [← ho1]; show (o.bs ++ vb s.size).length ≤ _; rw [List.length_append]; omega
  rw [ho1] at HN
  clear h ho ho1 he h9 hb
  go_enter Try.func48, Try.ntmps48
  go_upto_region 1 with (go_at_call 27; refine HN.out.mono ?_; rintro x1 w1 ⟨rfl, hp⟩; have HP := Lib.hid hp; clear hp HN)
  obtain ⟨A1, cap1, hA1, hK1, hQ1⟩ := HP.out.out
  have HC := Lib.hid hA1
  have HK1 := Lib.hid hK1
  have HQ1 := Lib.hid hQ1
  have yf := hA1.B.fr
  obtain ⟨n0, hn0⟩ : ∃ n, o1.bs.length = n := ⟨_, rfl⟩
  have HL0 := Lib.hid hn0
  rw [hn0] at hb1
  have x0 : w1.cell? ⟨g, 0, none⟩ = some (.slice A1 n0 cap1) := by rw [← hn0]; exact hA1.B.cell (j := 0) rfl
  have hO9 : Mem.Own w1 5 1 A1 n0 cap1 (o1.bs.map Mem.byteV) := by rw [← hn0]; exact hA1.O
  have HO9 := Lib.hid hO9
  clear hA1 hK1 hQ1 hn0 hO9 HP
  go_wp2_with (at_builtin; refine Mem.wpList_appS _ rfl (.tmp 12) (.tmp 13) _ _ rfl bytes_elem string_under A1 n0 cap1 (o1.bs.map Mem.byteV) rfl s rfl ?_ HO9.out (by unfold maxLen; omega) (by omega); intro A3 cap3 w2 hown hgr hat; have hpp := OP.app HC.out HK1.out HQ1.out (Mem.Keeps.refl (fun _ => False) w1) hgr hat s.data.toList (n0 + s.size) (by rw [HL0.out, Array.length_toList]; rfl) hown; have HPP := Lib.hid hpp; have hk2 : Mem.Keeps (fun y => Mem.blk A1 = some y) w1 w2 := (Mem.Keeps.refl _ w1).grown hgr (fun k hk _ => hk); have hB2 := HC.out.B.keeps hk2 (fun h9 => HC.out.ne g h9 rfl); have y0 := hB2.cell (j := 0) rfl; have yf2 := hB2.fr; clear hown hgr hat hpp hk2 hB2)
  first | go_end0 | ((try simp only [Exit.inBlock, Exit.then]); refine bodyPost_ret (results_none rfl _ _ _) rfl ?_)
  obtain ⟨hA6, hK5, hQ5⟩ := HPP.out
  exact ⟨rfl, A3, cap3, hA6, hK5, hQ5⟩
end Go.Proofs.Ytkfgedgjpgehoaa
