/- The walks of the statements on checksums. No conditions. -/
import Derived.Test.YtejojfjbecpofaaCrc2
import Derived.ProofKit
import Derived.OpenShut
namespace Go.Proofs.Ytejojfjbecpofaa
open Go.ChangeShapes Go.WideShapes Go.ChangeAt Go.RowKit
set_option linter.unusedVariables false

namespace Crc
theorem nU_of (a : Int) (h : (Lit.int .u32 a).wf = true) : ∃ x : W32, a = nU x := by
  have hb := bounds_u32 h
  refine ⟨BitVec.ofNat 32 a.toNat, ?_⟩
  unfold nU; rw [BitVec.toNat_ofNat]; omega
theorem low16 (n : Int) : ∃ m : Nat, m ≤ 65535 ∧ bits .and .i64 n 65535 = (m : Int) := by
  refine ⟨(BitVec.ofInt 64 n &&& 65535#64).toNat, ?_, ?_⟩
  · rw [BitVec.toNat_and]; exact Nat.and_le_right
  · show IntKind.i64.wrap ((BitVec.ofInt 64 n &&& BitVec.ofInt 64 65535).toNat : Int) = _
    have h : (BitVec.ofInt 64 n &&& 65535#64).toNat ≤ 65535 := by rw [BitVec.toNat_and]; exact Nat.and_le_right
    rw [show BitVec.ofInt 64 65535 = 65535#64 from rfl, IntKind.wrap_i64]; omega
theorem nU_self (x y : W32) (h : x = y) : (nU x == nU y) = true := by rw [h]; simp
end Crc
theorem bytes_elem : Mem.Elem Try.prog 24 5 1 1 := Mem.elem_of Try.underlying24 (z := .int .u8 0) (by kernel_rfl) rfl (by omega)
/-- numbers that fit bytes, as bytes -/
theorem bytes_of (W : World) (a : Addr) (l c : Nat) (zs : List Int) (hl : l ≤ c) (hm : c ≤ maxLen) (hz : zs.length = c) (hcell : ∀ i, i < zs.length → W.cell? (a.add i) = some (.int .u8 (zs.getD i 0))) (hwz : ∀ n ∈ zs, (Lit.int .u8 n).wf = true) :
    ∃ bs : List UInt8, bs.length = l ∧ Mem.Rd W W.heap.size (some a) (bs.map Mem.byteV) := by
  refine ⟨(zs.take l).map fun z => UInt8.ofNat z.toNat, by simp; omega, ?_⟩
  by_cases h0 : l = 0
  · subst h0; exact .inl rfl
  · obtain ⟨b, off, spot⟩ := a
    have hc0 := hcell 0 (by omega)
    have hspot : spot = none := by simpa [Addr.add] using World.cell?_spot hc0
    subst hspot
    refine .inr ⟨b, off, rfl, by simpa [Addr.add] using World.block_lt_of_cell? W _ hc0, fun j u hu => ?_⟩
    simp only [List.map_map, List.getElem?_map, Option.map_eq_some_iff] at hu
    obtain ⟨z, hz1, rfl⟩ := hu
    rw [List.getElem?_take] at hz1
    split at hz1
    · rename_i hj
      have hj2 : j < zs.length := (List.getElem?_eq_some_iff.1 hz1).1
      have hc := hcell j hj2
      rw [Mem.add_flat] at hc
      rw [hc, List.getD_eq_getElem?_getD, hz1]
      have hb := bounds_u8 (hwz z (List.mem_of_getElem? hz1))
      simp only [Option.getD_some, Function.comp, Mem.byteV, UInt8.toNat_ofNat']
      congr 2
      omega
    · cases hz1
/-- a slice of bytes that came in -/
theorem open_bytes {H : Type} {enc : TypeId × Value → H} {W : World} {base : Nat} {v : Value} {d : DataW H} {p : List MemPlace} (o : Value.okWide Try.prog W .any base 24 v) (k : DataW.Trod enc Try.prog W 0 (fun _ => true) true 24 v d p) :
    ∃ A c, ∃ bs : List UInt8, v = .slice A bs.length c ∧ bs.length ≤ c ∧ c ≤ maxLen ∧ Mem.Rd W W.heap.size A (bs.map Mem.byteV) := by
  obtain ⟨a0, len0, cap0, rfl⟩ := okWide_slice Try.underlying24 o
  obtain ⟨fuel, hf⟩ := k
  rcases open_ints Try.underlying24 Try.underlying5 (by kernel_rfl) hf with ⟨hcs, _⟩ | ⟨x, l, c, zs, hcs, _, hl, hm, hz, _, hcell, hwz⟩
  · simp [Value.cells] at hcs
    obtain ⟨rfl, rfl, rfl⟩ := hcs
    exact ⟨none, 0, [], rfl, by simp, by simp [maxLen], .inl rfl⟩
  · simp [Value.cells] at hcs
    obtain ⟨rfl, rfl, rfl⟩ := hcs
    obtain ⟨bs, h1, h2⟩ := bytes_of W x len0 cap0 zs hl hm (by simpa using hz) hcell hwz
    exact ⟨some x, cap0, bs, by rw [h1], by omega, hm, h2⟩

namespace crcJoinsOpen
set_option maxHeartbeats 400000 in
theorem walk (a b : Crc.W32) (n : Int) (w : World) (hlo : -9223372036854775808 ≤ n) (hhi : n ≤ 9223372036854775807) :
    Calls Try.prog 7 #[Crc.U a, Crc.U b, .int .i64 n] w fun e w' => e = .returned (.bool true) ∧ Below w.heap.size w w' := by
  go_enter Try.func7, Try.ntmps7
  go_wp2_with (first | (go_at_call 10; refine (able_any _).mono ?_; rintro e w1 ⟨rfl, hb⟩) | (go_at_call 15; refine (crcJoin_any _ _ _ _ hlo hhi).mono ?_; rintro e w' ⟨rfl, rfl⟩) | (go_at_call 16; refine (refJoin_any _ _ _ _ hlo hhi).mono ?_; rintro e w' ⟨rfl, rfl⟩))
  go_ret
  exact ⟨rfl, hb⟩
theorem opened {H : Type} (enc : TypeId × Value → H) (W : World) (base : Nat) (v0 v1 v2 : Value) {d0 d1 d2 : DataW H} {p0 p1 p2 : List MemPlace}
    (o0 : Value.okWide Try.prog W .any base 25 v0) (o1 : Value.okWide Try.prog W .any base 25 v1) (o2 : Value.okWide Try.prog W .any base 3 v2)
    (k0 : DataW.Trod enc Try.prog W 0 (fun _ => true) true 25 v0 d0 p0) (k1 : DataW.Trod enc Try.prog W 0 (fun _ => true) true 25 v1 d1 p1) (k2 : DataW.Trod enc Try.prog W 0 (fun _ => true) true 3 v2 d2 p2) :
    Calls Try.prog 7 #[v0, v1, v2] W fun e w' => e = .returned (.bool true) ∧ Below W.heap.size W w' := by
  obtain ⟨a0, rfl, rfl, rfl, w0⟩ := open_int Try.underlying25 o0 k0
  obtain ⟨a1, rfl, rfl, rfl, w1⟩ := open_int Try.underlying25 o1 k1
  obtain ⟨a2, rfl, rfl, rfl, w2⟩ := open_int Try.underlying3 o2 k2
  obtain ⟨x, rfl⟩ := Crc.nU_of a0 w0
  obtain ⟨y, rfl⟩ := Crc.nU_of a1 w1
  have hb := bounds_i64 w2
  exact walk x y a2 W hb.1 hb.2
end crcJoinsOpen
namespace crcMoreOpen
set_option maxHeartbeats 400000 in
theorem walk (x : Crc.W32) (A : Option Addr) (c : Nat) (bs : List UInt8) (w : World) (hc : bs.length ≤ c) (hm : c ≤ maxLen) (hr : Mem.Rd w w.heap.size A (bs.map Mem.byteV)) :
    Calls Try.prog 4 #[Crc.U x, .slice A bs.length c] w fun e w' => e = .returned (.bool true) ∧ Below w.heap.size w w' := by
  have hr0 := Lib.hid hr
  clear hr
  unfold maxLen at hm
  by_cases hb : 100000 < bs.length
  · go_enter Try.func4, Try.ntmps4
    go_wp2_with (go_at_call 10; refine (able_any _).mono ?_; rintro e w1 ⟨rfl, hb1⟩)
    go_ret
    exact ⟨rfl, hb1⟩
  · have hbd : decide ((100000 : Int) < (bs.length : Int)) = false := by simp; omega
    have HS := Lib.hid (show Mem.Rd w w.heap.size A (bs.map Mem.byteV) from hr0.out)
    go_enter Try.func4, Try.ntmps4
    go_wp2_with (first
      | (go_at_call 10; refine (able_any _).mono ?_; rintro e w1 ⟨rfl, hb1⟩)
      | (at_builtin; refine Mem.wpList_app _ rfl (.tmp 12) (.tmp 13) _ rfl bytes_elem (some ⟨w1.heap.size, 0, none⟩) 0 0 [] rfl w.heap.size A bs.length c (bs.map Mem.byteV) rfl ?_ ?o1 ?r1 ?l1 ?c1 ?m1 ?n1; intro A' c' w2 hown hg hat))
    case o1 => exact Mem.Own.lit _ _ _ #[] 0 rfl rfl (by simp [maxLen])
    case r1 => exact (hr0.out.below hb1).alloc hb1.size _
    case l1 => simp
    case c1 => exact Mem.bytes_one bs
    case m1 => unfold maxLen; omega
    case n1 => omega
    refine Calls.mono (crcMore_any x A' c' bs w2.heap.size w2 ?_ (by unfold maxLen; omega)) ?_
    · simpa using hown.rd
    rintro e w3 ⟨rfl, rfl⟩
    go_wp2_with fail
    refine Calls.mono (refMore_any x A c bs w.heap.size w2 ?_ (by unfold maxLen; omega)) ?_
    · exact hr0.out.below ((hb1.alloc hb1.size _).grown hg (by simp; have := hb1.size; omega) (Mem.From.blk (Mem.From.some_ hb1.size)))
    rintro e w3 ⟨rfl, rfl⟩
    go_wp2_with fail
    go_ret
    exact ⟨rfl, (hb1.alloc hb1.size _).grown hg (by simp; have := hb1.size; omega) (Mem.From.blk (Mem.From.some_ hb1.size))⟩
theorem opened {H : Type} (enc : TypeId × Value → H) (W : World) (base : Nat) (v0 v1 : Value) {d0 d1 : DataW H} {p0 p1 : List MemPlace}
    (o0 : Value.okWide Try.prog W .any base 25 v0) (o1 : Value.okWide Try.prog W .any base 24 v1)
    (k0 : DataW.Trod enc Try.prog W 0 (fun _ => true) true 25 v0 d0 p0) (k1 : DataW.Trod enc Try.prog W 0 (fun _ => true) true 24 v1 d1 p1) :
    Calls Try.prog 4 #[v0, v1] W fun e w' => e = .returned (.bool true) ∧ Below W.heap.size W w' := by
  obtain ⟨a0, rfl, rfl, rfl, w0⟩ := open_int Try.underlying25 o0 k0
  obtain ⟨x, rfl⟩ := Crc.nU_of a0 w0
  obtain ⟨A, c, bs, rfl, h1, h2, h3⟩ := open_bytes o1 k1
  exact walk x A c bs W h1 h2 h3
end crcMoreOpen
namespace crcStepsOpen
set_option maxHeartbeats 1000000 in
theorem walk (a b : Crc.W32) (m0 n0 : Int) (w : World) :
    Calls Try.prog 9 #[Crc.U a, Crc.U b, .int .i64 m0, .int .i64 n0] w fun e w' => e = .returned (.bool true) ∧ Below w.heap.size w w' := by
  obtain ⟨m, hm, hme⟩ := Crc.low16 m0
  obtain ⟨n, hn, hne⟩ := Crc.low16 n0
  obtain ⟨z, _, i, hi, hz, hmk⟩ := bytes_elem.make n (by omega) (by omega)
  have hz0 : z = .int .u8 0 := by
    have hk : (Try.prog.info? 5).map (fun i => i.zero) = some (some (.int .u8 0)) := by kernel_rfl
    rw [hi] at hk; simp only [Option.map_some, Option.some.injEq] at hk; rw [hk] at hz; simpa using hz.symm
  subst hz0
  clear hi hz
  have hcells : (madeCells (Value.int .u8 0).cells (n * 1)).toList = (List.replicate n (0 : UInt8)).map Mem.byteV := by
    rw [show (Value.int .u8 0).cells = #[.int .u8 0] from rfl, toList_madeCells_one, List.map_replicate]; simp [Mem.byteV]
  have HC := Lib.hid hcells
  clear hcells
  generalize madeCells (Value.int .u8 0).cells (n * 1) = cells at *
  have j0 := Crc.join_zero a b 0 (by omega)
  have j1 := Crc.join_zero a b (-(m : Int)) (by omega)
  have hs0 : ∀ x : Crc.W32, (Crc.nU x == Crc.nU x) = true := fun x => Crc.nU_self x x rfl
  rcases Nat.eq_zero_or_pos m with h0 | h0
  · have hm0 : ((m : Int) == 0) = true := by rw [beq_iff_eq]; omega
    clear h0
    go_enter Try.func9, Try.ntmps9
    go_wp2_with (first
      | (go_at_call 10; refine (able_any _).mono ?_; rintro e w1 ⟨rfl, hb1⟩))
    refine Calls.mono (crcSum_one _ _ ?s1 _ _ _ (List.replicate n 0) ?r1 (by simp [maxLen]; omega) (by simp)) ?_
    case s1 => simp
    case r1 => have h := Mem.Rd.alloc_new w1 cells 5 (0, 0) rfl; rw [HC.out] at h; exact h
    rintro e w2 ⟨rfl, rfl⟩
    go_wp2_with (go_at_call 15; refine (crcJoin_any _ _ _ _ (by omega) (by omega)).mono ?_; rintro e w' ⟨rfl, rfl⟩)
    go_ret
    exact ⟨rfl, (hb1.alloc hb1.size _).alloc (by have := hb1.size; simp; omega) _⟩
  · rcases Nat.eq_zero_or_pos n with h1 | h1
    · have hm0 : ((m : Int) == 0) = false := by rw [beq_eq_false_iff_ne]; omega
      have hn0 : ((n : Int) == 0) = true := by rw [beq_iff_eq]; omega
      clear h1
      go_enter Try.func9, Try.ntmps9
      go_wp2_with (first
        | (go_at_call 10; refine (able_any _).mono ?_; rintro e w1 ⟨rfl, hb1⟩))
      refine Calls.mono (crcSum_one _ _ ?s1 _ _ _ (List.replicate n 0) ?r1 (by simp [maxLen]; omega) (by simp)) ?_
      case s1 => simp
      case r1 => have h := Mem.Rd.alloc_new w1 cells 5 (0, 0) rfl; rw [HC.out] at h; exact h
      rintro e w2 ⟨rfl, rfl⟩
      go_wp2_with (go_at_call 15; refine (crcJoin_any _ _ _ _ (by omega) (by omega)).mono ?_; rintro e w' ⟨rfl, rfl⟩)
      go_ret
      exact ⟨rfl, (hb1.alloc hb1.size _).alloc (by have := hb1.size; simp; omega) _⟩
    · have hm0 : ((m : Int) == 0) = false := by rw [beq_eq_false_iff_ne]; omega
      have hn0 : ((n : Int) == 0) = false := by rw [beq_eq_false_iff_ne]; omega
      have hjj := Crc.nU_self _ _ (Crc.join_join a b (Crc.more 0#32 (List.replicate n 0)) m n (by omega) (by omega))
      go_enter Try.func9, Try.ntmps9
      go_wp2_with (first
        | (go_at_call 10; refine (able_any _).mono ?_; rintro e w1 ⟨rfl, hb1⟩))
      refine Calls.mono (crcSum_one _ _ ?s1 _ _ _ (List.replicate n 0) ?r1 (by simp [maxLen]; omega) (by simp)) ?_
      case s1 => simp
      case r1 => have h := Mem.Rd.alloc_new w1 cells 5 (0, 0) rfl; rw [HC.out] at h; exact h
      rintro e w2 ⟨rfl, rfl⟩
      go_wp2_with (go_at_call 15; refine (crcJoin_any _ _ _ _ (by omega) (by omega)).mono ?_; rintro e w' ⟨rfl, rfl⟩)
      go_ret
      exact ⟨rfl, (hb1.alloc hb1.size _).alloc (by have := hb1.size; simp; omega) _⟩
theorem opened {H : Type} (enc : TypeId × Value → H) (W : World) (base : Nat) (v0 v1 v2 v3 : Value) {d0 d1 d2 d3 : DataW H} {p0 p1 p2 p3 : List MemPlace}
    (o0 : Value.okWide Try.prog W .any base 25 v0) (o1 : Value.okWide Try.prog W .any base 25 v1) (o2 : Value.okWide Try.prog W .any base 3 v2) (o3 : Value.okWide Try.prog W .any base 3 v3)
    (k0 : DataW.Trod enc Try.prog W 0 (fun _ => true) true 25 v0 d0 p0) (k1 : DataW.Trod enc Try.prog W 0 (fun _ => true) true 25 v1 d1 p1) (k2 : DataW.Trod enc Try.prog W 0 (fun _ => true) true 3 v2 d2 p2) (k3 : DataW.Trod enc Try.prog W 0 (fun _ => true) true 3 v3 d3 p3) :
    Calls Try.prog 9 #[v0, v1, v2, v3] W fun e w' => e = .returned (.bool true) ∧ Below W.heap.size W w' := by
  obtain ⟨a0, rfl, rfl, rfl, w0⟩ := open_int Try.underlying25 o0 k0
  obtain ⟨a1, rfl, rfl, rfl, w1⟩ := open_int Try.underlying25 o1 k1
  obtain ⟨a2, rfl, rfl, rfl, w2⟩ := open_int Try.underlying3 o2 k2
  obtain ⟨a3, rfl, rfl, rfl, w3⟩ := open_int Try.underlying3 o3 k3
  obtain ⟨x, rfl⟩ := Crc.nU_of a0 w0
  obtain ⟨y, rfl⟩ := Crc.nU_of a1 w1
  exact walk x y a2 a3 W
end crcStepsOpen

namespace crcBothOpen
set_option maxHeartbeats 1000000 in
theorem walk (A1 A2 A3 : Option Addr) (c1 c2 c3 : Nat) (l1 l2 l3 : List UInt8) (w : World) (h1 : l1.length ≤ 100000) (h2 : l2.length ≤ 100000) (h3 : l3.length ≤ 100000)
    (r1 : Mem.Rd w w.heap.size A1 (l1.map Mem.byteV)) (r2 : Mem.Rd w w.heap.size A2 (l2.map Mem.byteV)) (r3 : Mem.Rd w w.heap.size A3 (l3.map Mem.byteV)) :
    Calls Try.prog 8 #[.slice A1 l1.length c1, .slice A2 l2.length c2, .slice A3 l3.length c3] w fun e w' => e = .returned (.bool true) ∧ Below w.heap.size w w' := by
  have R1 := Lib.hid r1
  have R2 := Lib.hid r2
  have R3 := Lib.hid r3
  clear r1 r2 r3
  have g1 : decide ((100000 : Int) < (l1.length : Int)) = false := by simp; omega
  have g2 : decide ((100000 : Int) < (l2.length : Int)) = false := by simp; omega
  have g3 : decide ((100000 : Int) < (l3.length : Int)) = false := by simp; omega
  have e1 := Crc.nU_self _ _ (Crc.join_more l1 l2)
  have e2 := Crc.nU_self _ _ (show Crc.join (Crc.join (Crc.more 0#32 l1) (Crc.more 0#32 l2) l2.length) (Crc.more 0#32 l3) l3.length = Crc.more 0#32 (l1 ++ (l2 ++ l3)) by rw [Crc.join_more, Crc.join_more, List.append_assoc])
  have e3 := Crc.nU_self _ _ (show Crc.join (Crc.more 0#32 l1) (Crc.join (Crc.more 0#32 l2) (Crc.more 0#32 l3) l3.length) ((l2.length : Int) + (l3.length : Int)) = Crc.more 0#32 (l1 ++ (l2 ++ l3)) by
    rw [Crc.join_more]; have h := Crc.join_more l1 (l2 ++ l3); rw [List.length_append] at h; rw [← h]; rfl)
  go_enter Try.func8, Try.ntmps8
  go_wp2_with (first
    | (go_at_call 10; refine (able_any _).mono ?_; rintro e w1 ⟨rfl, hb1⟩)
    | (at_builtin; refine Mem.wpList_clone _ rfl (.tmp 28) (.tmp 29) _ rfl bytes_elem w1.heap.size rfl w w.heap.size A1 l1.length c1 (l1.map Mem.byteV) rfl ?_ rfl hb1 hb1.size R1.out (by simp) (Mem.bytes_one _) (by unfold maxLen; omega) (by omega); intro B1 d1 w2 hown1 hb2 hs2 hf2))
  refine Calls.mono (crcSum_one w2 _ rfl B1 d1 _ l1 hown1.rd (by unfold maxLen; omega) rfl) ?_
  rintro e w3 ⟨rfl, rfl⟩
  go_wp2_with (at_builtin; refine Mem.wpList_clone _ rfl (.tmp 33) (.tmp 34) _ rfl bytes_elem (w2.heap.size + 1) rfl w w.heap.size A2 l2.length c2 (l2.map Mem.byteV) rfl ?_ (by simp) (hb2.alloc hb2.size _) (by have := hb2.size; omega) R2.out (by simp) (Mem.bytes_one _) (by unfold maxLen; omega) (by omega); intro B2 d2 w3 hown2 hb3 hs3 hf3)
  refine Calls.mono (crcSum_one w3 _ rfl B2 d2 _ l2 hown2.rd (by unfold maxLen; omega) rfl) ?_
  rintro e w4 ⟨rfl, rfl⟩
  go_wp2_with (at_builtin; refine Mem.wpList_clone _ rfl (.tmp 38) (.tmp 39) _ rfl bytes_elem (w3.heap.size + 1) rfl w w.heap.size A3 l3.length c3 (l3.map Mem.byteV) rfl ?_ (by simp) (hb3.alloc hb3.size _) (by have := hb3.size; omega) R3.out (by simp) (Mem.bytes_one _) (by unfold maxLen; omega) (by omega); intro B3 d3 w4 hown3 hb4 hs4 hf4)
  refine Calls.mono (crcSum_one w4 _ rfl B3 d3 _ l3 hown3.rd (by unfold maxLen; omega) rfl) ?_
  rintro e w5 ⟨rfl, rfl⟩
  clear hown1 hown2 hown3 hf2 hf3 hf4 hb1 hb2 hb3 hs2 hs3 hs4
  go_wp2_with (first
    | (go_at_call 15; refine (crcJoin_any _ _ _ _ (by omega) (by omega)).mono ?_; rintro e w' ⟨rfl, rfl⟩)
    | (at_builtin; refine Mem.wpList_clone _ rfl (.tmp 53) (.tmp 54) _ rfl bytes_elem (w4.heap.size + 1) rfl w w.heap.size A1 l1.length c1 (l1.map Mem.byteV) rfl ?_ (by simp) (hb4.alloc hb4.size _) (by have := hb4.size; omega) R1.out (by simp) (Mem.bytes_one _) (by unfold maxLen; omega) (by omega); intro B5 d5 w5 hown5 hb5 hs5 hf5)
    | (at_builtin; refine Mem.wpList_app w5 rfl (.tmp 55) (.tmp 56) _ rfl bytes_elem B5 l1.length d5 (l1.map Mem.byteV) rfl w.heap.size A2 l2.length c2 (l2.map Mem.byteV) rfl ?_ hown5 (R2.out.below hb5) (by simp) (Mem.bytes_one _) (by unfold maxLen; omega) (by omega); intro B6 d6 w6 hown6 hg6 hat6; have hb6 := hb5.grown hg6 hb5.size (hf5.mono (by have := hb4.size; omega)).blk)
    | (at_builtin; refine Mem.wpList_app w6 rfl (.tmp 57) (.tmp 58) _ rfl bytes_elem B6 (l1.length + l2.length) d6 (l1.map Mem.byteV ++ l2.map Mem.byteV) rfl w.heap.size A3 l3.length c3 (l3.map Mem.byteV) rfl ?_ hown6 (R3.out.below hb6) (by simp) (Mem.bytes_one _) (by unfold maxLen; omega) (by omega); intro B7 d7 w7 hown7 hg7 hat7; have hle7 := hown7.le))
  have hf6 : Mem.From w.heap.size B6 := by
    rcases hat6 with rfl | rfl
    · exact hf5.mono (by have := hb4.size; omega)
    · exact Mem.From.some_ hb5.size
  have hb7 := hb6.grown hg7 hb6.size hf6.blk
  have hrd : Mem.Rd w7 w7.heap.size B7 ((l1 ++ l2 ++ l3).map Mem.byteV) := by rw [List.map_append, List.map_append]; exact hown7.rd
  clear hown5 hown6 hown7 hg6 hg7 hat6 hat7 hf5 hf6 hb5 hb6 hs5 R1 R2 R3
  refine Calls.mono (crcSum_one w7 _ rfl B7 d7 _ (l1 ++ l2) ?q1 (by simp; unfold maxLen; omega) (by simp)) ?_
  case q1 => rw [List.map_append] at hrd; exact hrd.left
  rintro e w8 ⟨rfl, rfl⟩
  have hlen : (l1 ++ l2 ++ l3).length = l1.length + l2.length + l3.length := by simp only [List.length_append]
  by_cases hz : ((l2.length : Int) + (l3.length : Int) == 0) = true
  · have HL := hlen
    clear HL
    go_wp2_with (go_at_call 15; refine (crcJoin_any _ _ _ _ (by omega) (by omega)).mono ?_; rintro e w' ⟨rfl, rfl⟩)
    refine Calls.mono (crcSum_one _ _ ?q2 B7 d7 _ (l1 ++ l2 ++ l3) ?q3 (by rw [hlen]; unfold maxLen; omega) hlen) ?_
    case q2 => simp
    case q3 => exact (hrd.alloc (Nat.le_refl _) _).more (Nat.le_succ _)
    rintro e w8 ⟨rfl, rfl⟩
    go_wp2_with fail
    go_ret
    exact ⟨rfl, (hb7.alloc hb7.size _).alloc (by have := hb7.size; simp; omega) _⟩
  · have hz' : ((l2.length : Int) + (l3.length : Int) == 0) = false := by simpa using hz
    clear hz
    go_wp2_with (go_at_call 15; refine (crcJoin_any _ _ _ _ (by omega) (by omega)).mono ?_; rintro e w' ⟨rfl, rfl⟩)
    refine Calls.mono (crcSum_one _ _ ?q2 B7 d7 _ (l1 ++ l2 ++ l3) ?q3 (by rw [hlen]; unfold maxLen; omega) hlen) ?_
    case q2 => simp
    case q3 => exact (hrd.alloc (Nat.le_refl _) _).more (Nat.le_succ _)
    rintro e w8 ⟨rfl, rfl⟩
    go_wp2_with (go_at_call 15; refine (crcJoin_any _ _ _ _ (by omega) (by omega)).mono ?_; rintro e w' ⟨rfl, rfl⟩)
    refine Calls.mono (crcSum_one _ _ ?q4 B7 d7 _ (l1 ++ l2 ++ l3) ?q5 (by rw [hlen]; unfold maxLen; omega) hlen) ?_
    case q4 => simp
    case q5 => exact ((hrd.alloc (Nat.le_refl _) _).alloc (by simp) _).more (by omega)
    rintro e w8 ⟨rfl, rfl⟩
    go_wp2_with fail
    go_ret
    exact ⟨rfl, ((hb7.alloc hb7.size _).alloc (by have := hb7.size; simp; omega) _).alloc (by have := hb7.size; simp; omega) _⟩
theorem big (A1 A2 A3 : Option Addr) (c1 c2 c3 : Nat) (l1 l2 l3 : List UInt8) (w : World) (h : 100000 < l1.length ∨ 100000 < l2.length ∨ 100000 < l3.length) :
    Calls Try.prog 8 #[.slice A1 l1.length c1, .slice A2 l2.length c2, .slice A3 l3.length c3] w fun e w' => e = .returned (.bool true) ∧ Below w.heap.size w w' := by
  by_cases h1 : 100000 < l1.length
  · have g1 : decide ((100000 : Int) < (l1.length : Int)) = true := by simp; omega
    go_enter Try.func8, Try.ntmps8
    go_wp2_with (go_at_call 10; refine (able_any _).mono ?_; rintro e w1 ⟨rfl, hb1⟩)
    go_ret
    exact ⟨rfl, hb1⟩
  · have g1 : decide ((100000 : Int) < (l1.length : Int)) = false := by simp; omega
    by_cases h2 : 100000 < l2.length
    · have g2 : decide ((100000 : Int) < (l2.length : Int)) = true := by simp; omega
      clear h h1 h2
      go_enter Try.func8, Try.ntmps8
      go_wp2_with (go_at_call 10; refine (able_any _).mono ?_; rintro e w1 ⟨rfl, hb1⟩)
      go_ret
      exact ⟨rfl, hb1⟩
    · have g2 : decide ((100000 : Int) < (l2.length : Int)) = false := by simp; omega
      have g3 : decide ((100000 : Int) < (l3.length : Int)) = true := by simp; omega
      clear h h1 h2
      go_enter Try.func8, Try.ntmps8
      go_wp2_with (go_at_call 10; refine (able_any _).mono ?_; rintro e w1 ⟨rfl, hb1⟩)
      go_ret
      exact ⟨rfl, hb1⟩
theorem opened {H : Type} (enc : TypeId × Value → H) (W : World) (base : Nat) (v0 v1 v2 : Value) {d0 d1 d2 : DataW H} {p0 p1 p2 : List MemPlace}
    (o0 : Value.okWide Try.prog W .any base 24 v0) (o1 : Value.okWide Try.prog W .any base 24 v1) (o2 : Value.okWide Try.prog W .any base 24 v2)
    (k0 : DataW.Trod enc Try.prog W 0 (fun _ => true) true 24 v0 d0 p0) (k1 : DataW.Trod enc Try.prog W 0 (fun _ => true) true 24 v1 d1 p1) (k2 : DataW.Trod enc Try.prog W 0 (fun _ => true) true 24 v2 d2 p2) :
    Calls Try.prog 8 #[v0, v1, v2] W fun e w' => e = .returned (.bool true) ∧ Below W.heap.size W w' := by
  obtain ⟨A1, c1, l1, rfl, _, _, r1⟩ := open_bytes o0 k0
  obtain ⟨A2, c2, l2, rfl, _, _, r2⟩ := open_bytes o1 k1
  obtain ⟨A3, c3, l3, rfl, _, _, r3⟩ := open_bytes o2 k2
  by_cases h : 100000 < l1.length ∨ 100000 < l2.length ∨ 100000 < l3.length
  · exact big A1 A2 A3 c1 c2 c3 l1 l2 l3 W h
  · exact walk A1 A2 A3 c1 c2 c3 l1 l2 l3 W (by omega) (by omega) (by omega) r1 r2 r3
end crcBothOpen
end Go.Proofs.Ytejojfjbecpofaa
