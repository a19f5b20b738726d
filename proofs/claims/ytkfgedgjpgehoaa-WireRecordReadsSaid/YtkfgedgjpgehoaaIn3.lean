/- The walks of the document's In: member, addr, vec, config, entry. PRINTED by wip/mkin.py. No conditions but the capacity. -/
import Derived.Test.YtkfgedgjpgehoaaIn2
namespace Go.Proofs.Ytkfgedgjpgehoaa
open Go.ChangeShapes Go.WideShapes Go.ChangeAt Go.RowKit
set_option linter.unusedVariables false
set_option linter.unusedSimpArgs false
namespace Wi
theorem ns_snoc (off m : Nat) : ns off (m + 1) = ns off m ++ [.n (off + m)] := by
  unfold ns
  rw [List.range'_concat, List.map_append, Nat.one_mul]; rfl
def noK : Mo → Bool
  | .k _ _ _ => false
  | _ => true
end Wi
theorem mem_agg : Mem.Agg Try.prog 32 2 := Mem.agg_of Try.underlying32 rfl (by kernel_rfl)
theorem addr_agg : Mem.Agg Try.prog 52 4 := Mem.agg_of Try.underlying52 rfl (by kernel_rfl)
theorem vec_agg9 : Mem.Agg Try.prog 28 9 := Mem.agg_of Try.underlying28 rfl (by kernel_rfl)
namespace Wi
def rdI : List Mo → Id → Id × List Value
  | [], i => (i, [])
  | .n _ :: ops, i => ((rdI ops (inNum i).1).1, .int .i64 ((inNum i).2 : Nat) :: (rdI ops (inNum i).1).2)
  | .b _ :: ops, i => ((rdI ops (inTru i).1).1, .bool (inTru i).2 :: (rdI ops (inTru i).1).2)
  | .t _ m :: ops, i => ((rdI ops (inTxt i m.toNat).1).1, .string (inTxt i m.toNat).2 :: (rdI ops (inTxt i m.toNat).1).2)
  | .k _ _ _ :: ops, i => rdI ops i
theorem rdI_app : ∀ (a b : List Mo) (i : Id), rdI (a ++ b) i = ((rdI b (rdI a i).1).1, (rdI a i).2 ++ (rdI b (rdI a i).1).2)
  | [], b, i => rfl
  | .n _ :: a, b, i => by show rdI (_ :: (a ++ b)) i = _; rw [rdI, rdI_app a b]; rfl
  | .b _ :: a, b, i => by show rdI (_ :: (a ++ b)) i = _; rw [rdI, rdI_app a b]; rfl
  | .t _ _ :: a, b, i => by show rdI (_ :: (a ++ b)) i = _; rw [rdI, rdI_app a b]; rfl
  | .k _ _ _ :: a, b, i => by show rdI (_ :: (a ++ b)) i = _; rw [rdI, rdI_app a b]; rfl
def bareM : Mo → Mo
  | .n _ => .n 0
  | .b _ => .b 0
  | .t _ m => .t 0 m
  | .k _ _ _ => .k 0 0 0
theorem rdI_bare : ∀ (ops : List Mo) (i : Id), rdI ops i = rdI ((ops.filter noK).map bareM) i
  | [], i => rfl
  | .n _ :: a, i => by show _ = rdI (.n 0 :: _) i; rw [rdI, rdI, rdI_bare a]
  | .b _ :: a, i => by show _ = rdI (.b 0 :: _) i; rw [rdI, rdI, rdI_bare a]
  | .t _ m :: a, i => by show _ = rdI (.t 0 m :: _) i; rw [rdI, rdI, rdI_bare a]
  | .k _ _ _ :: a, i => by show _ = rdI ((a.filter noK).map bareM) i; rw [rdI, rdI_bare a]
theorem rdI_same {a b : List Mo} (h : (a.filter noK).map bareM = (b.filter noK).map bareM) (i : Id) : rdI a i = rdI b i := by rw [rdI_bare a, h, ← rdI_bare b]
theorem rdI_len : ∀ (ops : List Mo) (i : Id), (rdI ops i).2.length = (ops.filter noK).length
  | [], i => rfl
  | .n _ :: a, i => congrArg (· + 1) (rdI_len a _)
  | .b _ :: a, i => congrArg (· + 1) (rdI_len a _)
  | .t _ m :: a, i => congrArg (· + 1) (rdI_len a _)
  | .k _ _ _ :: a, i => rdI_len a i
theorem rdI_one : ∀ (ops : List Mo) (i : Id), ∀ y ∈ (rdI ops i).2, y.oneCell' = true
  | [], i, y, h => by cases h
  | .n _ :: a, i, y, h => by rcases List.mem_cons.1 h with rfl | h; rfl; exact rdI_one a _ y h
  | .b _ :: a, i, y, h => by rcases List.mem_cons.1 h with rfl | h; rfl; exact rdI_one a _ y h
  | .t _ m :: a, i, y, h => by rcases List.mem_cons.1 h with rfl | h; rfl; exact rdI_one a _ y h
  | .k _ _ _ :: a, i, y, h => rdI_one a i y h
theorem dz_get {ds Z : List Value} {c : Nat} (h : ds.length = c) : (ds ++ Z.drop c)[c]? = Z[c]? := by
  rw [List.getElem?_append_right (by omega), h, Nat.sub_self, List.getElem?_drop, Nat.add_zero]
theorem dz_set {ds Z : List Value} {c : Nat} {v : Value} (h : ds.length = c) (hz : c < Z.length) : (ds ++ Z.drop c).set c v = (ds ++ [v]) ++ Z.drop (c + 1) := by
  rw [List.set_append_right _ _ (by omega), h, Nat.sub_self, List.drop_eq_getElem_cons hz, List.set_cons_zero, List.append_assoc]; rfl
theorem dz_part {ds Z ys : List Value} {c n : Nat} (h : ds.length = c) (hy : ys.length = n) : (ds ++ Z.drop c).take c ++ ys ++ (ds ++ Z.drop c).drop (c + ys.length) = (ds ++ ys) ++ Z.drop (c + n) := by
  rw [List.take_append_of_le_length (by omega), List.take_of_length_le (by omega), List.drop_append, List.drop_eq_nil_of_le (by omega), List.nil_append, List.drop_drop, hy]
  congr 2; omega
theorem dz_all {ds Z : List Value} {c : Nat} (h : ds.length = c) (hz : Z.length = c) : ds ++ Z.drop c = ds := by
  rw [List.drop_eq_nil_of_le (by omega), List.append_nil]
structure IP (w1 : World) (g : Nat) (A : Option Addr) (cap : Nat) (T : TypeId) (n gm : Nat) (i : Id) (zs : List Value) (w : World) : Prop where
  h : IAt w g A cap i
  b : Mem.Bx w T n gm zs
  k : Mem.Keeps (fun q => q = g ∨ q = gm) w1 w
variable {w1 w w' : World} {g cap n gm : Nat} {A : Option Addr} {T : TypeId} {i i2 : Id} {ds Z zs ys : List Value}
theorem IP.call (h : IP w1 g A cap T n gm i zs w) (ha : IAt w' g A cap i2) (hk : Mem.Keeps (fun q => q = g) w w') (hg : gm ≠ g) : IP w1 g A cap T n gm i2 zs w' :=
  ⟨ha, h.b.keeps hk hg, h.k.trans hk (fun q hq _ => .inl hq)⟩
theorem IP.put {c : Nat} {v : Value} (h : IP w1 g A cap T n gm i (ds ++ Z.drop c) w) (hl : ds.length = c) (hz : c < Z.length) (hg : gm ≠ g) (hb : ∀ k, Mem.blk A = some k → k ≠ gm) : IP w1 g A cap T n gm i ((ds ++ [v]) ++ Z.drop (c + 1)) (w.setCell ⟨gm, c, none⟩ v) := by
  have hk : Mem.Keeps (fun q => q = gm) w (w.setCell ⟨gm, c, none⟩ v) := (Mem.Keeps.refl (fun q => q = gm) w).setCell (p := ⟨gm, c, none⟩) (fun _ => rfl) _
  refine ⟨h.h.keeps hk (fun k hq e => ?_), ?_, h.k.trans hk (fun q hq _ => .inr hq)⟩
  · rcases hq with hq | hq
    · exact hg (e.symm.trans hq)
    · exact hb k hq e
  · rw [← dz_set hl hz]; exact h.b.set c v
theorem IP.part {c m : Nat} (h : IP w1 g A cap T n gm i (ds ++ Z.drop c) w) (hl : ds.length = c) (hy : ys.length = m) (hB : Mem.Bx w' T n gm ((ds ++ Z.drop c).take c ++ ys ++ (ds ++ Z.drop c).drop (c + ys.length))) (hk : Mem.Keeps (fun q => q = gm) w w') (hg : gm ≠ g) (hb : ∀ k, Mem.blk A = some k → k ≠ gm) : IP w1 g A cap T n gm i ((ds ++ ys) ++ Z.drop (c + m)) w' := by
  refine ⟨h.h.keeps hk (fun k hq e => ?_), ?_, h.k.trans hk (fun q hq _ => .inr hq)⟩
  · rcases hq with hq | hq
    · exact hg (e.symm.trans hq)
    · exact hb k hq e
  · rw [← dz_part hl hy]; exact hB
theorem IP.ends {w2 wz : World} {B gt : Nat} (hb : Below B w w2) (hk : Mem.Keeps (fun q => q = g ∨ q = gm) w2 w') (hz : Mem.Keeps (fun q => q = gt) w' wz) (hm : B ≤ gm) (ht : B ≤ gt) (hB : B = w.heap.size := by rfl) : Mem.Keeps (fun q => q = g) w wz := by
  subst hB
  have h1 := (Mem.Keeps.of_below hb).mono (T := fun q => q = g ∨ q = gm ∨ q = gt) (fun q h _ => h.elim)
  have h2 := h1.trans hk (fun q hq _ => hq.elim .inl (fun h => .inr (.inl h)))
  have h3 := h2.trans hz (fun q hq _ => .inr (.inr hq))
  exact h3.mono (fun q hq hl => by rcases hq with h | h | h; exact h; omega; omega)
structure RvRel (w2 : World) (g : Nat) (A : Option Addr) (cap : Nat) (T : TypeId) (n gm : Nat) (i : Id) (Z : List Value) (off c : Nat) (wr : World) : Prop where
  out : ∃ (i2 : Id) (ds : List Value), Hid (rdI (ns 0 (off + c)) i = (i2, ds)) ∧ Hid (ds.length = off + c) ∧ Hid (IP w2 g A cap T n gm i2 (ds ++ Z.drop (off + c)) wr)
structure RoRel (w2 : World) (g : Nat) (A : Option Addr) (cap : Nat) (T : TypeId) (n gm : Nat) (i : Id) (Z : List Value) (m b a : Nat) (v : Value) (wr : World) : Prop where
  out : ∃ d : Nat, d ≤ m ∧ v = .int .i64 d ∧ RvRel w2 g A cap T n gm i Z b (a * d) wr
theorem rdI_snoc {off : Nat} {i i2 : Id} {ds : List Value} (h : rdI (ns 0 off) i = (i2, ds)) : rdI (ns 0 (off + 1)) i = ((inNum i2).1, ds ++ [.int .i64 ((inNum i2).2 : Nat)]) := by
  rw [ns_snoc, rdI_app, h]; rfl
def zI (n : Nat) : List Value := List.replicate n (.int .i64 0)
def zCh : List Value := zI 10 ++ [.bool false] ++ zI 2
def zEn : List Value := zI 6 ++ [.string ⟨#[]⟩, .string ⟨#[]⟩, .bool false] ++ zI 11
end Wi
theorem results_agg1 {P : Program} {w : World} {fn : Func} {p : Tmp} {t : TypeId} {n g : Nat} {xs : List Value} {tmps : Array Value} (h : fn.results = #[.cell p t]) (hA : Mem.Agg P t n) (hp : tmps.getD p undef = .pointer (some ⟨g, 0, none⟩)) (hb : Mem.Bx w t n g xs) :
    (results fn tmps).run P w = .ok (.agg xs.toArray) w := by
  have hp' : tmps[p]?.getD undef = .pointer (some ⟨g, 0, none⟩) := by simpa using hp
  simp [results, h, hp', asAddr, Mem.run_loadBx hA hb]
open Wi in
set_option maxRecDepth 100000 in
set_option maxHeartbeats 4000000 in
theorem iMember_any {w : World} {g : Nat} {A : Option Addr} {cap : Nat} {i : Wi.Id} (h : Wi.IAt w g A cap i) (hcap : cap ≤ maxLen) :
    Calls Try.prog 54 #[.pointer (some ⟨g, 0, none⟩)] w (Wi.IEnd w g A cap (.agg (Wi.rdI (Wi.ns 0 2) i).2.toArray) (Wi.rdI (Wi.ns 0 2) i).1) := by
  have HCP := Lib.hid hcap
  obtain ⟨gt, hgt⟩ : ∃ gt, w.heap.size = gt := ⟨_, rfl⟩
  have hgl : g < gt := by rw [← hgt]; exact h.B.lt
  have hbl : ∀ k, Mem.blk A = some k → k < gt := fun k hk => by rw [← hgt]; exact (h.ne k hk).2
  obtain ⟨w1, hw1⟩ : ∃ w1, w.alloc (.cells #[.int .i64 0, .int .i64 0] 32) = w1 := ⟨_, rfl⟩
  have hs1 : w1.heap.size = gt + 1 := by rw [← hw1, ← hgt]; exact Array.size_push _
  have hz1 : Mem.Bx w1 32 2 gt (zI 2) := by rw [← hw1]; exact Mem.Bx.new w 32 #[.int .i64 0, .int .i64 0] rfl hgt
  have hb1 : Below w.heap.size w w1 := by rw [← hw1]; exact Reg.below_new _ _
  obtain ⟨w2, hw2⟩ : ∃ w2, w1.alloc (.cells #[.int .i64 0, .int .i64 0] 32) = w2 := ⟨_, rfl⟩
  have hz2 : Mem.Bx w2 32 2 (gt + 1) (zI 2) := by rw [← hw2]; exact Mem.Bx.new w1 32 #[.int .i64 0, .int .i64 0] rfl hs1
  have hb2 : Below w1.heap.size w1 w2 := by rw [← hw2]; exact Reg.below_new _ _
  have HB := Lib.hid (hb1.trans (hb2.mono hb1.size))
  have HT := Lib.hid (hz1.below hb2 (by rw [hs1]; omega))
  have HP0 : Hid (IP w2 g A cap 32 2 (gt + 1) i ([] ++ (zI 2).drop 0) w2) := ⟨h.keeps (Mem.Keeps.of_below HB.out) (fun _ _ h => h), hz2, Mem.Keeps.refl _ _⟩
  have HE0 : Hid (rdI [] i = (i, [])) := rfl
  have HL0 : Hid (([] : List Value).length = 0) := rfl
  have HW1 := Lib.hid hw1
  have HW2 := Lib.hid hw2
  have HG := Lib.hid hgt
  have HS1 := Lib.hid hs1
  have HGL := Lib.hid hgl
  have HBL := Lib.hid hbl
  clear hcap h hgt hgl hbl hw1 hs1 hz1 hb1 hw2 hz2 hb2
  go_enter Try.func54, Try.ntmps54
  go_upto_region 1 with fail
  rw [HW1.out, HG.out]
  go_upto_region 2 with fail
  rw [HW2.out, HS1.out]
  clear HW1 HW2
  obtain ⟨i1, hi0⟩ : ∃ z, (inNum i).1 = z := ⟨_, rfl⟩
  obtain ⟨u0, hu0⟩ : ∃ z, (inNum i).2 = z := ⟨_, rfl⟩
  have hx0 := iNumber_any HP0.out.h
  rw [hi0, hu0] at hx0
  have HX0 := Lib.hid hx0
  have hr0 : rdI [.n 0] i = (i1, [(.int .i64 (u0 : Nat))]) := by rw [← hi0, ← hu0]; rfl
  have HR0 := Lib.hid hr0
  clear hi0 hu0 hx0 hr0
  go_upto_region 3 with (go_at_call 35; refine HX0.out.mono ?_; rintro x9 v3 ⟨rfl, ha, hk9⟩; have hq : IP w2 g A cap 32 2 (gt + 1) i1 ([] ++ (zI 2).drop 0) v3 := HP0.out.call ha hk9 (by have := HGL.out; omega); have HQ0 := Lib.hid hq; have y0 : v3.cell? ⟨gt + 1, 0, none⟩ = some (.int .i64 0) := hq.b.cell (by rw [dz_get HL0.out]; rfl); have yf0 := hq.b.fr; clear ha hk9 hq)
  obtain ⟨w3, hw0⟩ : ∃ z, v3.setCell ⟨gt + 1, 0, none⟩ (.int .i64 (u0 : Nat)) = z := ⟨_, rfl⟩
  obtain ⟨ds1, hd0⟩ : ∃ z : List Value, [] ++ [(.int .i64 (u0 : Nat))] = z := ⟨_, rfl⟩
  have HP1 : Hid (IP w2 g A cap 32 2 (gt + 1) i1 (ds1 ++ (zI 2).drop 1) w3) := by show IP _ _ _ _ _ _ _ _ _ _; rw [← hw0, ← hd0]; exact HQ0.out.put HL0.out (by decide) (by have := HGL.out; omega) (fun q hq => by have := HBL.out q hq; omega)
  have HL1 : Hid (ds1.length = 1) := by show _ = _; rw [← hd0, List.length_append, HL0.out]; rfl
  have HE1 : Hid (rdI ([] ++ [.n 0]) i = (i1, ds1)) := by show _ = _; rw [rdI_app, HE0.out, ← hd0]; show ((rdI _ i).1, _ ++ (rdI _ i).2) = _; rw [HR0.out]
  rw [hw0]
  clear hw0 hd0 HQ0 y0 yf0 HR0 HP0 HL0 HE0
  try clear HX0
  obtain ⟨i2, hi1⟩ : ∃ z, (inNum i1).1 = z := ⟨_, rfl⟩
  obtain ⟨u1, hu1⟩ : ∃ z, (inNum i1).2 = z := ⟨_, rfl⟩
  have hx1 := iNumber_any HP1.out.h
  rw [hi1, hu1] at hx1
  have HX1 := Lib.hid hx1
  have hr1 : rdI [.n 0] i1 = (i2, [(.int .i64 (u1 : Nat))]) := by rw [← hi1, ← hu1]; rfl
  have HR1 := Lib.hid hr1
  clear hi1 hu1 hx1 hr1
  go_upto_region 4 with (go_at_call 35; refine HX1.out.mono ?_; rintro x9 v4 ⟨rfl, ha, hk9⟩; have hq : IP w2 g A cap 32 2 (gt + 1) i2 (ds1 ++ (zI 2).drop 1) v4 := HP1.out.call ha hk9 (by have := HGL.out; omega); have HQ1 := Lib.hid hq; have y1 : v4.cell? ⟨gt + 1, 1, none⟩ = some (.int .i64 0) := hq.b.cell (by rw [dz_get HL1.out]; rfl); have yf1 := hq.b.fr; clear ha hk9 hq)
  obtain ⟨w4, hw1⟩ : ∃ z, v4.setCell ⟨gt + 1, 1, none⟩ (.int .i64 (u1 : Nat)) = z := ⟨_, rfl⟩
  obtain ⟨ds2, hd1⟩ : ∃ z : List Value, ds1 ++ [(.int .i64 (u1 : Nat))] = z := ⟨_, rfl⟩
  have HP2 : Hid (IP w2 g A cap 32 2 (gt + 1) i2 (ds2 ++ (zI 2).drop 2) w4) := by show IP _ _ _ _ _ _ _ _ _ _; rw [← hw1, ← hd1]; exact HQ1.out.put HL1.out (by decide) (by have := HGL.out; omega) (fun q hq => by have := HBL.out q hq; omega)
  have HL2 : Hid (ds2.length = 2) := by show _ = _; rw [← hd1, List.length_append, HL1.out]; rfl
  have HE2 : Hid (rdI (([] ++ [.n 0]) ++ [.n 0]) i = (i2, ds2)) := by show _ = _; rw [rdI_app, HE1.out, ← hd1]; show ((rdI _ i1).1, _ ++ (rdI _ i1).2) = _; rw [HR1.out]
  rw [hw1]
  clear hw1 hd1 HQ1 y1 yf1 HR1 HP1 HL1 HE1
  try clear HX1
  have hT9 : Mem.Bx w4 32 2 gt (zI 2) := HT.out.keeps HP2.out.k (by have := HGL.out; omega)
  have HT9 := Lib.hid hT9
  have hB9 : Mem.Bx w4 32 2 (gt + 1) ds2 := by have := HP2.out.b; rw [dz_all HL2.out rfl] at this; exact this
  have HB9 := Lib.hid hB9
  have hE9 : rdI (ns 0 2) i = (i2, ds2) := (rdI_same rfl i).trans HE2.out
  have hO9 : Hid (∀ y ∈ ds2, y.oneCell' = true) := by have := rdI_one (ns 0 2) i; rw [hE9] at this; exact this
  have HE9 := Lib.hid hE9
  clear hT9 hB9 hE9
  go_wp2_with (first | ((with_reducible refine Mem.load_agg _ _ mem_agg (gt + 1) 0 ds2 ?hxa HL2.out (fun j u hu => by rw [Nat.zero_add]; exact HB9.out.cell hu) ?_); case hxa => exact rfl) | ((with_reducible refine Mem.store_agg _ _ mem_agg gt (zI 2) ds2 ?hx ?hy HT9.out HL2.out hO9.out ?_); (case hx => exact rfl); (case hy => exact rfl); intro wz hbz hkz hsz))
  try simp only [Exit.jump, Exit.inBlock, Exit.then]
  refine bodyPost_ret (v := .agg ds2.toArray) (results_agg1 Try.results54 mem_agg rfl hbz) rfl ⟨by rw [HE9.out], ?_, ?_⟩
  · rw [HE9.out]; exact HP2.out.h.keeps hkz (fun q hq h => by have := HGL.out; have := HBL.out; rcases hq with hq | hq; omega; have := HBL.out q hq; omega)
  · exact IP.ends HB.out (HP2.out.k) hkz (by have := HG.out; omega) (by have := HG.out; omega)
open Wi in
set_option maxRecDepth 100000 in
set_option maxHeartbeats 4000000 in
theorem iAddr_any {w : World} {g : Nat} {A : Option Addr} {cap : Nat} {i : Wi.Id} (h : Wi.IAt w g A cap i) (hcap : cap ≤ maxLen) :
    Calls Try.prog 41 #[.pointer (some ⟨g, 0, none⟩)] w (Wi.IEnd w g A cap (.agg (Wi.rdI (Wi.ns 0 4) i).2.toArray) (Wi.rdI (Wi.ns 0 4) i).1) := by
  have HCP := Lib.hid hcap
  obtain ⟨gt, hgt⟩ : ∃ gt, w.heap.size = gt := ⟨_, rfl⟩
  have hgl : g < gt := by rw [← hgt]; exact h.B.lt
  have hbl : ∀ k, Mem.blk A = some k → k < gt := fun k hk => by rw [← hgt]; exact (h.ne k hk).2
  obtain ⟨w1, hw1⟩ : ∃ w1, w.alloc (.cells #[.int .i64 0, .int .i64 0, .int .i64 0, .int .i64 0] 52) = w1 := ⟨_, rfl⟩
  have hs1 : w1.heap.size = gt + 1 := by rw [← hw1, ← hgt]; exact Array.size_push _
  have hz1 : Mem.Bx w1 52 4 gt (zI 4) := by rw [← hw1]; exact Mem.Bx.new w 52 #[.int .i64 0, .int .i64 0, .int .i64 0, .int .i64 0] rfl hgt
  have hb1 : Below w.heap.size w w1 := by rw [← hw1]; exact Reg.below_new _ _
  obtain ⟨w2, hw2⟩ : ∃ w2, w1.alloc (.cells #[.int .i64 0, .int .i64 0, .int .i64 0, .int .i64 0] 52) = w2 := ⟨_, rfl⟩
  have hz2 : Mem.Bx w2 52 4 (gt + 1) (zI 4) := by rw [← hw2]; exact Mem.Bx.new w1 52 #[.int .i64 0, .int .i64 0, .int .i64 0, .int .i64 0] rfl hs1
  have hb2 : Below w1.heap.size w1 w2 := by rw [← hw2]; exact Reg.below_new _ _
  have HB := Lib.hid (hb1.trans (hb2.mono hb1.size))
  have HT := Lib.hid (hz1.below hb2 (by rw [hs1]; omega))
  have HP0 : Hid (IP w2 g A cap 52 4 (gt + 1) i ([] ++ (zI 4).drop 0) w2) := ⟨h.keeps (Mem.Keeps.of_below HB.out) (fun _ _ h => h), hz2, Mem.Keeps.refl _ _⟩
  have HE0 : Hid (rdI [] i = (i, [])) := rfl
  have HL0 : Hid (([] : List Value).length = 0) := rfl
  have HW1 := Lib.hid hw1
  have HW2 := Lib.hid hw2
  have HG := Lib.hid hgt
  have HS1 := Lib.hid hs1
  have HGL := Lib.hid hgl
  have HBL := Lib.hid hbl
  clear hcap h hgt hgl hbl hw1 hs1 hz1 hb1 hw2 hz2 hb2
  go_enter Try.func41, Try.ntmps41
  go_upto_region 1 with fail
  rw [HW1.out, HG.out]
  go_upto_region 2 with fail
  rw [HW2.out, HS1.out]
  clear HW1 HW2
  obtain ⟨i1, hi0⟩ : ∃ z, (inNum i).1 = z := ⟨_, rfl⟩
  obtain ⟨u0, hu0⟩ : ∃ z, (inNum i).2 = z := ⟨_, rfl⟩
  have hx0 := iNumber_any HP0.out.h
  rw [hi0, hu0] at hx0
  have HX0 := Lib.hid hx0
  have hr0 : rdI [.n 0] i = (i1, [(.int .i64 (u0 : Nat))]) := by rw [← hi0, ← hu0]; rfl
  have HR0 := Lib.hid hr0
  clear hi0 hu0 hx0 hr0
  go_upto_region 3 with (go_at_call 35; refine HX0.out.mono ?_; rintro x9 v3 ⟨rfl, ha, hk9⟩; have hq : IP w2 g A cap 52 4 (gt + 1) i1 ([] ++ (zI 4).drop 0) v3 := HP0.out.call ha hk9 (by have := HGL.out; omega); have HQ0 := Lib.hid hq; have y0 : v3.cell? ⟨gt + 1, 0, none⟩ = some (.int .i64 0) := hq.b.cell (by rw [dz_get HL0.out]; rfl); have yf0 := hq.b.fr; clear ha hk9 hq)
  obtain ⟨w3, hw0⟩ : ∃ z, v3.setCell ⟨gt + 1, 0, none⟩ (.int .i64 (u0 : Nat)) = z := ⟨_, rfl⟩
  obtain ⟨ds1, hd0⟩ : ∃ z : List Value, [] ++ [(.int .i64 (u0 : Nat))] = z := ⟨_, rfl⟩
  have HP1 : Hid (IP w2 g A cap 52 4 (gt + 1) i1 (ds1 ++ (zI 4).drop 1) w3) := by show IP _ _ _ _ _ _ _ _ _ _; rw [← hw0, ← hd0]; exact HQ0.out.put HL0.out (by decide) (by have := HGL.out; omega) (fun q hq => by have := HBL.out q hq; omega)
  have HL1 : Hid (ds1.length = 1) := by show _ = _; rw [← hd0, List.length_append, HL0.out]; rfl
  have HE1 : Hid (rdI ([] ++ [.n 0]) i = (i1, ds1)) := by show _ = _; rw [rdI_app, HE0.out, ← hd0]; show ((rdI _ i).1, _ ++ (rdI _ i).2) = _; rw [HR0.out]
  rw [hw0]
  clear hw0 hd0 HQ0 y0 yf0 HR0 HP0 HL0 HE0
  try clear HX0
  obtain ⟨i2, hi1⟩ : ∃ z, (inNum i1).1 = z := ⟨_, rfl⟩
  obtain ⟨u1, hu1⟩ : ∃ z, (inNum i1).2 = z := ⟨_, rfl⟩
  have hx1 := iNumber_any HP1.out.h
  rw [hi1, hu1] at hx1
  have HX1 := Lib.hid hx1
  have hr1 : rdI [.n 0] i1 = (i2, [(.int .i64 (u1 : Nat))]) := by rw [← hi1, ← hu1]; rfl
  have HR1 := Lib.hid hr1
  clear hi1 hu1 hx1 hr1
  go_upto_region 4 with (go_at_call 35; refine HX1.out.mono ?_; rintro x9 v4 ⟨rfl, ha, hk9⟩; have hq : IP w2 g A cap 52 4 (gt + 1) i2 (ds1 ++ (zI 4).drop 1) v4 := HP1.out.call ha hk9 (by have := HGL.out; omega); have HQ1 := Lib.hid hq; have y1 : v4.cell? ⟨gt + 1, 1, none⟩ = some (.int .i64 0) := hq.b.cell (by rw [dz_get HL1.out]; rfl); have yf1 := hq.b.fr; clear ha hk9 hq)
  obtain ⟨w4, hw1⟩ : ∃ z, v4.setCell ⟨gt + 1, 1, none⟩ (.int .i64 (u1 : Nat)) = z := ⟨_, rfl⟩
  obtain ⟨ds2, hd1⟩ : ∃ z : List Value, ds1 ++ [(.int .i64 (u1 : Nat))] = z := ⟨_, rfl⟩
  have HP2 : Hid (IP w2 g A cap 52 4 (gt + 1) i2 (ds2 ++ (zI 4).drop 2) w4) := by show IP _ _ _ _ _ _ _ _ _ _; rw [← hw1, ← hd1]; exact HQ1.out.put HL1.out (by decide) (by have := HGL.out; omega) (fun q hq => by have := HBL.out q hq; omega)
  have HL2 : Hid (ds2.length = 2) := by show _ = _; rw [← hd1, List.length_append, HL1.out]; rfl
  have HE2 : Hid (rdI (([] ++ [.n 0]) ++ [.n 0]) i = (i2, ds2)) := by show _ = _; rw [rdI_app, HE1.out, ← hd1]; show ((rdI _ i1).1, _ ++ (rdI _ i1).2) = _; rw [HR1.out]
  rw [hw1]
  clear hw1 hd1 HQ1 y1 yf1 HR1 HP1 HL1 HE1
  try clear HX1
  obtain ⟨i3, hi2⟩ : ∃ z, (inNum i2).1 = z := ⟨_, rfl⟩
  obtain ⟨u2, hu2⟩ : ∃ z, (inNum i2).2 = z := ⟨_, rfl⟩
  have hx2 := iNumber_any HP2.out.h
  rw [hi2, hu2] at hx2
  have HX2 := Lib.hid hx2
  have hr2 : rdI [.n 0] i2 = (i3, [(.int .i64 (u2 : Nat))]) := by rw [← hi2, ← hu2]; rfl
  have HR2 := Lib.hid hr2
  clear hi2 hu2 hx2 hr2
  go_upto_region 5 with (go_at_call 35; refine HX2.out.mono ?_; rintro x9 v5 ⟨rfl, ha, hk9⟩; have hq : IP w2 g A cap 52 4 (gt + 1) i3 (ds2 ++ (zI 4).drop 2) v5 := HP2.out.call ha hk9 (by have := HGL.out; omega); have HQ2 := Lib.hid hq; have y2 : v5.cell? ⟨gt + 1, 2, none⟩ = some (.int .i64 0) := hq.b.cell (by rw [dz_get HL2.out]; rfl); have yf2 := hq.b.fr; clear ha hk9 hq)
  obtain ⟨w5, hw2⟩ : ∃ z, v5.setCell ⟨gt + 1, 2, none⟩ (.int .i64 (u2 : Nat)) = z := ⟨_, rfl⟩
  obtain ⟨ds3, hd2⟩ : ∃ z : List Value, ds2 ++ [(.int .i64 (u2 : Nat))] = z := ⟨_, rfl⟩
  have HP3 : Hid (IP w2 g A cap 52 4 (gt + 1) i3 (ds3 ++ (zI 4).drop 3) w5) := by show IP _ _ _ _ _ _ _ _ _ _; rw [← hw2, ← hd2]; exact HQ2.out.put HL2.out (by decide) (by have := HGL.out; omega) (fun q hq => by have := HBL.out q hq; omega)
  have HL3 : Hid (ds3.length = 3) := by show _ = _; rw [← hd2, List.length_append, HL2.out]; rfl
  have HE3 : Hid (rdI ((([] ++ [.n 0]) ++ [.n 0]) ++ [.n 0]) i = (i3, ds3)) := by show _ = _; rw [rdI_app, HE2.out, ← hd2]; show ((rdI _ i2).1, _ ++ (rdI _ i2).2) = _; rw [HR2.out]
  rw [hw2]
  clear hw2 hd2 HQ2 y2 yf2 HR2 HP2 HL2 HE2
  try clear HX2
  obtain ⟨i4, hi3⟩ : ∃ z, (inNum i3).1 = z := ⟨_, rfl⟩
  obtain ⟨u3, hu3⟩ : ∃ z, (inNum i3).2 = z := ⟨_, rfl⟩
  have hx3 := iNumber_any HP3.out.h
  rw [hi3, hu3] at hx3
  have HX3 := Lib.hid hx3
  have hr3 : rdI [.n 0] i3 = (i4, [(.int .i64 (u3 : Nat))]) := by rw [← hi3, ← hu3]; rfl
  have HR3 := Lib.hid hr3
  clear hi3 hu3 hx3 hr3
  go_upto_region 6 with (go_at_call 35; refine HX3.out.mono ?_; rintro x9 v6 ⟨rfl, ha, hk9⟩; have hq : IP w2 g A cap 52 4 (gt + 1) i4 (ds3 ++ (zI 4).drop 3) v6 := HP3.out.call ha hk9 (by have := HGL.out; omega); have HQ3 := Lib.hid hq; have y3 : v6.cell? ⟨gt + 1, 3, none⟩ = some (.int .i64 0) := hq.b.cell (by rw [dz_get HL3.out]; rfl); have yf3 := hq.b.fr; clear ha hk9 hq)
  obtain ⟨w6, hw3⟩ : ∃ z, v6.setCell ⟨gt + 1, 3, none⟩ (.int .i64 (u3 : Nat)) = z := ⟨_, rfl⟩
  obtain ⟨ds4, hd3⟩ : ∃ z : List Value, ds3 ++ [(.int .i64 (u3 : Nat))] = z := ⟨_, rfl⟩
  have HP4 : Hid (IP w2 g A cap 52 4 (gt + 1) i4 (ds4 ++ (zI 4).drop 4) w6) := by show IP _ _ _ _ _ _ _ _ _ _; rw [← hw3, ← hd3]; exact HQ3.out.put HL3.out (by decide) (by have := HGL.out; omega) (fun q hq => by have := HBL.out q hq; omega)
  have HL4 : Hid (ds4.length = 4) := by show _ = _; rw [← hd3, List.length_append, HL3.out]; rfl
  have HE4 : Hid (rdI (((([] ++ [.n 0]) ++ [.n 0]) ++ [.n 0]) ++ [.n 0]) i = (i4, ds4)) := by show _ = _; rw [rdI_app, HE3.out, ← hd3]; show ((rdI _ i3).1, _ ++ (rdI _ i3).2) = _; rw [HR3.out]
  rw [hw3]
  clear hw3 hd3 HQ3 y3 yf3 HR3 HP3 HL3 HE3
  try clear HX3
  have hT9 : Mem.Bx w6 52 4 gt (zI 4) := HT.out.keeps HP4.out.k (by have := HGL.out; omega)
  have HT9 := Lib.hid hT9
  have hB9 : Mem.Bx w6 52 4 (gt + 1) ds4 := by have := HP4.out.b; rw [dz_all HL4.out rfl] at this; exact this
  have HB9 := Lib.hid hB9
  have hE9 : rdI (ns 0 4) i = (i4, ds4) := (rdI_same rfl i).trans HE4.out
  have hO9 : Hid (∀ y ∈ ds4, y.oneCell' = true) := by have := rdI_one (ns 0 4) i; rw [hE9] at this; exact this
  have HE9 := Lib.hid hE9
  clear hT9 hB9 hE9
  go_wp2_with (first | ((with_reducible refine Mem.load_agg _ _ addr_agg (gt + 1) 0 ds4 ?hxa HL4.out (fun j u hu => by rw [Nat.zero_add]; exact HB9.out.cell hu) ?_); case hxa => exact rfl) | ((with_reducible refine Mem.store_agg _ _ addr_agg gt (zI 4) ds4 ?hx ?hy HT9.out HL4.out hO9.out ?_); (case hx => exact rfl); (case hy => exact rfl); intro wz hbz hkz hsz))
  try simp only [Exit.jump, Exit.inBlock, Exit.then]
  refine bodyPost_ret (v := .agg ds4.toArray) (results_agg1 Try.results41 addr_agg rfl hbz) rfl ⟨by rw [HE9.out], ?_, ?_⟩
  · rw [HE9.out]; exact HP4.out.h.keeps hkz (fun q hq h => by have := HGL.out; have := HBL.out; rcases hq with hq | hq; omega; have := HBL.out q hq; omega)
  · exact IP.ends HB.out (HP4.out.k) hkz (by have := HG.out; omega) (by have := HG.out; omega)
open Wi in
set_option maxRecDepth 100000 in
set_option maxHeartbeats 4000000 in
theorem iVec_any {w : World} {g : Nat} {A : Option Addr} {cap : Nat} {i : Wi.Id} (h : Wi.IAt w g A cap i) (hcap : cap ≤ maxLen) :
    Calls Try.prog 44 #[.pointer (some ⟨g, 0, none⟩)] w (Wi.IEnd w g A cap (.agg (Wi.rdI (Wi.ns 0 9) i).2.toArray) (Wi.rdI (Wi.ns 0 9) i).1) := by
  have HCP := Lib.hid hcap
  obtain ⟨gt, hgt⟩ : ∃ gt, w.heap.size = gt := ⟨_, rfl⟩
  have hgl : g < gt := by rw [← hgt]; exact h.B.lt
  have hbl : ∀ k, Mem.blk A = some k → k < gt := fun k hk => by rw [← hgt]; exact (h.ne k hk).2
  obtain ⟨w1, hw1⟩ : ∃ w1, w.alloc (.cells #[.int .i64 0, .int .i64 0, .int .i64 0, .int .i64 0, .int .i64 0, .int .i64 0, .int .i64 0, .int .i64 0, .int .i64 0] 28) = w1 := ⟨_, rfl⟩
  have hs1 : w1.heap.size = gt + 1 := by rw [← hw1, ← hgt]; exact Array.size_push _
  have hz1 : Mem.Bx w1 28 9 gt (zI 9) := by rw [← hw1]; exact Mem.Bx.new w 28 #[.int .i64 0, .int .i64 0, .int .i64 0, .int .i64 0, .int .i64 0, .int .i64 0, .int .i64 0, .int .i64 0, .int .i64 0] rfl hgt
  have hb1 : Below w.heap.size w w1 := by rw [← hw1]; exact Reg.below_new _ _
  obtain ⟨w2, hw2⟩ : ∃ w2, w1.alloc (.cells #[.int .i64 0, .int .i64 0, .int .i64 0, .int .i64 0, .int .i64 0, .int .i64 0, .int .i64 0, .int .i64 0, .int .i64 0] 28) = w2 := ⟨_, rfl⟩
  have hz2 : Mem.Bx w2 28 9 (gt + 1) (zI 9) := by rw [← hw2]; exact Mem.Bx.new w1 28 #[.int .i64 0, .int .i64 0, .int .i64 0, .int .i64 0, .int .i64 0, .int .i64 0, .int .i64 0, .int .i64 0, .int .i64 0] rfl hs1
  have hb2 : Below w1.heap.size w1 w2 := by rw [← hw2]; exact Reg.below_new _ _
  have HB := Lib.hid (hb1.trans (hb2.mono hb1.size))
  have HT := Lib.hid (hz1.below hb2 (by rw [hs1]; omega))
  have HP0 : Hid (IP w2 g A cap 28 9 (gt + 1) i ([] ++ (zI 9).drop 0) w2) := ⟨h.keeps (Mem.Keeps.of_below HB.out) (fun _ _ h => h), hz2, Mem.Keeps.refl _ _⟩
  have HE0 : Hid (rdI [] i = (i, [])) := rfl
  have HL0 : Hid (([] : List Value).length = 0) := rfl
  have HW1 := Lib.hid hw1
  have HW2 := Lib.hid hw2
  have HG := Lib.hid hgt
  have HS1 := Lib.hid hs1
  have HGL := Lib.hid hgl
  have HBL := Lib.hid hbl
  clear hcap h hgt hgl hbl hw1 hs1 hz1 hb1 hw2 hz2 hb2
  go_enter Try.func44, Try.ntmps44
  go_upto_region 1 with fail
  rw [HW1.out, HG.out]
  go_upto_region 2 with fail
  rw [HW2.out, HS1.out]
  clear HW1 HW2
  have HV : RvRel w2 g A cap 28 9 (gt + 1) i (zI 9) 0 (3 * 0) w2 := ⟨⟨i, [], HE0, HL0, HP0⟩⟩
  clear HP0 HE0 HL0
  go_wp2
  go_loopw [4] (RoRel w2 g A cap 28 9 (gt + 1) i (zI 9) 3 0 3) (fun t _ => 3 - (intOf t).toNat)
  case atStart => exact ⟨⟨0, by omega, rfl, HV⟩⟩
  case round =>
    obtain ⟨d, hd, rfl, HVd⟩ := hrel.out
    clear hrel HV
    by_cases hlt : d < 3
    · have d1 : decide ((d : Int) < 3) = true := by simp; omega
      have d1n : decide (d < 3) = true := by simpa using hlt
      go_wp2
      rename World => wy
      go_loopw [5] (RoRel w2 g A cap 28 9 (gt + 1) i (zI 9) 3 (3 * d) 1) (fun t _ => 3 - (intOf t).toNat)
      case atStart => exact ⟨⟨0, by omega, rfl, by obtain ⟨i2, ds, h1, h2, h3⟩ := HVd.out; exact ⟨⟨i2, ds, by rw [show 3 * d + 1 * 0 = 0 + 3 * d by omega]; exact h1, by rw [show 3 * d + 1 * 0 = 0 + 3 * d by omega]; exact h2, by rw [show 3 * d + 1 * 0 = 0 + 3 * d by omega]; exact h3⟩⟩⟩⟩
      case round =>
        obtain ⟨r, hr, rfl, HVr⟩ := hrel.out
        clear hrel HVd
        by_cases hlr : r < 3
        · have d2 : decide ((r : Int) < 3) = true := by simp; omega
          have d2n : decide (r < 3) = true := by simpa using hlr
          obtain ⟨i2, ds, HEr, HLr, HPr⟩ := HVr.out
          clear HVr
          rw [Nat.one_mul] at HEr HLr HPr
          obtain ⟨c, hc⟩ : ∃ c, 3 * d + r = c := ⟨_, rfl⟩
          have hc9 : c < 9 := by omega
          rw [hc] at HEr HLr HPr
          obtain ⟨i3, hi3⟩ : ∃ z, (inNum i2).1 = z := ⟨_, rfl⟩
          obtain ⟨n3, hn3⟩ : ∃ z, (inNum i2).2 = z := ⟨_, rfl⟩
          have hs3 := rdI_snoc HEr.out
          rw [hi3, hn3] at hs3
          have HS3 := Lib.hid hs3
          have HI3 := Lib.hid hi3
          have HN3 := Lib.hid hn3
          have HC := Lib.hid hc
          have hdc : d * 3 + r = c := by omega
          clear hs3 hi3 hn3 hc
          go_upto_region 8 with fail
          refine Reg.wp_region_w (by kernel_rfl) 21 7 rfl rfl (by kernel_rfl) (3) (fun y => y = g) (6) (fun y => y = gt + 1) (3) (fun _ => False)
            (fun i v u => match i with
              | 0 => v = .int .i64 d
              | 1 => v = .int .i64 r
              | 2 => v = .pointer (some ⟨g, 0, none⟩)
              | 3 => v = .int .i64 (n3 : Nat) ∧ IP w2 g A cap 28 9 (gt + 1) i3 (ds ++ (zI 9).drop c) u
              | 4 => v = .pointer (some ⟨gt + 1, d * 3, none⟩)
              | 5 => v = .pointer (some ⟨gt + 1, c, none⟩)
              | 6 => IP w2 g A cap 28 9 (gt + 1) i3 ((ds ++ [.int .i64 (n3 : Nat)]) ++ (zI 9).drop (c + 1)) u
              | _ => True) ?_ ?_
          · refine Reg.Steps.cons ?_ (Reg.Steps.cons ?_ (Reg.Steps.cons ?_ (Reg.Steps.cons ?_ (Reg.Steps.cons ?_ (Reg.Steps.cons ?_ (Reg.Steps.cons ?_ (Reg.Steps.nil _)))))))
            · intro val ac u hR hp ha K hK      -- 0: t14 := Op.move t4
              have e4 : (ac.tmps[4]?).getD undef = .int .i64 d := ha 4 (by decide)
              clear ha hp
              refine Reg.Op1.plain rfl ?_
              go_wp2
              exact ⟨rfl, hK _ _ rfl (Reg.Wr.same _)⟩
            · intro val ac u hR hp ha K hK      -- 1: t15 := Op.move t5
              have e5 : (ac.tmps[5]?).getD undef = .int .i64 r := ha 5 (by decide)
              clear ha hp
              refine Reg.Op1.plain rfl ?_
              go_wp2
              exact ⟨rfl, hK _ _ rfl (Reg.Wr.same _)⟩
            · intro val ac u hR hp ha K hK      -- 2: t16 := Op.move t0
              have e0 : (ac.tmps[0]?).getD undef = .pointer (some ⟨g, 0, none⟩) := ha 0 (by decide)
              clear ha hp
              refine Reg.Op1.plain rfl ?_
              go_wp2
              exact ⟨rfl, hK _ _ rfl (Reg.Wr.same _)⟩
            · intro val ac u hR hp ha K hK      -- 3: t17 := Op.call { value (Operand.func 35), args := #[t16], argTypes := #[84] }
              obtain ⟨w16, h16, r16⟩ := hp 2 (by decide)
              have e16 : (ac.tmps[16]?).getD undef = .pointer (some ⟨g, 0, none⟩) := (ha 16 (by decide)).trans h16
              clear h16
              clear ha hp
              refine Reg.Op1.plain rfl ?_
              have hq := (Mem.Keeps.refl (fun _ => False) wr).drew.trans (Reg.Wr.none hR (by decide +kernel) (by decide +kernel) (by decide +kernel)) (fun _ h _ => h)
              have hP : IP w2 g A cap 28 9 (gt + 1) i2 (ds ++ (zI 9).drop c) u := ⟨HPr.out.h.keeps hq (fun _ _ h => h), HPr.out.b.keeps hq (fun h => h), HPr.out.k.trans hq (fun _ h _ => h.elim)⟩
              have hx := iNumber_any hP.h
              rw [HI3.out, HN3.out] at hx
              go_wp2_with fail
              refine hx.mono ?_
              rintro x w' ⟨rfl, ha, hk'⟩
              go_wp2_with fail
              exact ⟨rfl, hK _ _ ⟨rfl, hP.call ha hk' (by have := HGL.out; omega)⟩ (Reg.Wr.does1 hk')⟩
            · intro val ac u hR hp ha K hK      -- 4: t18 := Op.indexAddr 28 t3 t14
              have e3 : (ac.tmps[3]?).getD undef = .pointer (some ⟨gt + 1, 0, none⟩) := ha 3 (by decide)
              obtain ⟨w14, h14, r14⟩ := hp 0 (by decide)
              have e14 : (ac.tmps[14]?).getD undef = .int .i64 d := (ha 14 (by decide)).trans h14
              clear h14
              clear ha hp
              refine Reg.Op1.plain rfl ?_
              go_wp2
              exact ⟨rfl, hK _ _ rfl (Reg.Wr.same _)⟩
            · intro val ac u hR hp ha K hK      -- 5: t19 := Op.indexAddr 26 t18 t15
              obtain ⟨w18, h18, r18⟩ := hp 4 (by decide)
              have e18 : (ac.tmps[18]?).getD undef = .pointer (some ⟨gt + 1, d * 3, none⟩) := (ha 18 (by decide)).trans h18
              clear h18
              obtain ⟨w15, h15, r15⟩ := hp 1 (by decide)
              have e15 : (ac.tmps[15]?).getD undef = .int .i64 r := (ha 15 (by decide)).trans h15
              clear h15
              clear ha hp
              refine Reg.Op1.plain rfl ?_
              go_wp2
              exact ⟨rfl, hK _ _ rfl (Reg.Wr.same _)⟩
            · intro val ac u hR hp ha K hK      -- 6: Op.store 3 t19 t17
              obtain ⟨w19, h19, r19⟩ := hp 5 (by decide)
              have e19 : (ac.tmps[19]?).getD undef = .pointer (some ⟨gt + 1, c, none⟩) := (ha 19 (by decide)).trans h19
              clear h19
              obtain ⟨w17, h17, r17⟩ := hp 3 (by decide)
              have e17 : (ac.tmps[17]?).getD undef = val 3 := ha 17 (by decide)
              clear ha hp
              refine Reg.Op1.plain rfl ?_
              obtain ⟨hv17, hp17⟩ := h17
              rw [hv17] at e17
              have hq := Reg.Wr.none r17 (by decide +kernel) (by decide +kernel) (by decide +kernel)
              have hP : IP w2 g A cap 28 9 (gt + 1) i3 (ds ++ (zI 9).drop c) u := ⟨hp17.h.keeps hq (fun _ _ h => h), hp17.b.keeps hq (fun h => h), hp17.k.trans hq (fun _ h _ => h.elim)⟩
              have x0 : u.cell? ⟨gt + 1, c, none⟩ = some (.int .i64 0) := hP.b.cell (by rw [dz_get HLr.out]; unfold zI; rw [List.getElem?_replicate, if_pos hc9])
              have xf := hP.b.fr
              have hk2 : Mem.Keeps (fun y => y = gt + 1) u (u.setCell ⟨gt + 1, c, none⟩ (.int .i64 (n3 : Nat))) := (Mem.Keeps.refl (fun y => y = gt + 1) u).setCell (p := ⟨gt + 1, c, none⟩) (fun _ => rfl) _
              have hP2 := hP.put (v := .int .i64 (n3 : Nat)) HLr.out (by simpa [zI] using hc9) (by have := HGL.out; omega) (fun q hq => by have := HBL.out q hq; omega)
              have HP2 := Lib.hid hP2
              have HK2 := Lib.hid hk2
              clear hP hP2 hk2 hq hp17 hv17 hR
              go_wp2
              exact ⟨rfl, hK undef _ HP2.out (Reg.Wr.does2 HK2.out)⟩
          · intro val u hR H
            obtain ⟨wA, hpA, rA⟩ := H 6 (by decide)
            have hq := Reg.Wr.none rA (by decide +kernel) (by decide +kernel) (by decide +kernel)
            have HPn : Hid (IP w2 g A cap 28 9 (gt + 1) i3 ((ds ++ [.int .i64 (n3 : Nat)]) ++ (zI 9).drop (c + 1)) u) := ⟨hpA.h.keeps hq (fun _ _ h => h), hpA.b.keeps hq (fun h => h), hpA.k.trans hq (fun _ h _ => h.elim)⟩
            have HLn : Hid ((ds ++ [Value.int .i64 (n3 : Nat)]).length = c + 1) := by show _ = _; rw [List.length_append, HLr.out]; rfl
            simp only [List.map_cons, List.map_nil, Reg.lay, Act.put, List.setIfInBounds_toArray, List.set_cons_succ, List.set_cons_zero, Nat.reduceAdd]
            clear hR H hq hpA rA
            go_wp2
            go_roundw
            case rel => exact ⟨⟨r + 1, by omega, by go_num, ⟨⟨i3, _, by rw [show 3 * d + 1 * (r + 1) = c + 1 by have := HC.out; omega]; exact HS3, by rw [show 3 * d + 1 * (r + 1) = c + 1 by have := HC.out; omega]; exact HLn, by rw [show 3 * d + 1 * (r + 1) = c + 1 by have := HC.out; omega]; exact HPn⟩⟩⟩⟩
            case measure => simp [intOf]; omega
        · obtain rfl : r = 3 := by omega
          have d2 : decide (((3 : Nat) : Int) < 3) = false := by decide
          go_wp2
          go_roundw
          case rel => exact ⟨⟨d + 1, by omega, by go_num, by obtain ⟨i2, ds, h1, h2, h3⟩ := HVr.out; exact ⟨⟨i2, ds, by rw [show 0 + 3 * (d + 1) = 3 * d + 1 * 3 by omega]; exact h1, by rw [show 0 + 3 * (d + 1) = 3 * d + 1 * 3 by omega]; exact h2, by rw [show 0 + 3 * (d + 1) = 3 * d + 1 * 3 by omega]; exact h3⟩⟩⟩⟩
          case measure => simp [intOf]; omega
    · obtain rfl : d = 3 := by omega
      have d1 : decide (((3 : Nat) : Int) < 3) = false := by decide
      obtain ⟨i1, ds1, HE1, HL1, HP1⟩ := HVd.out
      clear HVd
      go_upto_region 9 with fail
      obtain ⟨w3, hw3⟩ : ∃ z, wr = z := ⟨_, rfl⟩
      rw [hw3] at HP1 ⊢
      clear hw3
      have hT9 : Mem.Bx w3 28 9 gt (zI 9) := HT.out.keeps HP1.out.k (by have := HGL.out; omega)
      have HT9 := Lib.hid hT9
      have hB9 : Mem.Bx w3 28 9 (gt + 1) ds1 := by have := HP1.out.b; rw [dz_all HL1.out rfl] at this; exact this
      have HB9 := Lib.hid hB9
      have hE9 : rdI (ns 0 9) i = (i1, ds1) := (rdI_same rfl i).trans HE1.out
      have hO9 : Hid (∀ y ∈ ds1, y.oneCell' = true) := by have := rdI_one (ns 0 9) i; rw [hE9] at this; exact this
      have HE9 := Lib.hid hE9
      clear hT9 hB9 hE9
      go_wp2_with (first | ((with_reducible refine Mem.load_agg _ _ vec_agg9 (gt + 1) 0 ds1 ?hxa HL1.out (fun j u hu => by rw [Nat.zero_add]; exact HB9.out.cell hu) ?_); case hxa => exact rfl) | ((with_reducible refine Mem.store_agg _ _ vec_agg9 gt (zI 9) ds1 ?hx ?hy HT9.out HL1.out hO9.out ?_); (case hx => exact rfl); (case hy => exact rfl); intro wz hbz hkz hsz))
      try simp only [Exit.jump, Exit.inBlock, Exit.then]
      refine bodyPost_ret (v := .agg ds1.toArray) (results_agg1 Try.results44 vec_agg9 rfl hbz) rfl ⟨by rw [HE9.out], ?_, ?_⟩
      · rw [HE9.out]; exact HP1.out.h.keeps hkz (fun q hq h => by have := HGL.out; have := HBL.out; rcases hq with hq | hq; omega; have := HBL.out q hq; omega)
      · exact IP.ends HB.out (HP1.out.k) hkz (by have := HG.out; omega) (by have := HG.out; omega)
open Wi in
set_option maxRecDepth 100000 in
set_option maxHeartbeats 4000000 in
theorem iConfig_any {w : World} {g : Nat} {A : Option Addr} {cap : Nat} {i : Wi.Id} (h : Wi.IAt w g A cap i) (hcap : cap ≤ maxLen) :
    Calls Try.prog 37 #[.pointer (some ⟨g, 0, none⟩)] w (Wi.IEnd w g A cap (.agg (Wi.rdI (Wi.chainM 0) i).2.toArray) (Wi.rdI (Wi.chainM 0) i).1) := by
  have HCP := Lib.hid hcap
  obtain ⟨gt, hgt⟩ : ∃ gt, w.heap.size = gt := ⟨_, rfl⟩
  have hgl : g < gt := by rw [← hgt]; exact h.B.lt
  have hbl : ∀ k, Mem.blk A = some k → k < gt := fun k hk => by rw [← hgt]; exact (h.ne k hk).2
  obtain ⟨w1, hw1⟩ : ∃ w1, w.alloc (.cells #[.int .i64 0, .int .i64 0, .int .i64 0, .int .i64 0, .int .i64 0, .int .i64 0, .int .i64 0, .int .i64 0, .int .i64 0, .int .i64 0, .bool false, .int .i64 0, .int .i64 0] 35) = w1 := ⟨_, rfl⟩
  have hs1 : w1.heap.size = gt + 1 := by rw [← hw1, ← hgt]; exact Array.size_push _
  have hz1 : Mem.Bx w1 35 13 gt (zCh) := by rw [← hw1]; exact Mem.Bx.new w 35 #[.int .i64 0, .int .i64 0, .int .i64 0, .int .i64 0, .int .i64 0, .int .i64 0, .int .i64 0, .int .i64 0, .int .i64 0, .int .i64 0, .bool false, .int .i64 0, .int .i64 0] rfl hgt
  have hb1 : Below w.heap.size w w1 := by rw [← hw1]; exact Reg.below_new _ _
  obtain ⟨w2, hw2⟩ : ∃ w2, w1.alloc (.cells #[.int .i64 0, .int .i64 0, .int .i64 0, .int .i64 0, .int .i64 0, .int .i64 0, .int .i64 0, .int .i64 0, .int .i64 0, .int .i64 0, .bool false, .int .i64 0, .int .i64 0] 35) = w2 := ⟨_, rfl⟩
  have hz2 : Mem.Bx w2 35 13 (gt + 1) (zCh) := by rw [← hw2]; exact Mem.Bx.new w1 35 #[.int .i64 0, .int .i64 0, .int .i64 0, .int .i64 0, .int .i64 0, .int .i64 0, .int .i64 0, .int .i64 0, .int .i64 0, .int .i64 0, .bool false, .int .i64 0, .int .i64 0] rfl hs1
  have hb2 : Below w1.heap.size w1 w2 := by rw [← hw2]; exact Reg.below_new _ _
  have HB := Lib.hid (hb1.trans (hb2.mono hb1.size))
  have HT := Lib.hid (hz1.below hb2 (by rw [hs1]; omega))
  have HP0 : Hid (IP w2 g A cap 35 13 (gt + 1) i ([] ++ (zCh).drop 0) w2) := ⟨h.keeps (Mem.Keeps.of_below HB.out) (fun _ _ h => h), hz2, Mem.Keeps.refl _ _⟩
  have HE0 : Hid (rdI [] i = (i, [])) := rfl
  have HL0 : Hid (([] : List Value).length = 0) := rfl
  have HW1 := Lib.hid hw1
  have HW2 := Lib.hid hw2
  have HG := Lib.hid hgt
  have HS1 := Lib.hid hs1
  have HGL := Lib.hid hgl
  have HBL := Lib.hid hbl
  clear hcap h hgt hgl hbl hw1 hs1 hz1 hb1 hw2 hz2 hb2
  go_enter Try.func37, Try.ntmps37
  go_upto_region 1 with fail
  rw [HW1.out, HG.out]
  go_upto_region 2 with fail
  rw [HW2.out, HS1.out]
  clear HW1 HW2
  obtain ⟨i1, hi0⟩ : ∃ z, (inNum i).1 = z := ⟨_, rfl⟩
  obtain ⟨u0, hu0⟩ : ∃ z, (inNum i).2 = z := ⟨_, rfl⟩
  have hx0 := iNumber_any HP0.out.h
  rw [hi0, hu0] at hx0
  have HX0 := Lib.hid hx0
  have hr0 : rdI [.n 0] i = (i1, [(.int .i64 (u0 : Nat))]) := by rw [← hi0, ← hu0]; rfl
  have HR0 := Lib.hid hr0
  clear hi0 hu0 hx0 hr0
  go_upto_region 3 with (go_at_call 35; refine HX0.out.mono ?_; rintro x9 v3 ⟨rfl, ha, hk9⟩; have hq : IP w2 g A cap 35 13 (gt + 1) i1 ([] ++ (zCh).drop 0) v3 := HP0.out.call ha hk9 (by have := HGL.out; omega); have HQ0 := Lib.hid hq; have y0 : v3.cell? ⟨gt + 1, 0, none⟩ = some (.int .i64 0) := hq.b.cell (by rw [dz_get HL0.out]; rfl); have yf0 := hq.b.fr; clear ha hk9 hq)
  obtain ⟨w3, hw0⟩ : ∃ z, v3.setCell ⟨gt + 1, 0, none⟩ (.int .i64 (u0 : Nat)) = z := ⟨_, rfl⟩
  obtain ⟨ds1, hd0⟩ : ∃ z : List Value, [] ++ [(.int .i64 (u0 : Nat))] = z := ⟨_, rfl⟩
  have HP1 : Hid (IP w2 g A cap 35 13 (gt + 1) i1 (ds1 ++ (zCh).drop 1) w3) := by show IP _ _ _ _ _ _ _ _ _ _; rw [← hw0, ← hd0]; exact HQ0.out.put HL0.out (by decide) (by have := HGL.out; omega) (fun q hq => by have := HBL.out q hq; omega)
  have HL1 : Hid (ds1.length = 1) := by show _ = _; rw [← hd0, List.length_append, HL0.out]; rfl
  have HE1 : Hid (rdI ([] ++ [.n 0]) i = (i1, ds1)) := by show _ = _; rw [rdI_app, HE0.out, ← hd0]; show ((rdI _ i).1, _ ++ (rdI _ i).2) = _; rw [HR0.out]
  rw [hw0]
  clear hw0 hd0 HQ0 y0 yf0 HR0 HP0 HL0 HE0
  try clear HX0
  obtain ⟨i2, hi1⟩ : ∃ z, (inNum i1).1 = z := ⟨_, rfl⟩
  obtain ⟨u1, hu1⟩ : ∃ z, (inNum i1).2 = z := ⟨_, rfl⟩
  have hx1 := iNumber_any HP1.out.h
  rw [hi1, hu1] at hx1
  have HX1 := Lib.hid hx1
  have hr1 : rdI [.n 0] i1 = (i2, [(.int .i64 (u1 : Nat))]) := by rw [← hi1, ← hu1]; rfl
  have HR1 := Lib.hid hr1
  clear hi1 hu1 hx1 hr1
  go_upto_region 4 with (go_at_call 35; refine HX1.out.mono ?_; rintro x9 v4 ⟨rfl, ha, hk9⟩; have hq : IP w2 g A cap 35 13 (gt + 1) i2 (ds1 ++ (zCh).drop 1) v4 := HP1.out.call ha hk9 (by have := HGL.out; omega); have HQ1 := Lib.hid hq; have y1 : v4.cell? ⟨gt + 1, 1, none⟩ = some (.int .i64 0) := hq.b.cell (by rw [dz_get HL1.out]; rfl); have yf1 := hq.b.fr; clear ha hk9 hq)
  obtain ⟨w4, hw1⟩ : ∃ z, v4.setCell ⟨gt + 1, 1, none⟩ (.int .i64 (u1 : Nat)) = z := ⟨_, rfl⟩
  obtain ⟨ds2, hd1⟩ : ∃ z : List Value, ds1 ++ [(.int .i64 (u1 : Nat))] = z := ⟨_, rfl⟩
  have HP2 : Hid (IP w2 g A cap 35 13 (gt + 1) i2 (ds2 ++ (zCh).drop 2) w4) := by show IP _ _ _ _ _ _ _ _ _ _; rw [← hw1, ← hd1]; exact HQ1.out.put HL1.out (by decide) (by have := HGL.out; omega) (fun q hq => by have := HBL.out q hq; omega)
  have HL2 : Hid (ds2.length = 2) := by show _ = _; rw [← hd1, List.length_append, HL1.out]; rfl
  have HE2 : Hid (rdI (([] ++ [.n 0]) ++ [.n 0]) i = (i2, ds2)) := by show _ = _; rw [rdI_app, HE1.out, ← hd1]; show ((rdI _ i1).1, _ ++ (rdI _ i1).2) = _; rw [HR1.out]
  rw [hw1]
  clear hw1 hd1 HQ1 y1 yf1 HR1 HP1 HL1 HE1
  try clear HX1
  have HV : RvRel w2 g A cap 35 13 (gt + 1) i zCh 2 (2 * 0) w4 := ⟨⟨i2, ds2, HE2, HL2, HP2⟩⟩
  clear HP2 HE2 HL2
  go_wp2
  go_loopw [4] (RoRel w2 g A cap 35 13 (gt + 1) i zCh 4 2 2) (fun t _ => 4 - (intOf t).toNat)
  case atStart => exact ⟨⟨0, by omega, rfl, HV⟩⟩
  case round =>
    obtain ⟨d, hd, rfl, HVd⟩ := hrel.out
    clear hrel HV
    obtain ⟨i2, ds2, HE2, HL2, HP2⟩ := HVd.out
    clear HVd
    by_cases hlt : d < 4
    · have d1 : decide ((d : Int) < 4) = true := by simp; omega
      have d1n : decide (d < 4) = true := by simpa using hlt
      obtain ⟨i3, hi3⟩ : ∃ z, (rdI (ns 0 2) i2).1 = z := ⟨_, rfl⟩
      obtain ⟨zs3, hu3⟩ : ∃ z, (rdI (ns 0 2) i2).2 = z := ⟨_, rfl⟩
      have hx3 := iMember_any HP2.out.h HCP.out
      rw [hi3, hu3] at hx3
      have HX3 := Lib.hid hx3
      have hr3 : rdI (ns 0 2) i2 = (i3, zs3) := by rw [← hi3, ← hu3]
      have hl3 : Hid (zs3.length = 2) := by show _ = _; rw [← hu3, rdI_len]; rfl
      have ho3 : Hid (∀ y ∈ zs3, y.oneCell' = true) := by rw [← hu3]; exact rdI_one _ _
      have hs3 : rdI (ns 0 (2 + 2 * (d + 1))) i = (i3, ds2 ++ zs3) := by
        have e9 : ns 0 (2 + 2 * (d + 1)) = ns 0 (2 + 2 * d) ++ ns (2 + 2 * d) 2 := by
          rw [show 2 + 2 * (d + 1) = 2 + 2 * d + 1 + 1 by omega, ns_snoc, ns_snoc, List.append_assoc]
          unfold ns; rw [Nat.zero_add, Nat.zero_add]; rfl
        rw [e9, rdI_app, HE2.out]
        show ((rdI _ i2).1, ds2 ++ (rdI _ i2).2) = _
        rw [rdI_same (a := ns (2 + 2 * d) 2) (b := ns 0 2) rfl i2, hr3]
      rw [Nat.mul_comm 2 d] at HL2 HP2
      have hle3 : Hid (2 + d * 2 + zs3.length ≤ (ds2 ++ zCh.drop (2 + d * 2)).length) := by
        show _ ≤ _
        rw [hl3.out, List.length_append, HL2.out, List.length_drop]
        show _ ≤ 2 + d * 2 + (13 - (2 + d * 2))
        omega
      have HS3 := Lib.hid hs3
      clear hi3 hu3 hx3 hr3 hs3
      go_upto_region 6 with (first | (go_at_call 54; refine HX3.out.mono ?_; rintro x9 v4 ⟨rfl, ha, hk9⟩; have hq : IP w2 g A cap 35 13 (gt + 1) i3 (ds2 ++ zCh.drop (2 + d * 2)) v4 := HP2.out.call ha hk9 (by have := HGL.out; omega); have HQ3 := Lib.hid hq; clear ha hk9 hq) | ((with_reducible refine Mem.store_part _ _ mem_agg 35 13 (gt + 1) (2 + d * 2) (ds2 ++ zCh.drop (2 + d * 2)) zs3 ?hxb ?hyb HQ3.out.b hl3.out hle3.out ho3.out ?_); (case hxb => exact rfl); (case hyb => exact rfl); intro w5 hb9 hk9 hs9; have HQB := Lib.hid hb9; have HQK := Lib.hid hk9; clear hb9 hk9 hs9))
      have HP3 : Hid (IP w2 g A cap 35 13 (gt + 1) i3 ((ds2 ++ zs3) ++ zCh.drop (2 + d * 2 + 2)) w5) := HQ3.out.part HL2.out hl3.out HQB.out HQK.out (by have := HGL.out; omega) (fun q hq => by have := HBL.out q hq; omega)
      have HL3 : Hid ((ds2 ++ zs3).length = 2 + d * 2 + 2) := by show _ = _; rw [List.length_append, HL2.out, hl3.out]
      clear HQ3 HQB HQK HP2 HL2 HE2 hl3 ho3 hle3
      try clear HX3
      go_wp2
      go_roundw
      case rel => exact ⟨⟨d + 1, by omega, by go_num, ⟨⟨i3, _, HS3, by rw [show 2 + 2 * (d + 1) = 2 + d * 2 + 2 by omega]; exact HL3, by rw [show 2 + 2 * (d + 1) = 2 + d * 2 + 2 by omega]; exact HP3⟩⟩⟩⟩
      case measure => simp [intOf]; omega
    · obtain rfl : d = 4 := by omega
      have d1 : decide (((4 : Nat) : Int) < 4) = false := by decide
      go_upto_region 8 with fail
      clear d1 hd hlt
      obtain ⟨w4, hw4⟩ : ∃ z, wr = z := ⟨_, rfl⟩
      rw [hw4] at HP2 ⊢
      clear hw4
      obtain ⟨i3, hi2⟩ : ∃ z, (inTru i2).1 = z := ⟨_, rfl⟩
      obtain ⟨u2, hu2⟩ : ∃ z, (inTru i2).2 = z := ⟨_, rfl⟩
      have hx2 := iTruth_any HP2.out.h
      rw [hi2, hu2] at hx2
      have HX2 := Lib.hid hx2
      have hr2 : rdI [.b 0] i2 = (i3, [(.bool u2)]) := by rw [← hi2, ← hu2]; rfl
      have HR2 := Lib.hid hr2
      clear hi2 hu2 hx2 hr2
      go_upto_region 9 with (go_at_call 42; refine HX2.out.mono ?_; rintro x9 v5 ⟨rfl, ha, hk9⟩; have hq : IP w2 g A cap 35 13 (gt + 1) i3 (ds2 ++ (zCh).drop 10) v5 := HP2.out.call ha hk9 (by have := HGL.out; omega); have HQ2 := Lib.hid hq; have y2 : v5.cell? ⟨gt + 1, 10, none⟩ = some (.bool false) := hq.b.cell (by rw [dz_get HL2.out]; rfl); have yf2 := hq.b.fr; clear ha hk9 hq)
      obtain ⟨w5, hw2⟩ : ∃ z, v5.setCell ⟨gt + 1, 10, none⟩ (.bool u2) = z := ⟨_, rfl⟩
      obtain ⟨ds3, hd2⟩ : ∃ z : List Value, ds2 ++ [(.bool u2)] = z := ⟨_, rfl⟩
      have HP3 : Hid (IP w2 g A cap 35 13 (gt + 1) i3 (ds3 ++ (zCh).drop 11) w5) := by show IP _ _ _ _ _ _ _ _ _ _; rw [← hw2, ← hd2]; exact HQ2.out.put HL2.out (by decide) (by have := HGL.out; omega) (fun q hq => by have := HBL.out q hq; omega)
      have HL3 : Hid (ds3.length = 11) := by show _ = _; rw [← hd2, List.length_append, HL2.out]; rfl
      have HE3 : Hid (rdI ((ns 0 10) ++ [.b 0]) i = (i3, ds3)) := by show _ = _; rw [rdI_app, HE2.out, ← hd2]; show ((rdI _ i2).1, _ ++ (rdI _ i2).2) = _; rw [HR2.out]
      rw [hw2]
      clear hw2 hd2 HQ2 y2 yf2 HR2 HP2 HL2 HE2
      try clear HX2
      obtain ⟨i4, hi3⟩ : ∃ z, (rdI (ns 0 2) i3).1 = z := ⟨_, rfl⟩
      obtain ⟨zs3, hu3⟩ : ∃ z, (rdI (ns 0 2) i3).2 = z := ⟨_, rfl⟩
      have hx3 := iMember_any HP3.out.h HCP.out
      rw [hi3, hu3] at hx3
      have HX3 := Lib.hid hx3
      have hr3 : rdI (ns 0 2) i3 = (i4, zs3) := by rw [← hi3, ← hu3]
      have hl3 : Hid (zs3.length = 2) := by show _ = _; rw [← hu3, rdI_len]; rfl
      have ho3 : Hid (∀ y ∈ zs3, y.oneCell' = true) := by rw [← hu3]; exact rdI_one _ _
      have HR3 := Lib.hid hr3
      clear hi3 hu3 hx3 hr3
      go_upto_region 10 with (first | (go_at_call 54; refine HX3.out.mono ?_; rintro x9 v6 ⟨rfl, ha, hk9⟩; have hq : IP w2 g A cap 35 13 (gt + 1) i4 (ds3 ++ (zCh).drop 11) v6 := HP3.out.call ha hk9 (by have := HGL.out; omega); have HQ3 := Lib.hid hq; clear ha hk9 hq) | ((with_reducible refine Mem.store_part _ _ mem_agg 35 13 (gt + 1) 11 (ds3 ++ (zCh).drop 11) zs3 ?hxb ?hyb HQ3.out.b hl3.out (by rw [hl3.out, List.length_append, HL3.out]; decide) ho3.out ?_); (case hxb => exact rfl); (case hyb => exact rfl); intro w6 hb9 hk9 hs9; have HQB := Lib.hid hb9; have HQK := Lib.hid hk9; clear hb9 hk9 hs9))
      obtain ⟨ds4, hd3⟩ : ∃ z, ds3 ++ zs3 = z := ⟨_, rfl⟩
      have HP4 : Hid (IP w2 g A cap 35 13 (gt + 1) i4 (ds4 ++ (zCh).drop 13) w6) := by show IP _ _ _ _ _ _ _ _ _ _; rw [← hd3]; exact HQ3.out.part HL3.out hl3.out HQB.out HQK.out (by have := HGL.out; omega) (fun q hq => by have := HBL.out q hq; omega)
      have HL4 : Hid (ds4.length = 13) := by show _ = _; rw [← hd3, List.length_append, HL3.out, hl3.out]
      have HE4 : Hid (rdI (((ns 0 10) ++ [.b 0]) ++ (ns 0 2)) i = (i4, ds4)) := by show _ = _; rw [rdI_app, HE3.out, ← hd3]; show ((rdI _ i3).1, _ ++ (rdI _ i3).2) = _; rw [HR3.out]
      clear hd3 HQ3 HQB HQK HR3 HP3 HL3 HE3 hl3 ho3
      try clear HX3
      have hT9 : Mem.Bx w6 35 13 gt (zCh) := HT.out.keeps HP4.out.k (by have := HGL.out; omega)
      have HT9 := Lib.hid hT9
      have hB9 : Mem.Bx w6 35 13 (gt + 1) ds4 := by have := HP4.out.b; rw [dz_all HL4.out rfl] at this; exact this
      have HB9 := Lib.hid hB9
      have hE9 : rdI (chainM 0) i = (i4, ds4) := (rdI_same rfl i).trans HE4.out
      have hO9 : Hid (∀ y ∈ ds4, y.oneCell' = true) := by have := rdI_one (chainM 0) i; rw [hE9] at this; exact this
      have HE9 := Lib.hid hE9
      clear hT9 hB9 hE9
      go_wp2_with (first | ((with_reducible refine Mem.load_agg _ _ wconfig_agg (gt + 1) 0 ds4 ?hxa HL4.out (fun j u hu => by rw [Nat.zero_add]; exact HB9.out.cell hu) ?_); case hxa => exact rfl) | ((with_reducible refine Mem.store_agg _ _ wconfig_agg gt (zCh) ds4 ?hx ?hy HT9.out HL4.out hO9.out ?_); (case hx => exact rfl); (case hy => exact rfl); intro wz hbz hkz hsz))
      try simp only [Exit.jump, Exit.inBlock, Exit.then]
      refine bodyPost_ret (v := .agg ds4.toArray) (results_agg1 Try.results37 wconfig_agg rfl hbz) rfl ⟨by rw [HE9.out], ?_, ?_⟩
      · rw [HE9.out]; exact HP4.out.h.keeps hkz (fun q hq h => by have := HGL.out; have := HBL.out; rcases hq with hq | hq; omega; have := HBL.out q hq; omega)
      · exact IP.ends HB.out (HP4.out.k) hkz (by have := HG.out; omega) (by have := HG.out; omega)
open Wi in
set_option maxRecDepth 100000 in
set_option maxHeartbeats 4000000 in
theorem iEntry_any {w : World} {g : Nat} {A : Option Addr} {cap : Nat} {i : Wi.Id} (h : Wi.IAt w g A cap i) (hcap : cap ≤ maxLen) :
    Calls Try.prog 36 #[.pointer (some ⟨g, 0, none⟩)] w (Wi.IEnd w g A cap (.agg (Wi.rdI (Wi.writeM 0) i).2.toArray) (Wi.rdI (Wi.writeM 0) i).1) := by
  have HCP := Lib.hid hcap
  obtain ⟨gt, hgt⟩ : ∃ gt, w.heap.size = gt := ⟨_, rfl⟩
  have hgl : g < gt := by rw [← hgt]; exact h.B.lt
  have hbl : ∀ k, Mem.blk A = some k → k < gt := fun k hk => by rw [← hgt]; exact (h.ne k hk).2
  obtain ⟨w1, hw1⟩ : ∃ w1, w.alloc (.cells #[.int .i64 0, .int .i64 0, .int .i64 0, .int .i64 0, .int .i64 0, .int .i64 0, .string ⟨#[]⟩, .string ⟨#[]⟩, .bool false, .int .i64 0, .int .i64 0, .int .i64 0, .int .i64 0, .int .i64 0, .int .i64 0, .int .i64 0, .int .i64 0, .int .i64 0, .int .i64 0, .int .i64 0] 30) = w1 := ⟨_, rfl⟩
  have hs1 : w1.heap.size = gt + 1 := by rw [← hw1, ← hgt]; exact Array.size_push _
  have hz1 : Mem.Bx w1 30 20 gt (zEn) := by rw [← hw1]; exact Mem.Bx.new w 30 #[.int .i64 0, .int .i64 0, .int .i64 0, .int .i64 0, .int .i64 0, .int .i64 0, .string ⟨#[]⟩, .string ⟨#[]⟩, .bool false, .int .i64 0, .int .i64 0, .int .i64 0, .int .i64 0, .int .i64 0, .int .i64 0, .int .i64 0, .int .i64 0, .int .i64 0, .int .i64 0, .int .i64 0] rfl hgt
  have hb1 : Below w.heap.size w w1 := by rw [← hw1]; exact Reg.below_new _ _
  obtain ⟨w2, hw2⟩ : ∃ w2, w1.alloc (.cells #[.int .i64 0, .int .i64 0, .int .i64 0, .int .i64 0, .int .i64 0, .int .i64 0, .string ⟨#[]⟩, .string ⟨#[]⟩, .bool false, .int .i64 0, .int .i64 0, .int .i64 0, .int .i64 0, .int .i64 0, .int .i64 0, .int .i64 0, .int .i64 0, .int .i64 0, .int .i64 0, .int .i64 0] 30) = w2 := ⟨_, rfl⟩
  have hz2 : Mem.Bx w2 30 20 (gt + 1) (zEn) := by rw [← hw2]; exact Mem.Bx.new w1 30 #[.int .i64 0, .int .i64 0, .int .i64 0, .int .i64 0, .int .i64 0, .int .i64 0, .string ⟨#[]⟩, .string ⟨#[]⟩, .bool false, .int .i64 0, .int .i64 0, .int .i64 0, .int .i64 0, .int .i64 0, .int .i64 0, .int .i64 0, .int .i64 0, .int .i64 0, .int .i64 0, .int .i64 0] rfl hs1
  have hb2 : Below w1.heap.size w1 w2 := by rw [← hw2]; exact Reg.below_new _ _
  have HB := Lib.hid (hb1.trans (hb2.mono hb1.size))
  have HT := Lib.hid (hz1.below hb2 (by rw [hs1]; omega))
  have HP0 : Hid (IP w2 g A cap 30 20 (gt + 1) i ([] ++ (zEn).drop 0) w2) := ⟨h.keeps (Mem.Keeps.of_below HB.out) (fun _ _ h => h), hz2, Mem.Keeps.refl _ _⟩
  have HE0 : Hid (rdI [] i = (i, [])) := rfl
  have HL0 : Hid (([] : List Value).length = 0) := rfl
  have HW1 := Lib.hid hw1
  have HW2 := Lib.hid hw2
  have HG := Lib.hid hgt
  have HS1 := Lib.hid hs1
  have HGL := Lib.hid hgl
  have HBL := Lib.hid hbl
  clear hcap h hgt hgl hbl hw1 hs1 hz1 hb1 hw2 hz2 hb2
  go_enter Try.func36, Try.ntmps36
  go_upto_region 1 with fail
  rw [HW1.out, HG.out]
  go_upto_region 2 with fail
  rw [HW2.out, HS1.out]
  clear HW1 HW2
  obtain ⟨i1, hi0⟩ : ∃ z, (inNum i).1 = z := ⟨_, rfl⟩
  obtain ⟨u0, hu0⟩ : ∃ z, (inNum i).2 = z := ⟨_, rfl⟩
  have hx0 := iNumber_any HP0.out.h
  rw [hi0, hu0] at hx0
  have HX0 := Lib.hid hx0
  have hr0 : rdI [.n 0] i = (i1, [(.int .i64 (u0 : Nat))]) := by rw [← hi0, ← hu0]; rfl
  have HR0 := Lib.hid hr0
  clear hi0 hu0 hx0 hr0
  go_upto_region 3 with (go_at_call 35; refine HX0.out.mono ?_; rintro x9 v3 ⟨rfl, ha, hk9⟩; have hq : IP w2 g A cap 30 20 (gt + 1) i1 ([] ++ (zEn).drop 0) v3 := HP0.out.call ha hk9 (by have := HGL.out; omega); have HQ0 := Lib.hid hq; have y0 : v3.cell? ⟨gt + 1, 0, none⟩ = some (.int .i64 0) := hq.b.cell (by rw [dz_get HL0.out]; rfl); have yf0 := hq.b.fr; clear ha hk9 hq)
  obtain ⟨w3, hw0⟩ : ∃ z, v3.setCell ⟨gt + 1, 0, none⟩ (.int .i64 (u0 : Nat)) = z := ⟨_, rfl⟩
  obtain ⟨ds1, hd0⟩ : ∃ z : List Value, [] ++ [(.int .i64 (u0 : Nat))] = z := ⟨_, rfl⟩
  have HP1 : Hid (IP w2 g A cap 30 20 (gt + 1) i1 (ds1 ++ (zEn).drop 1) w3) := by show IP _ _ _ _ _ _ _ _ _ _; rw [← hw0, ← hd0]; exact HQ0.out.put HL0.out (by decide) (by have := HGL.out; omega) (fun q hq => by have := HBL.out q hq; omega)
  have HL1 : Hid (ds1.length = 1) := by show _ = _; rw [← hd0, List.length_append, HL0.out]; rfl
  have HE1 : Hid (rdI ([] ++ [.n 0]) i = (i1, ds1)) := by show _ = _; rw [rdI_app, HE0.out, ← hd0]; show ((rdI _ i).1, _ ++ (rdI _ i).2) = _; rw [HR0.out]
  rw [hw0]
  clear hw0 hd0 HQ0 y0 yf0 HR0 HP0 HL0 HE0
  try clear HX0
  obtain ⟨i2, hi1⟩ : ∃ z, (inNum i1).1 = z := ⟨_, rfl⟩
  obtain ⟨u1, hu1⟩ : ∃ z, (inNum i1).2 = z := ⟨_, rfl⟩
  have hx1 := iNumber_any HP1.out.h
  rw [hi1, hu1] at hx1
  have HX1 := Lib.hid hx1
  have hr1 : rdI [.n 0] i1 = (i2, [(.int .i64 (u1 : Nat))]) := by rw [← hi1, ← hu1]; rfl
  have HR1 := Lib.hid hr1
  clear hi1 hu1 hx1 hr1
  go_upto_region 4 with (go_at_call 35; refine HX1.out.mono ?_; rintro x9 v4 ⟨rfl, ha, hk9⟩; have hq : IP w2 g A cap 30 20 (gt + 1) i2 (ds1 ++ (zEn).drop 1) v4 := HP1.out.call ha hk9 (by have := HGL.out; omega); have HQ1 := Lib.hid hq; have y1 : v4.cell? ⟨gt + 1, 1, none⟩ = some (.int .i64 0) := hq.b.cell (by rw [dz_get HL1.out]; rfl); have yf1 := hq.b.fr; clear ha hk9 hq)
  obtain ⟨w4, hw1⟩ : ∃ z, v4.setCell ⟨gt + 1, 1, none⟩ (.int .i64 (u1 : Nat)) = z := ⟨_, rfl⟩
  obtain ⟨ds2, hd1⟩ : ∃ z : List Value, ds1 ++ [(.int .i64 (u1 : Nat))] = z := ⟨_, rfl⟩
  have HP2 : Hid (IP w2 g A cap 30 20 (gt + 1) i2 (ds2 ++ (zEn).drop 2) w4) := by show IP _ _ _ _ _ _ _ _ _ _; rw [← hw1, ← hd1]; exact HQ1.out.put HL1.out (by decide) (by have := HGL.out; omega) (fun q hq => by have := HBL.out q hq; omega)
  have HL2 : Hid (ds2.length = 2) := by show _ = _; rw [← hd1, List.length_append, HL1.out]; rfl
  have HE2 : Hid (rdI (([] ++ [.n 0]) ++ [.n 0]) i = (i2, ds2)) := by show _ = _; rw [rdI_app, HE1.out, ← hd1]; show ((rdI _ i1).1, _ ++ (rdI _ i1).2) = _; rw [HR1.out]
  rw [hw1]
  clear hw1 hd1 HQ1 y1 yf1 HR1 HP1 HL1 HE1
  try clear HX1
  obtain ⟨i3, hi2⟩ : ∃ z, (inNum i2).1 = z := ⟨_, rfl⟩
  obtain ⟨u2, hu2⟩ : ∃ z, (inNum i2).2 = z := ⟨_, rfl⟩
  have hx2 := iNumber_any HP2.out.h
  rw [hi2, hu2] at hx2
  have HX2 := Lib.hid hx2
  have hr2 : rdI [.n 0] i2 = (i3, [(.int .i64 (u2 : Nat))]) := by rw [← hi2, ← hu2]; rfl
  have HR2 := Lib.hid hr2
  clear hi2 hu2 hx2 hr2
  go_upto_region 5 with (go_at_call 35; refine HX2.out.mono ?_; rintro x9 v5 ⟨rfl, ha, hk9⟩; have hq : IP w2 g A cap 30 20 (gt + 1) i3 (ds2 ++ (zEn).drop 2) v5 := HP2.out.call ha hk9 (by have := HGL.out; omega); have HQ2 := Lib.hid hq; have y2 : v5.cell? ⟨gt + 1, 2, none⟩ = some (.int .i64 0) := hq.b.cell (by rw [dz_get HL2.out]; rfl); have yf2 := hq.b.fr; clear ha hk9 hq)
  obtain ⟨w5, hw2⟩ : ∃ z, v5.setCell ⟨gt + 1, 2, none⟩ (.int .i64 (u2 : Nat)) = z := ⟨_, rfl⟩
  obtain ⟨ds3, hd2⟩ : ∃ z : List Value, ds2 ++ [(.int .i64 (u2 : Nat))] = z := ⟨_, rfl⟩
  have HP3 : Hid (IP w2 g A cap 30 20 (gt + 1) i3 (ds3 ++ (zEn).drop 3) w5) := by show IP _ _ _ _ _ _ _ _ _ _; rw [← hw2, ← hd2]; exact HQ2.out.put HL2.out (by decide) (by have := HGL.out; omega) (fun q hq => by have := HBL.out q hq; omega)
  have HL3 : Hid (ds3.length = 3) := by show _ = _; rw [← hd2, List.length_append, HL2.out]; rfl
  have HE3 : Hid (rdI ((([] ++ [.n 0]) ++ [.n 0]) ++ [.n 0]) i = (i3, ds3)) := by show _ = _; rw [rdI_app, HE2.out, ← hd2]; show ((rdI _ i2).1, _ ++ (rdI _ i2).2) = _; rw [HR2.out]
  rw [hw2]
  clear hw2 hd2 HQ2 y2 yf2 HR2 HP2 HL2 HE2
  try clear HX2
  obtain ⟨i4, hi3⟩ : ∃ z, (inNum i3).1 = z := ⟨_, rfl⟩
  obtain ⟨u3, hu3⟩ : ∃ z, (inNum i3).2 = z := ⟨_, rfl⟩
  have hx3 := iNumber_any HP3.out.h
  rw [hi3, hu3] at hx3
  have HX3 := Lib.hid hx3
  have hr3 : rdI [.n 0] i3 = (i4, [(.int .i64 (u3 : Nat))]) := by rw [← hi3, ← hu3]; rfl
  have HR3 := Lib.hid hr3
  clear hi3 hu3 hx3 hr3
  go_upto_region 6 with (go_at_call 35; refine HX3.out.mono ?_; rintro x9 v6 ⟨rfl, ha, hk9⟩; have hq : IP w2 g A cap 30 20 (gt + 1) i4 (ds3 ++ (zEn).drop 3) v6 := HP3.out.call ha hk9 (by have := HGL.out; omega); have HQ3 := Lib.hid hq; have y3 : v6.cell? ⟨gt + 1, 3, none⟩ = some (.int .i64 0) := hq.b.cell (by rw [dz_get HL3.out]; rfl); have yf3 := hq.b.fr; clear ha hk9 hq)
  obtain ⟨w6, hw3⟩ : ∃ z, v6.setCell ⟨gt + 1, 3, none⟩ (.int .i64 (u3 : Nat)) = z := ⟨_, rfl⟩
  obtain ⟨ds4, hd3⟩ : ∃ z : List Value, ds3 ++ [(.int .i64 (u3 : Nat))] = z := ⟨_, rfl⟩
  have HP4 : Hid (IP w2 g A cap 30 20 (gt + 1) i4 (ds4 ++ (zEn).drop 4) w6) := by show IP _ _ _ _ _ _ _ _ _ _; rw [← hw3, ← hd3]; exact HQ3.out.put HL3.out (by decide) (by have := HGL.out; omega) (fun q hq => by have := HBL.out q hq; omega)
  have HL4 : Hid (ds4.length = 4) := by show _ = _; rw [← hd3, List.length_append, HL3.out]; rfl
  have HE4 : Hid (rdI (((([] ++ [.n 0]) ++ [.n 0]) ++ [.n 0]) ++ [.n 0]) i = (i4, ds4)) := by show _ = _; rw [rdI_app, HE3.out, ← hd3]; show ((rdI _ i3).1, _ ++ (rdI _ i3).2) = _; rw [HR3.out]
  rw [hw3]
  clear hw3 hd3 HQ3 y3 yf3 HR3 HP3 HL3 HE3
  try clear HX3
  obtain ⟨i5, hi4⟩ : ∃ z, (inNum i4).1 = z := ⟨_, rfl⟩
  obtain ⟨u4, hu4⟩ : ∃ z, (inNum i4).2 = z := ⟨_, rfl⟩
  have hx4 := iNumber_any HP4.out.h
  rw [hi4, hu4] at hx4
  have HX4 := Lib.hid hx4
  have hr4 : rdI [.n 0] i4 = (i5, [(.int .i64 (u4 : Nat))]) := by rw [← hi4, ← hu4]; rfl
  have HR4 := Lib.hid hr4
  clear hi4 hu4 hx4 hr4
  go_upto_region 7 with (go_at_call 35; refine HX4.out.mono ?_; rintro x9 v7 ⟨rfl, ha, hk9⟩; have hq : IP w2 g A cap 30 20 (gt + 1) i5 (ds4 ++ (zEn).drop 4) v7 := HP4.out.call ha hk9 (by have := HGL.out; omega); have HQ4 := Lib.hid hq; have y4 : v7.cell? ⟨gt + 1, 4, none⟩ = some (.int .i64 0) := hq.b.cell (by rw [dz_get HL4.out]; rfl); have yf4 := hq.b.fr; clear ha hk9 hq)
  obtain ⟨w7, hw4⟩ : ∃ z, v7.setCell ⟨gt + 1, 4, none⟩ (.int .i64 (u4 : Nat)) = z := ⟨_, rfl⟩
  obtain ⟨ds5, hd4⟩ : ∃ z : List Value, ds4 ++ [(.int .i64 (u4 : Nat))] = z := ⟨_, rfl⟩
  have HP5 : Hid (IP w2 g A cap 30 20 (gt + 1) i5 (ds5 ++ (zEn).drop 5) w7) := by show IP _ _ _ _ _ _ _ _ _ _; rw [← hw4, ← hd4]; exact HQ4.out.put HL4.out (by decide) (by have := HGL.out; omega) (fun q hq => by have := HBL.out q hq; omega)
  have HL5 : Hid (ds5.length = 5) := by show _ = _; rw [← hd4, List.length_append, HL4.out]; rfl
  have HE5 : Hid (rdI ((((([] ++ [.n 0]) ++ [.n 0]) ++ [.n 0]) ++ [.n 0]) ++ [.n 0]) i = (i5, ds5)) := by show _ = _; rw [rdI_app, HE4.out, ← hd4]; show ((rdI _ i4).1, _ ++ (rdI _ i4).2) = _; rw [HR4.out]
  rw [hw4]
  clear hw4 hd4 HQ4 y4 yf4 HR4 HP4 HL4 HE4
  try clear HX4
  obtain ⟨i6, hi5⟩ : ∃ z, (inNum i5).1 = z := ⟨_, rfl⟩
  obtain ⟨u5, hu5⟩ : ∃ z, (inNum i5).2 = z := ⟨_, rfl⟩
  have hx5 := iNumber_any HP5.out.h
  rw [hi5, hu5] at hx5
  have HX5 := Lib.hid hx5
  have hr5 : rdI [.n 0] i5 = (i6, [(.int .i64 (u5 : Nat))]) := by rw [← hi5, ← hu5]; rfl
  have HR5 := Lib.hid hr5
  clear hi5 hu5 hx5 hr5
  go_upto_region 8 with (go_at_call 35; refine HX5.out.mono ?_; rintro x9 v8 ⟨rfl, ha, hk9⟩; have hq : IP w2 g A cap 30 20 (gt + 1) i6 (ds5 ++ (zEn).drop 5) v8 := HP5.out.call ha hk9 (by have := HGL.out; omega); have HQ5 := Lib.hid hq; have y5 : v8.cell? ⟨gt + 1, 5, none⟩ = some (.int .i64 0) := hq.b.cell (by rw [dz_get HL5.out]; rfl); have yf5 := hq.b.fr; clear ha hk9 hq)
  obtain ⟨w8, hw5⟩ : ∃ z, v8.setCell ⟨gt + 1, 5, none⟩ (.int .i64 (u5 : Nat)) = z := ⟨_, rfl⟩
  obtain ⟨ds6, hd5⟩ : ∃ z : List Value, ds5 ++ [(.int .i64 (u5 : Nat))] = z := ⟨_, rfl⟩
  have HP6 : Hid (IP w2 g A cap 30 20 (gt + 1) i6 (ds6 ++ (zEn).drop 6) w8) := by show IP _ _ _ _ _ _ _ _ _ _; rw [← hw5, ← hd5]; exact HQ5.out.put HL5.out (by decide) (by have := HGL.out; omega) (fun q hq => by have := HBL.out q hq; omega)
  have HL6 : Hid (ds6.length = 6) := by show _ = _; rw [← hd5, List.length_append, HL5.out]; rfl
  have HE6 : Hid (rdI (((((([] ++ [.n 0]) ++ [.n 0]) ++ [.n 0]) ++ [.n 0]) ++ [.n 0]) ++ [.n 0]) i = (i6, ds6)) := by show _ = _; rw [rdI_app, HE5.out, ← hd5]; show ((rdI _ i5).1, _ ++ (rdI _ i5).2) = _; rw [HR5.out]
  rw [hw5]
  clear hw5 hd5 HQ5 y5 yf5 HR5 HP5 HL5 HE5
  try clear HX5
  obtain ⟨i7, hi6⟩ : ∃ z, (inTxt i6 16).1 = z := ⟨_, rfl⟩
  obtain ⟨u6, hu6⟩ : ∃ z, (inTxt i6 16).2 = z := ⟨_, rfl⟩
  have hx6 := iText_any 16 (by omega) HP6.out.h HCP.out
  rw [hi6, hu6] at hx6
  have HX6 := Lib.hid hx6
  have hr6 : rdI [.t 0 16] i6 = (i7, [(.string u6)]) := by rw [← hi6, ← hu6]; rfl
  have HR6 := Lib.hid hr6
  clear hi6 hu6 hx6 hr6
  go_upto_region 9 with (go_at_call 43; refine HX6.out.mono ?_; rintro x9 v9 ⟨rfl, ha, hk9⟩; have hq : IP w2 g A cap 30 20 (gt + 1) i7 (ds6 ++ (zEn).drop 6) v9 := HP6.out.call ha hk9 (by have := HGL.out; omega); have HQ6 := Lib.hid hq; have y6 : v9.cell? ⟨gt + 1, 6, none⟩ = some (.string ⟨#[]⟩) := hq.b.cell (by rw [dz_get HL6.out]; rfl); have yf6 := hq.b.fr; clear ha hk9 hq)
  obtain ⟨w9, hw6⟩ : ∃ z, v9.setCell ⟨gt + 1, 6, none⟩ (.string u6) = z := ⟨_, rfl⟩
  obtain ⟨ds7, hd6⟩ : ∃ z : List Value, ds6 ++ [(.string u6)] = z := ⟨_, rfl⟩
  have HP7 : Hid (IP w2 g A cap 30 20 (gt + 1) i7 (ds7 ++ (zEn).drop 7) w9) := by show IP _ _ _ _ _ _ _ _ _ _; rw [← hw6, ← hd6]; exact HQ6.out.put HL6.out (by decide) (by have := HGL.out; omega) (fun q hq => by have := HBL.out q hq; omega)
  have HL7 : Hid (ds7.length = 7) := by show _ = _; rw [← hd6, List.length_append, HL6.out]; rfl
  have HE7 : Hid (rdI ((((((([] ++ [.n 0]) ++ [.n 0]) ++ [.n 0]) ++ [.n 0]) ++ [.n 0]) ++ [.n 0]) ++ [.t 0 16]) i = (i7, ds7)) := by show _ = _; rw [rdI_app, HE6.out, ← hd6]; show ((rdI _ i6).1, _ ++ (rdI _ i6).2) = _; rw [HR6.out]
  rw [hw6]
  clear hw6 hd6 HQ6 y6 yf6 HR6 HP6 HL6 HE6
  try clear HX6
  obtain ⟨i8, hi7⟩ : ∃ z, (inTxt i7 32).1 = z := ⟨_, rfl⟩
  obtain ⟨u7, hu7⟩ : ∃ z, (inTxt i7 32).2 = z := ⟨_, rfl⟩
  have hx7 := iText_any 32 (by omega) HP7.out.h HCP.out
  rw [hi7, hu7] at hx7
  have HX7 := Lib.hid hx7
  have hr7 : rdI [.t 0 32] i7 = (i8, [(.string u7)]) := by rw [← hi7, ← hu7]; rfl
  have HR7 := Lib.hid hr7
  clear hi7 hu7 hx7 hr7
  go_upto_region 10 with (go_at_call 43; refine HX7.out.mono ?_; rintro x9 v10 ⟨rfl, ha, hk9⟩; have hq : IP w2 g A cap 30 20 (gt + 1) i8 (ds7 ++ (zEn).drop 7) v10 := HP7.out.call ha hk9 (by have := HGL.out; omega); have HQ7 := Lib.hid hq; have y7 : v10.cell? ⟨gt + 1, 7, none⟩ = some (.string ⟨#[]⟩) := hq.b.cell (by rw [dz_get HL7.out]; rfl); have yf7 := hq.b.fr; clear ha hk9 hq)
  obtain ⟨w10, hw7⟩ : ∃ z, v10.setCell ⟨gt + 1, 7, none⟩ (.string u7) = z := ⟨_, rfl⟩
  obtain ⟨ds8, hd7⟩ : ∃ z : List Value, ds7 ++ [(.string u7)] = z := ⟨_, rfl⟩
  have HP8 : Hid (IP w2 g A cap 30 20 (gt + 1) i8 (ds8 ++ (zEn).drop 8) w10) := by show IP _ _ _ _ _ _ _ _ _ _; rw [← hw7, ← hd7]; exact HQ7.out.put HL7.out (by decide) (by have := HGL.out; omega) (fun q hq => by have := HBL.out q hq; omega)
  have HL8 : Hid (ds8.length = 8) := by show _ = _; rw [← hd7, List.length_append, HL7.out]; rfl
  have HE8 : Hid (rdI (((((((([] ++ [.n 0]) ++ [.n 0]) ++ [.n 0]) ++ [.n 0]) ++ [.n 0]) ++ [.n 0]) ++ [.t 0 16]) ++ [.t 0 32]) i = (i8, ds8)) := by show _ = _; rw [rdI_app, HE7.out, ← hd7]; show ((rdI _ i7).1, _ ++ (rdI _ i7).2) = _; rw [HR7.out]
  rw [hw7]
  clear hw7 hd7 HQ7 y7 yf7 HR7 HP7 HL7 HE7
  try clear HX7
  obtain ⟨i9, hi8⟩ : ∃ z, (inTru i8).1 = z := ⟨_, rfl⟩
  obtain ⟨u8, hu8⟩ : ∃ z, (inTru i8).2 = z := ⟨_, rfl⟩
  have hx8 := iTruth_any HP8.out.h
  rw [hi8, hu8] at hx8
  have HX8 := Lib.hid hx8
  have hr8 : rdI [.b 0] i8 = (i9, [(.bool u8)]) := by rw [← hi8, ← hu8]; rfl
  have HR8 := Lib.hid hr8
  clear hi8 hu8 hx8 hr8
  go_upto_region 11 with (go_at_call 42; refine HX8.out.mono ?_; rintro x9 v11 ⟨rfl, ha, hk9⟩; have hq : IP w2 g A cap 30 20 (gt + 1) i9 (ds8 ++ (zEn).drop 8) v11 := HP8.out.call ha hk9 (by have := HGL.out; omega); have HQ8 := Lib.hid hq; have y8 : v11.cell? ⟨gt + 1, 8, none⟩ = some (.bool false) := hq.b.cell (by rw [dz_get HL8.out]; rfl); have yf8 := hq.b.fr; clear ha hk9 hq)
  obtain ⟨w11, hw8⟩ : ∃ z, v11.setCell ⟨gt + 1, 8, none⟩ (.bool u8) = z := ⟨_, rfl⟩
  obtain ⟨ds9, hd8⟩ : ∃ z : List Value, ds8 ++ [(.bool u8)] = z := ⟨_, rfl⟩
  have HP9 : Hid (IP w2 g A cap 30 20 (gt + 1) i9 (ds9 ++ (zEn).drop 9) w11) := by show IP _ _ _ _ _ _ _ _ _ _; rw [← hw8, ← hd8]; exact HQ8.out.put HL8.out (by decide) (by have := HGL.out; omega) (fun q hq => by have := HBL.out q hq; omega)
  have HL9 : Hid (ds9.length = 9) := by show _ = _; rw [← hd8, List.length_append, HL8.out]; rfl
  have HE9 : Hid (rdI ((((((((([] ++ [.n 0]) ++ [.n 0]) ++ [.n 0]) ++ [.n 0]) ++ [.n 0]) ++ [.n 0]) ++ [.t 0 16]) ++ [.t 0 32]) ++ [.b 0]) i = (i9, ds9)) := by show _ = _; rw [rdI_app, HE8.out, ← hd8]; show ((rdI _ i8).1, _ ++ (rdI _ i8).2) = _; rw [HR8.out]
  rw [hw8]
  clear hw8 hd8 HQ8 y8 yf8 HR8 HP8 HL8 HE8
  try clear HX8
  obtain ⟨i10, hi9⟩ : ∃ z, (rdI (ns 0 9) i9).1 = z := ⟨_, rfl⟩
  obtain ⟨zs9, hu9⟩ : ∃ z, (rdI (ns 0 9) i9).2 = z := ⟨_, rfl⟩
  have hx9 := iVec_any HP9.out.h HCP.out
  rw [hi9, hu9] at hx9
  have HX9 := Lib.hid hx9
  have hr9 : rdI (ns 0 9) i9 = (i10, zs9) := by rw [← hi9, ← hu9]
  have hl9 : Hid (zs9.length = 9) := by show _ = _; rw [← hu9, rdI_len]; rfl
  have ho9 : Hid (∀ y ∈ zs9, y.oneCell' = true) := by rw [← hu9]; exact rdI_one _ _
  have HR9 := Lib.hid hr9
  clear hi9 hu9 hx9 hr9
  go_upto_region 12 with (first | (go_at_call 44; refine HX9.out.mono ?_; rintro x9 v12 ⟨rfl, ha, hk9⟩; have hq : IP w2 g A cap 30 20 (gt + 1) i10 (ds9 ++ (zEn).drop 9) v12 := HP9.out.call ha hk9 (by have := HGL.out; omega); have HQ9 := Lib.hid hq; clear ha hk9 hq) | ((with_reducible refine Mem.store_part _ _ vec_agg9 30 20 (gt + 1) 9 (ds9 ++ (zEn).drop 9) zs9 ?hxb ?hyb HQ9.out.b hl9.out (by rw [hl9.out, List.length_append, HL9.out]; decide) ho9.out ?_); (case hxb => exact rfl); (case hyb => exact rfl); intro w12 hb9 hk9 hs9; have HQB := Lib.hid hb9; have HQK := Lib.hid hk9; clear hb9 hk9 hs9))
  obtain ⟨ds10, hd9⟩ : ∃ z, ds9 ++ zs9 = z := ⟨_, rfl⟩
  have HP10 : Hid (IP w2 g A cap 30 20 (gt + 1) i10 (ds10 ++ (zEn).drop 18) w12) := by show IP _ _ _ _ _ _ _ _ _ _; rw [← hd9]; exact HQ9.out.part HL9.out hl9.out HQB.out HQK.out (by have := HGL.out; omega) (fun q hq => by have := HBL.out q hq; omega)
  have HL10 : Hid (ds10.length = 18) := by show _ = _; rw [← hd9, List.length_append, HL9.out, hl9.out]
  have HE10 : Hid (rdI (((((((((([] ++ [.n 0]) ++ [.n 0]) ++ [.n 0]) ++ [.n 0]) ++ [.n 0]) ++ [.n 0]) ++ [.t 0 16]) ++ [.t 0 32]) ++ [.b 0]) ++ (ns 0 9)) i = (i10, ds10)) := by show _ = _; rw [rdI_app, HE9.out, ← hd9]; show ((rdI _ i9).1, _ ++ (rdI _ i9).2) = _; rw [HR9.out]
  clear hd9 HQ9 HQB HQK HR9 HP9 HL9 HE9 hl9 ho9
  try clear HX9
  obtain ⟨i11, hi10⟩ : ∃ z, (inNum i10).1 = z := ⟨_, rfl⟩
  obtain ⟨u10, hu10⟩ : ∃ z, (inNum i10).2 = z := ⟨_, rfl⟩
  have hx10 := iNumber_any HP10.out.h
  rw [hi10, hu10] at hx10
  have HX10 := Lib.hid hx10
  have hr10 : rdI [.n 0] i10 = (i11, [(.int .i64 (u10 : Nat))]) := by rw [← hi10, ← hu10]; rfl
  have HR10 := Lib.hid hr10
  clear hi10 hu10 hx10 hr10
  go_upto_region 13 with (go_at_call 35; refine HX10.out.mono ?_; rintro x9 v13 ⟨rfl, ha, hk9⟩; have hq : IP w2 g A cap 30 20 (gt + 1) i11 (ds10 ++ (zEn).drop 18) v13 := HP10.out.call ha hk9 (by have := HGL.out; omega); have HQ10 := Lib.hid hq; have y10 : v13.cell? ⟨gt + 1, 18, none⟩ = some (.int .i64 0) := hq.b.cell (by rw [dz_get HL10.out]; rfl); have yf10 := hq.b.fr; clear ha hk9 hq)
  obtain ⟨w13, hw10⟩ : ∃ z, v13.setCell ⟨gt + 1, 18, none⟩ (.int .i64 (u10 : Nat)) = z := ⟨_, rfl⟩
  obtain ⟨ds11, hd10⟩ : ∃ z : List Value, ds10 ++ [(.int .i64 (u10 : Nat))] = z := ⟨_, rfl⟩
  have HP11 : Hid (IP w2 g A cap 30 20 (gt + 1) i11 (ds11 ++ (zEn).drop 19) w13) := by show IP _ _ _ _ _ _ _ _ _ _; rw [← hw10, ← hd10]; exact HQ10.out.put HL10.out (by decide) (by have := HGL.out; omega) (fun q hq => by have := HBL.out q hq; omega)
  have HL11 : Hid (ds11.length = 19) := by show _ = _; rw [← hd10, List.length_append, HL10.out]; rfl
  have HE11 : Hid (rdI ((((((((((([] ++ [.n 0]) ++ [.n 0]) ++ [.n 0]) ++ [.n 0]) ++ [.n 0]) ++ [.n 0]) ++ [.t 0 16]) ++ [.t 0 32]) ++ [.b 0]) ++ (ns 0 9)) ++ [.n 0]) i = (i11, ds11)) := by show _ = _; rw [rdI_app, HE10.out, ← hd10]; show ((rdI _ i10).1, _ ++ (rdI _ i10).2) = _; rw [HR10.out]
  rw [hw10]
  clear hw10 hd10 HQ10 y10 yf10 HR10 HP10 HL10 HE10
  try clear HX10
  obtain ⟨i12, hi11⟩ : ∃ z, (inNum i11).1 = z := ⟨_, rfl⟩
  obtain ⟨u11, hu11⟩ : ∃ z, (inNum i11).2 = z := ⟨_, rfl⟩
  have hx11 := iNumber_any HP11.out.h
  rw [hi11, hu11] at hx11
  have HX11 := Lib.hid hx11
  have hr11 : rdI [.n 0] i11 = (i12, [(.int .i64 (u11 : Nat))]) := by rw [← hi11, ← hu11]; rfl
  have HR11 := Lib.hid hr11
  clear hi11 hu11 hx11 hr11
  go_upto_region 14 with (go_at_call 35; refine HX11.out.mono ?_; rintro x9 v14 ⟨rfl, ha, hk9⟩; have hq : IP w2 g A cap 30 20 (gt + 1) i12 (ds11 ++ (zEn).drop 19) v14 := HP11.out.call ha hk9 (by have := HGL.out; omega); have HQ11 := Lib.hid hq; have y11 : v14.cell? ⟨gt + 1, 19, none⟩ = some (.int .i64 0) := hq.b.cell (by rw [dz_get HL11.out]; rfl); have yf11 := hq.b.fr; clear ha hk9 hq)
  obtain ⟨w14, hw11⟩ : ∃ z, v14.setCell ⟨gt + 1, 19, none⟩ (.int .i64 (u11 : Nat)) = z := ⟨_, rfl⟩
  obtain ⟨ds12, hd11⟩ : ∃ z : List Value, ds11 ++ [(.int .i64 (u11 : Nat))] = z := ⟨_, rfl⟩
  have HP12 : Hid (IP w2 g A cap 30 20 (gt + 1) i12 (ds12 ++ (zEn).drop 20) w14) := by show IP _ _ _ _ _ _ _ _ _ _; rw [← hw11, ← hd11]; exact HQ11.out.put HL11.out (by decide) (by have := HGL.out; omega) (fun q hq => by have := HBL.out q hq; omega)
  have HL12 : Hid (ds12.length = 20) := by show _ = _; rw [← hd11, List.length_append, HL11.out]; rfl
  have HE12 : Hid (rdI (((((((((((([] ++ [.n 0]) ++ [.n 0]) ++ [.n 0]) ++ [.n 0]) ++ [.n 0]) ++ [.n 0]) ++ [.t 0 16]) ++ [.t 0 32]) ++ [.b 0]) ++ (ns 0 9)) ++ [.n 0]) ++ [.n 0]) i = (i12, ds12)) := by show _ = _; rw [rdI_app, HE11.out, ← hd11]; show ((rdI _ i11).1, _ ++ (rdI _ i11).2) = _; rw [HR11.out]
  rw [hw11]
  clear hw11 hd11 HQ11 y11 yf11 HR11 HP11 HL11 HE11
  try clear HX11
  have hT9 : Mem.Bx w14 30 20 gt (zEn) := HT.out.keeps HP12.out.k (by have := HGL.out; omega)
  have HT9 := Lib.hid hT9
  have hB9 : Mem.Bx w14 30 20 (gt + 1) ds12 := by have := HP12.out.b; rw [dz_all HL12.out rfl] at this; exact this
  have HB9 := Lib.hid hB9
  have hE9 : rdI (writeM 0) i = (i12, ds12) := (rdI_same rfl i).trans HE12.out
  have hO9 : Hid (∀ y ∈ ds12, y.oneCell' = true) := by have := rdI_one (writeM 0) i; rw [hE9] at this; exact this
  have HE9 := Lib.hid hE9
  clear hT9 hB9 hE9
  go_wp2_with (first | ((with_reducible refine Mem.load_agg _ _ wentry_agg (gt + 1) 0 ds12 ?hxa HL12.out (fun j u hu => by rw [Nat.zero_add]; exact HB9.out.cell hu) ?_); case hxa => exact rfl) | ((with_reducible refine Mem.store_agg _ _ wentry_agg gt (zEn) ds12 ?hx ?hy HT9.out HL12.out hO9.out ?_); (case hx => exact rfl); (case hy => exact rfl); intro wz hbz hkz hsz))
  try simp only [Exit.jump, Exit.inBlock, Exit.then]
  refine bodyPost_ret (v := .agg ds12.toArray) (results_agg1 Try.results36 wentry_agg rfl hbz) rfl ⟨by rw [HE9.out], ?_, ?_⟩
  · rw [HE9.out]; exact HP12.out.h.keeps hkz (fun q hq h => by have := HGL.out; have := HBL.out; rcases hq with hq | hq; omega; have := HBL.out q hq; omega)
  · exact IP.ends HB.out (HP12.out.k) hkz (by have := HG.out; omega) (by have := HG.out; omega)
end Go.Proofs.Ytkfgedgjpgehoaa
