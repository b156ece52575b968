/-
  Contracts of share.polynomial and keyref2.polynomials: an octet's polynomial out of a seed. Conditions: a seed of octets, a need from 1 to 32.
-/
import Derived.Test.YtbljihhelladbaaShN
import Derived.Test.YtbljihhelladbaaBsl
import Derived.Test.YtbljihhelladbaaNmD
namespace Go.Proofs.Ytbljihhelladbaa.shr
open Go.RowKit Go.Proofs.Ytbljihhelladbaa.sh Go.Proofs.Ytbljihhelladbaa.Fld
set_option linter.unusedSimpArgs false
set_option linter.unusedVariables false
set_option pp.maxSteps 6000

/-- the nonce of an octet's polynomial -/
def nonceOf (sign o : Int) : List Int := List.replicate 14 0 ++ [sign, o]
/-- the polynomial of an octet -/
def seedPoly (first : Int) (m : Nat) (seed : List Int) (sign o : Int) : List Int := first :: st.numsOf (m - 1) seed (nonceOf sign o)
theorem nonceOf_length (a b : Int) : (nonceOf a b).length = 16 := by simp [nonceOf]
theorem nonceOf_octs {a b : Int} (ha : 0 ≤ a ∧ a ≤ 255) (hb : 0 ≤ b ∧ b ≤ 255) : st.Octs (nonceOf a b) := by
  intro c hc
  simp only [nonceOf, List.mem_append, List.mem_cons, List.not_mem_nil, or_false] at hc
  rcases hc with h | rfl | rfl
  · rw [List.eq_of_mem_replicate h]; exact ⟨by decide, by decide⟩
  · exact ⟨ha.1, by omega⟩
  · exact ⟨hb.1, by omega⟩
theorem aggNo : Agg Try.prog 25 16 := Agg.arr Try.underlying25 (by kernel_rfl)
def zero16 : List Value := (List.replicate 16 0).map (Value.int .u8)
theorem zeroNo : (Try.prog.info? 25).map (·.zero) = some (some (.agg zero16.toArray)) := by kernel_rfl
theorem nonce_set (a b : Int) : (zero16.set 14 (.int .u8 a)).set 15 (.int .u8 b) = (nonceOf a b).map (Value.int .u8) := rfl

set_option maxRecDepth 100000 in
theorem polynomial_any (first : Int) (m : Nat) (seed : List Int) (sign o : Nat) (w : World) (hs : seed.length = 32) (hso : st.Octs seed) (hm1 : 1 ≤ m) (hm : m ≤ 32) (hsg : sign ≤ 255) (ho : o ≤ 255) :
    Calls Try.prog 117 #[.int .i64 first, .int .i64 m, .agg (seed.map (Value.int .u8)).toArray, .int .i64 sign, .int .i64 o] w fun e w' => ∃ ao cap, e = .returned (.slice ao (seedPoly first m seed sign o).length cap) ∧ w'.ownsRow w.heap.size 3 1 (.slice ao (seedPoly first m seed sign o).length cap) (seedPoly first m seed sign o).length ((seedPoly first m seed sign o).map (Value.int .i64)) ∧ Below w.heap.size w w' := by
  obtain ⟨KV, HKV⟩ : ∃ K, Hid (K = seed.map (Value.int .u8)) := ⟨_, rfl⟩
  have HKL : Hid (KV.length = 32) := by show _ = _; rw [HKV.out, List.length_map]; exact hs
  have hK1 : ∀ u ∈ KV, u.oneCell' = true := by rw [HKV.out]; exact ints_one _ _
  rw [← HKV.out]
  obtain ⟨Z, HZ⟩ : ∃ Z, Hid (Z = zero16) := ⟨_, rfl⟩
  have HZ0 := hid zeroNo
  rw [← HZ.out] at HZ0
  have hb0 : Below w.heap.size w (w.alloc (.cells KV.toArray 23)) := (Below.refl _ _).alloc (Nat.le_refl _) _
  have hK0 : BlkV 23 (w.alloc (.cells KV.toArray 23)) w.heap.size KV := BlkV.new _ _ _ rfl
  have hw1 : IntKind.u8.wrap (sign : Int) = sign := IntWalk.u8_in _ (by omega)
  have hw2 : IntKind.u8.wrap (o : Int) = o := IntWalk.u8_in _ (by omega)
  have hw3 : IntKind.i64.wrap ((m : Int) - 1) = ((m - 1 : Nat) : Int) := by rw [IntWalk.i64_in _ (by omega)]; omega
  go_enter Try.func117, Try.ntmps117
  have hnat : (m : Int) - 1 = ((m - 1 : Nat) : Int) := by omega
  obtain ⟨NV, HNV⟩ : ∃ N, Hid (N = (nonceOf sign o).map (Value.int .u8)) := ⟨_, rfl⟩
  have HNL : Hid (NV.length = 16) := by show _ = _; rw [HNV.out, List.length_map, nonceOf_length]
  have HNM := hid (fun w => st.numbersM_o seed (nonceOf sign o) (m - 1) w hs (nonceOf_length _ _) hso (nonceOf_octs ⟨by omega, by omega⟩ ⟨by omega, by omega⟩) (by omega))
  rw [← HKV.out, ← HNV.out] at HNM
  obtain ⟨L, HLL⟩ : ∃ L, Hid (L = st.numsOf (m - 1) seed (nonceOf sign o)) := ⟨_, rfl⟩
  rw [← HLL.out] at HNM
  have hLb : L.length ≤ m - 1 := by rw [HLL.out]; exact st.blkTo_le _ _ _ _
  have hsp : Hid (seedPoly first m seed sign o = first :: L) := by show _ = _; unfold seedPoly; rw [HLL.out]
  rw [hsp.out]
  obtain ⟨NL, HNLL⟩ : ∃ N, Hid (N = 1 + L.length) := ⟨_, rfl⟩
  rw [show (first :: L).length = NL by rw [HNLL.out, List.length_cons]; omega]
  have hN0 : BlkV 25 (((w.alloc (.cells KV.toArray 23)).alloc (.cells NV.toArray 25)).alloc (.cells #[.int .i64 first] 3)) (w.heap.size + 1) NV := (BlkV.new _ _ NV (by simp)).alloc _
  have hK2 : BlkV 23 (((w.alloc (.cells KV.toArray 23)).alloc (.cells NV.toArray 25)).alloc (.cells #[.int .i64 first] 3)) w.heap.size KV := (hK0.alloc _).alloc _
  have hF2 : BlkV 3 (((w.alloc (.cells KV.toArray 23)).alloc (.cells NV.toArray 25)).alloc (.cells #[.int .i64 first] 3)) (w.heap.size + 2) [.int .i64 first] := BlkV.new _ _ [.int .i64 first] (by simp)
  have hb2 : Below w.heap.size w (((w.alloc (.cells KV.toArray 23)).alloc (.cells NV.toArray 25)).alloc (.cells #[.int .i64 first] 3)) := (hb0.alloc (by simp) _).alloc (by simp; omega) _
  have hcl : (((w.alloc (.cells KV.toArray 23)).alloc (.cells NV.toArray 25)).alloc (.cells #[.int .i64 first] 3)) = (((w.alloc (.cells KV.toArray 23)).alloc (.cells ((nonceOf sign o).map (Value.int .u8)).toArray 25)).alloc (.cells #[.int .i64 first] 3)) := by rw [HNV.out]
  generalize hW2 : (((w.alloc (.cells KV.toArray 23)).alloc (.cells NV.toArray 25)).alloc (.cells #[.int .i64 first] 3)) = w2 at *
  have hlt2 := hF2.lt
  have aK := hK2.at0
  have aN := hN0.at0
  rw [hcl] at aK aN
  rw [HNV.out] at aN
  go_wp2_with (first | (refine wl_loadG (by kernel_rfl) 23 _ rfl ⟨w.heap.size, 0, none⟩ rfl 32 KV HKL.out aggKey aK ?_) | (refine wl_loadG (by kernel_rfl) 25 _ rfl ⟨w.heap.size + 1, 0, none⟩ rfl 16 ((nonceOf sign o).map (Value.int .u8)) (by rw [List.length_map, nonceOf_length]) aggNo aN ?_))
  rw [← HNV.out]
  refine (HNM.out _).mono ?_
  rintro e w3 ⟨ax, cx, rfl, hrow, hb3', hno⟩
  have hb3 : Below w2.heap.size w2 w3 := by rw [hcl]; exact hb3'
  have hF3 := hF2.below hb3 hlt2
  have hbw3 := hb2.trans (hb3.mono hb2.size)
  have h3s := hF3.lt
  clear hb3' aK aN hcl
  go_wp2_with (at_builtin; refine wl_appendS rfl _ _ 26 rfl 3 (.int .i64 0) 1 8 Try.underlying26 infoI rfl (by decide) w.heap.size (.slice (some ⟨w.heap.size + 1 + 1, 0, none⟩) 1 1) 1 [.int .i64 first] rfl (Or.inl (ownsRow_blk hF3 (by omega) rfl)) ax L.length cx rfl hno (L.map (Value.int .i64)) (by rw [List.length_map]; omega) hrow.v (ints_one _ _) (by unfold maxLen; omega) (by omega) (by omega) NL HNLL.out ?_; intro ao' cap' w4 row hcap hM hV hg hrw)
  go_ret
  have hM' : w4.ownsRow w.heap.size 3 1 (.slice ao' NL cap') NL ((first :: L).map (Value.int .i64)) := by
    rcases hM with h | ⟨h, _⟩
    · exact h
    · rw [HNLL.out] at h; omega
  exact ⟨ao', cap', rfl, hM', hbw3.grown hg hbw3.size fun k hk => (hrw k hk).1⟩
end Go.Proofs.Ytbljihhelladbaa.shr
