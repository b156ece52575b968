/-
  Contracts of mix.longOctets, streamBlock. Conditions: a key and a nonce of octets. Blocks of streams, walked: contracts. Conditions: keys and nonces of octets. Numbers of a stream, plain: the stirring is one to one, and so numbers come. No program, no condition.
-/
import Derived.Test.YtbjmadcbhkeenaaSShM
import Derived.Test.YtbjmadcbhkeenaaSEqA
import Derived.Test.YtbjmadcbhkeenaaSNum
import Derived.Deep.CutRange
namespace Go.Proofs.Ytbjmadcbhkeenaa.st
set_option linter.unusedSimpArgs false
set_option linter.unusedVariables false
open Go.RowKit
set_option pp.maxSteps 4000
/-- eight octets of a number -/
def o8 (q : Int) : List Int := [q / 72057594037927936 % 256, q / 281474976710656 % 256, q / 1099511627776 % 256, q / 4294967296 % 256, q / 16777216 % 256, q / 65536 % 256, q / 256 % 256, q % 256]
theorem octets' (n : Int) (w : World) : Calls Try.prog 70 #[.int .u32 n] w fun e w' => e = .returned (.agg #[.int .u8 (n / 16777216 % 256), .int .u8 (n / 65536 % 256), .int .u8 (n / 256 % 256), .int .u8 (n % 256)]) ∧ Below w.heap.size w w' := octets n w
theorem agg8 : Agg Try.prog 118 8 := Agg.arr Try.underlying118 (by kernel_rfl)
theorem agg32 : Agg Try.prog 23 32 := Agg.arr Try.underlying23 (by kernel_rfl)
theorem aggN : Agg Try.prog 74 16 := Agg.arr Try.underlying74 (by kernel_rfl)
theorem longOctets (q : Int) (w : World) (h : 0 ≤ q ∧ q < 18446744073709551616) :
    Calls Try.prog 68 #[.int .u64 q] w fun e w' => e = .returned (.agg ((o8 q).map (Value.int .u8)).toArray) ∧ Below w.heap.size w w' := by
  obtain ⟨hi, HI⟩ : ∃ hi, Hid (hi = q / 4294967296 % 4294967296) := ⟨_, rfl⟩
  obtain ⟨lo, LO⟩ : ∃ lo, Hid (lo = q % 4294967296) := ⟨_, rfl⟩
  have E : Hid ([hi / 16777216 % 256, hi / 65536 % 256, hi / 256 % 256, hi % 256, lo / 16777216 % 256, lo / 65536 % 256, lo / 256 % 256, lo % 256] = o8 q) := by
    show _ = _
    rw [HI.out, LO.out]
    unfold o8
    simp only [List.cons.injEq, and_true]
    refine ⟨?_, ?_, ?_, ?_, ?_, ?_, ?_, ?_⟩ <;> omega
  have h1 : q / 4294967296 % 4294967296 = hi := HI.out.symm
  have h2 : q % 4294967296 = lo := LO.out.symm
  clear h
  go_enter Try.func68, Try.ntmps68
  go_wp2_with fail
  refine (octets' hi _).mono ?_
  rintro e w1 ⟨rfl, b1⟩
  go_wp2_with fail
  refine (octets' lo _).mono ?_
  rintro e w2 ⟨rfl, b2⟩
  have hB : BlkV 118 w2 w.heap.size ((List.replicate 8 (0 : Int)).map (Value.int .u8)) := ((BlkV.new 118 w ((List.replicate 8 (0 : Int)).map (Value.int .u8)) rfl).below b1 (by simp)).below b2 (by have := b1.size; simp at this; omega)
  have bb : Below w.heap.size w w2 := (((Below.refl w.heap.size w).alloc (Nat.le_refl _) _).trans (b1.mono (by simp))).trans (b2.mono (by have := b1.size; simp at this; omega))
  clear b1 b2
  go_wp2_with (first | (refine wl_storeAll rfl 118 _ _ rfl 118 w.heap.size rfl ([hi / 16777216 % 256, hi / 65536 % 256, hi / 256 % 256, hi % 256, lo / 16777216 % 256, lo / 65536 % 256, lo / 256 % 256, lo % 256].map (Value.int .u8)) rfl 8 agg8 rfl ((List.replicate 8 (0 : Int)).map (Value.int .u8)) ((hB.alloc _).alloc _) rfl (ints_one _ _) ?_; intro hRR))
  (try simp only [Exit.inBlock, Exit.then]); refine bodyPost_ret (results_cell rfl _ _ _ _ rfl _ agg8 hRR.at0) rfl ?_
  exact ⟨by rw [E.out], below_setRow' ((bb.alloc bb.size _).alloc (by have := bb.size; simp; omega) _) (Nat.le_refl _) _⟩
theorem zero8 : (Try.prog.info? 118).map (·.zero) = some (some (.agg ((List.replicate 8 (0 : Int)).map (Value.int .u8)).toArray)) := by kernel_rfl
/-- the state of which a block of a stream is stirred -/
def seed (k n : List Int) (q : Int) : List Int := splice (splice (splice (List.replicate 64 0) 0 k) 32 n) 56 (o8 q)
theorem splice_map (k : IntKind) (l d : List Int) (off : Nat) : splice (l.map (Value.int k)) off (d.map (Value.int k)) = (splice l off d).map (Value.int k) := by
  unfold splice
  rw [List.length_map, ← List.map_take, ← List.map_drop, ← List.map_append, ← List.map_append]
theorem splice_octs {l d : List Int} (hl : Octs l) (hd : Octs d) (off : Nat) : Octs (splice l off d) := by
  intro c hc
  unfold splice at hc
  rcases List.mem_append.1 hc with h | h
  · exact hl c (List.mem_of_mem_take h)
  · rcases List.mem_append.1 h with h | h
    · exact hd c h
    · exact hl c (List.mem_of_mem_drop h)
theorem o8_octs (q : Int) : Octs (o8 q) := by
  intro c hc
  unfold o8 at hc
  simp only [List.mem_cons, List.not_mem_nil, or_false] at hc
  unfold Oct
  rcases hc with rfl | rfl | rfl | rfl | rfl | rfl | rfl | rfl <;> omega
theorem zeros_octs (n : Nat) : Octs (List.replicate n 0) := by
  intro c hc; rw [(List.mem_replicate.1 hc).2]; unfold Oct; omega
theorem seed_length {k n : List Int} (hk : k.length = 32) (hn : n.length = 16) (q : Int) : (seed k n q).length = 64 := by
  unfold seed
  rw [length_splice, length_splice, length_splice, List.length_replicate]
  · rw [List.length_replicate]; omega
  · rw [length_splice, List.length_replicate]
    · omega
    · rw [List.length_replicate]; omega
  · rw [length_splice, length_splice, List.length_replicate]
    · show 56 + 8 ≤ 64; omega
    · rw [List.length_replicate]; omega
    · rw [length_splice, List.length_replicate]
      · omega
      · rw [List.length_replicate]; omega
theorem seed_octs {k n : List Int} (hk : Octs k) (hn : Octs n) (q : Int) : Octs (seed k n q) := splice_octs (splice_octs (splice_octs (zeros_octs 64) hk 0) hn 32) (o8_octs q) 56
set_option maxRecDepth 100000 in
set_option maxHeartbeats 2000000 in
theorem streamBlock (k n : List Int) (q : Int) (w : World) (hk : k.length = 32) (hn : n.length = 16) (ok : Octs k) (on : Octs n) (h : 0 ≤ q ∧ q < 18446744073709551616) :
    Calls Try.prog 64 #[.agg (k.map (Value.int .u8)).toArray, .agg (n.map (Value.int .u8)).toArray, .int .u64 q] w fun e w' => e = .returned (.agg ((stirL (seed k n q)).map (Value.int .u8)).toArray) ∧ Below w.heap.size w w' := by
  have HLS := hid (longOctets q)
  have Hh := hid h
  have HY := hid zero64
  obtain ⟨Z, HZ'⟩ : ∃ Z, Hid (Z = (List.replicate 64 (0 : Int)).map (Value.int .u8)) := ⟨_, rfl⟩
  rw [← HZ'.out] at HY
  obtain ⟨K, HK⟩ : ∃ K, Hid (K = k.map (Value.int .u8)) := ⟨_, rfl⟩
  obtain ⟨N, HN⟩ : ∃ N, Hid (N = n.map (Value.int .u8)) := ⟨_, rfl⟩
  rw [← HK.out, ← HN.out]
  have HKL : Hid (K.length = 32) := by show K.length = 32; rw [HK.out, List.length_map, hk]
  have HNL : Hid (N.length = 16) := by show N.length = 16; rw [HN.out, List.length_map, hn]
  have HZL : Hid (Z.length = 64) := by show Z.length = 64; rw [HZ'.out, List.length_map, List.length_replicate]
  have hK1 : ∀ u ∈ K, u.oneCell' = true := by rw [HK.out]; exact ints_one _ _
  have hN1 : ∀ u ∈ N, u.oneCell' = true := by rw [HN.out]; exact ints_one _ _
  have hkH := hid hk
  have hnH := hid hn
  clear h hk hn
  go_enter Try.func64, Try.ntmps64
  go_wp2_with (first | (refine wl_alloc rfl 111 rfl Z HY.out ?_))
  have hKw : BlkV 23 ((((w.alloc (.cells K.toArray 23)).alloc (.cells N.toArray 74)).alloc (.cells Z.toArray 111)).alloc (.cells Z.toArray 111)) w.heap.size K := (((BlkV.new _ w K rfl).alloc _).alloc _).alloc _
  have hNw : BlkV 74 ((((w.alloc (.cells K.toArray 23)).alloc (.cells N.toArray 74)).alloc (.cells Z.toArray 111)).alloc (.cells Z.toArray 111)) (w.heap.size + 1) N := ((BlkV.new _ _ N (by simp)).alloc _).alloc _
  have hRw : BlkV 111 ((((w.alloc (.cells K.toArray 23)).alloc (.cells N.toArray 74)).alloc (.cells Z.toArray 111)).alloc (.cells Z.toArray 111)) (w.heap.size + 2) Z := (BlkV.new _ _ Z (by simp)).alloc _
  have hSw : BlkV 111 ((((w.alloc (.cells K.toArray 23)).alloc (.cells N.toArray 74)).alloc (.cells Z.toArray 111)).alloc (.cells Z.toArray 111)) (w.heap.size + 3) Z := BlkV.new _ _ Z (by simp)
  have hb : Below w.heap.size w ((((w.alloc (.cells K.toArray 23)).alloc (.cells N.toArray 74)).alloc (.cells Z.toArray 111)).alloc (.cells Z.toArray 111)) := ((((Below.refl w.heap.size w).alloc (Nat.le_refl _) _).alloc (by simp) _).alloc (by simp; omega) _).alloc (by simp; omega) _
  generalize (((w.alloc (.cells K.toArray 23)).alloc (.cells N.toArray 74)).alloc (.cells Z.toArray 111)).alloc (.cells Z.toArray 111) = w0 at *
  have hal : Try.prog.arrayLen 111 = 64 := by kernel_rfl
  have halK : Try.prog.arrayLen 23 = 32 := by kernel_rfl
  have halN : Try.prog.arrayLen 74 = 16 := by kernel_rfl
  have hfit : 0 + K.length ≤ Z.length := by rw [HKL.out, HZL.out]; omega
  have hmin : K.length = Nat.min 32 64 := by rw [HKL.out]; rfl
  go_region_law (refine step_copy_splice rfl (.tmp 9) (.tmp 10) 51 51 rfl 5 Try.underlying51 size5 (some ⟨w.heap.size + 3, 0, none⟩) (some ⟨w.heap.size, 0, none⟩) 64 64 32 32 rfl rfl (w.heap.size + 3) 0 Z 111 hSw K hmin (fun _ => ⟨rfl, _, rfl, hKw.at0⟩) hfit hK1 (w.heap.size + 3) w0 ((Below.refl _ _).drew) (Nat.le_refl _) ?_; intro w4 hg4 hb4)
  obtain ⟨L1, HL1⟩ : ∃ L1, Hid (L1 = splice (List.replicate 64 (0 : Int)) 0 k) := ⟨_, rfl⟩
  obtain ⟨M1, HM1⟩ : ∃ M1, Hid (M1 = L1.map (Value.int .u8)) := ⟨_, rfl⟩
  have hS1 : BlkV 111 w4 (w.heap.size + 3) M1 := by
    have := hg4.out
    rw [HZ'.out, HK.out, splice_map, ← HL1.out, ← HM1.out] at this
    exact this
  have hM1l : M1.length = 64 := by rw [HM1.out, List.length_map, HL1.out, length_splice, List.length_replicate]; rw [List.length_replicate, hkH.out]; omega
  have hN4 := hNw.below hb4 (by omega)
  have hR4 := hRw.below hb4 (by omega)
  have b4 := hb.trans (hb4.mono (by omega))
  have HM1L := hid hM1l
  clear hfit hmin hKw hNw hRw hSw hb hb4 hg4 hM1l hal
  have hal : Try.prog.arrayLen 111 = 64 := by kernel_rfl
  go_wp2_with fail
  have hfit : 32 + N.length ≤ M1.length := by rw [HNL.out, HM1L.out]; omega
  have hmin : N.length = Nat.min 16 32 := by rw [HNL.out]; rfl
  go_region_law (refine step_copy_splice rfl (.tmp 12) (.tmp 13) 51 51 rfl 5 Try.underlying51 size5 (some ⟨w.heap.size + 3, 32, none⟩) (some ⟨w.heap.size + 1, 0, none⟩) 32 32 16 16 rfl rfl (w.heap.size + 3) 32 M1 111 hS1 N hmin (fun _ => ⟨rfl, _, rfl, hN4.at0⟩) hfit hN1 (w.heap.size + 3) w4 ((Below.refl _ _).drew) (Nat.le_refl _) ?_; intro w5 hg5 hb5)
  obtain ⟨L2, HL2⟩ : ∃ L2, Hid (L2 = splice L1 32 n) := ⟨_, rfl⟩
  obtain ⟨M2, HM2⟩ : ∃ M2, Hid (M2 = L2.map (Value.int .u8)) := ⟨_, rfl⟩
  have hS2 : BlkV 111 w5 (w.heap.size + 3) M2 := by
    have := hg5.out
    rw [HM1.out, HN.out, splice_map, ← HL2.out, ← HM2.out] at this
    exact this
  have hM2l : M2.length = 64 := by
    rw [HM2.out, List.length_map, HL2.out, length_splice]
    · have := HM1L.out; rw [HM1.out, List.length_map] at this; exact this
    · have := HM1L.out; rw [HM1.out, List.length_map] at this; rw [this, hnH.out]; omega
  have hR5 := hR4.below hb5 (by omega)
  have b5 := b4.trans (hb5.mono (by omega))
  have HM2L := hid hM2l
  clear hfit hmin hS1 hN4 hR4 b4 hb5 hg5 hM2l
  go_wp2_with fail
  refine (HLS.out w5 Hh.out).mono ?_
  rintro e w6 ⟨rfl, b56⟩
  obtain ⟨O, HO⟩ : ∃ O, Hid (O = (o8 q).map (Value.int .u8)) := ⟨_, rfl⟩
  rw [← HO.out]
  have HOL : Hid (O.length = 8) := by show O.length = 8; rw [HO.out]; rfl
  have hO1 : ∀ u ∈ O, u.oneCell' = true := by rw [HO.out]; exact ints_one _ _
  have hS6 := hS2.below b56 hS2.lt
  have hR6 := hR5.below b56 hR5.lt
  have b6 := b5.trans (b56.mono b5.size)
  obtain ⟨Z8, HZ8⟩ : ∃ Z8, Hid (Z8 = (List.replicate 8 (0 : Int)).map (Value.int .u8)) := ⟨_, rfl⟩
  have hz8 := zero8
  rw [← HZ8.out] at hz8
  have HZ8' := hid hz8
  clear hz8 hS2 hR5 b5 b56
  go_wp2_with (first | (refine wl_alloc rfl 118 rfl Z8 HZ8'.out ?_) | (refine wl_storeAll rfl 118 _ _ rfl 118 w6.heap.size rfl O rfl 8 agg8 HOL.out Z8 (BlkV.new _ w6 Z8 rfl) (by rw [HZ8.out]; rfl) hO1 ?_; intro hOO))
  obtain ⟨gO, HgO⟩ : ∃ gO, Hid (gO = w6.heap.size) := ⟨_, rfl⟩
  have hS7 := (hS6.alloc (.cells Z8.toArray 118)).otherRow (g' := w6.heap.size) (by have := hS6.lt; omega) O.toArray
  have hR7 := (hR6.alloc (.cells Z8.toArray 118)).otherRow (g' := w6.heap.size) (by have := hR6.lt; omega) O.toArray
  have b7 := below_setRow' (b6.alloc b6.size (.cells Z8.toArray 118)) b6.size O.toArray
  rw [← HgO.out] at hS7 hR7 b7 hOO ⊢
  generalize (w6.alloc (.cells Z8.toArray 118)).setRow gO O.toArray = w7 at *
  clear hS6 hR6 b6 HgO
  have hal8 : Try.prog.arrayLen 118 = 8 := by kernel_rfl
  have hfit : 56 + O.length ≤ M2.length := by rw [HOL.out, HM2L.out]; omega
  have hmin : O.length = Nat.min 8 8 := by rw [HOL.out]; rfl
  go_region_law (refine step_copy_splice rfl (.tmp 17) (.tmp 18) 51 51 rfl 5 Try.underlying51 size5 (some ⟨w.heap.size + 3, 56, none⟩) (some ⟨gO, 0, none⟩) 8 8 8 8 rfl rfl (w.heap.size + 3) 56 M2 111 hS7 O hmin (fun _ => ⟨rfl, _, rfl, hOO.at0⟩) hfit hO1 (w.heap.size + 3) w7 ((Below.refl _ _).drew) (Nat.le_refl _) ?_; intro w8 hg8 hb8)
  have hseed : splice L2 56 (o8 q) = seed k n q := by rw [HL2.out, HL1.out]; rfl
  have hS8 : BlkV 111 w8 (w.heap.size + 3) ((seed k n q).map (Value.int .u8)) := by
    have := hg8.out
    rw [HM2.out, HO.out, splice_map, hseed] at this
    exact this
  have hR8 := hR7.below hb8 (by omega)
  have b8 := b7.trans (hb8.mono (by omega))
  have hsl := seed_length hkH.out hnH.out q
  have hso := seed_octs ok on q
  clear hfit hmin hS7 hR7 b7 hb8 hg8 hOO hseed
  obtain ⟨D, HD⟩ : ∃ D, Hid (D = seed k n q) := ⟨_, rfl⟩
  rw [← HD.out] at hS8 hsl hso
  have HDL := hid hsl
  clear hsl
  go_wp2_with (first | (refine wl_load rfl 111 _ rfl ⟨w.heap.size + 3, 0, none⟩ rfl (D.map (Value.int .u8)) (by rw [List.length_map, HDL.out]; exact agg64) hS8.at0 ?_))
  refine (stirM D _ HDL.out hso).mono ?_
  rintro e w9 ⟨rfl, b89⟩
  obtain ⟨R, HR⟩ : ∃ R, Hid (R = (stirL D).map (Value.int .u8)) := ⟨_, rfl⟩
  have HRL : Hid (R.length = 64) := by show R.length = 64; rw [HR.out, List.length_map]; exact octL_length _ _
  have hR1 : ∀ u ∈ R, u.oneCell' = true := by rw [HR.out]; exact ints_one _ _
  have hR9 := hR8.below b89 hR8.lt
  have b9 := b8.trans (b89.mono b8.size)
  rw [← HR.out]
  go_wp2_with (first | (refine wl_storeAll rfl 111 _ _ rfl 111 (w.heap.size + 2) rfl R rfl 64 agg64 HRL.out Z hR9 HZL.out hR1 ?_; intro hRR))
  (try simp only [Exit.inBlock, Exit.then]); refine bodyPost_ret (results_cell rfl _ _ _ _ rfl R (by rw [HRL.out]; exact agg64) hRR.at0) rfl ?_
  exact ⟨by rw [HR.out, HD.out], below_setRow' b9 (by omega) _⟩
end Go.Proofs.Ytbjmadcbhkeenaa.st
/- mix.Stream of a whole block: 64 octets from a place that 64 divides. Conditions: a key and a nonce of octets; the place at most 2^40. -/
namespace Go.Proofs.Ytbjmadcbhkeenaa.st
set_option linter.unusedSimpArgs false
set_option linter.unusedVariables false
open Go.RowKit
set_option pp.maxSteps 4000
theorem info8 : Info Try.prog 5 (.int .u8 0) 1 1 := by unfold Info; kernel_rfl
/-- a block of a stream -/
def blk (k n : List Int) (q : Nat) : List Int := stirL (seed k n q)
theorem blk_length (k n : List Int) (q : Nat) : (blk k n q).length = 64 := octL_length _ _
theorem rowV_of {t : TypeId} {w : World} {g : Nat} {cs : List Value} (h : BlkV t w g cs) : RowV w (some ⟨g, 0, none⟩) cs := Or.inr ⟨g, 0, rfl, h.lt, fun j u hu => by rw [Nat.zero_add, h.cell]; exact hu⟩
def left64 : Value → Nat
  | .slice _ n _ => 64 - n
  | _ => 0
set_option maxRecDepth 100000 in
set_option maxHeartbeats 2000000 in
theorem streamM (k n : List Int) (q : Nat) (F : Int) (hF : F = 64 * (q : Int)) (w : World) (hk : k.length = 32) (hn : n.length = 16) (ok : Octs k) (on : Octs n) (hq : q ≤ 17179869184) :
    Calls Try.prog 52 #[.agg (k.map (Value.int .u8)).toArray, .agg (n.map (Value.int .u8)).toArray, .int .i64 F, .int .i64 64] w fun e w' => ∃ ao cap, e = .returned (.tuple #[.slice ao 64 cap, .int .i64 0]) ∧ Mine w' w.heap.size 5 1 (.slice ao 64 cap) 64 ((blk k n q).map (Value.int .u8)) ∧ Below w.heap.size w w' := by
  obtain ⟨K, HK⟩ : ∃ K, Hid (K = k.map (Value.int .u8)) := ⟨_, rfl⟩
  obtain ⟨N, HN⟩ : ∃ N, Hid (N = n.map (Value.int .u8)) := ⟨_, rfl⟩
  rw [← HK.out, ← HN.out]
  have HKL : Hid (K.length = 32) := by show K.length = 32; rw [HK.out, List.length_map, hk]
  have HNL : Hid (N.length = 16) := by show N.length = 16; rw [HN.out, List.length_map, hn]
  obtain ⟨B, HB⟩ : ∃ B, Hid (B = blk k n q) := ⟨_, rfl⟩
  have HBL : Hid (B.length = 64) := by show B.length = 64; rw [HB.out, blk_length]
  obtain ⟨BB, HBB⟩ : ∃ BB, Hid (BB = B.map (Value.int .u8)) := ⟨_, rfl⟩
  have hsb : ∀ w, Calls Try.prog 64 #[.agg (k.map (Value.int .u8)).toArray, .agg (n.map (Value.int .u8)).toArray, .int .u64 q] w fun e w' => e = .returned (.agg ((blk k n q).map (Value.int .u8)).toArray) ∧ Below w.heap.size w w' := fun w => streamBlock k n q w hk hn ok on (by omega)
  rw [← HK.out, ← HN.out, ← HB.out, ← HBB.out] at hsb
  have HSB := hid hsb
  have HBBL : Hid (BB.length = 64) := by show BB.length = 64; rw [HBB.out, List.length_map, HBL.out]
  have hBB1 : ∀ u ∈ BB, u.oneCell' = true := by rw [HBB.out]; exact ints_one _ _
  have HY := hid zero64
  obtain ⟨Z, HZ'⟩ : ∃ Z, Hid (Z = (List.replicate 64 (0 : Int)).map (Value.int .u8)) := ⟨_, rfl⟩
  rw [← HZ'.out] at HY
  have HZL : Hid (Z.length = 64) := by show Z.length = 64; rw [HZ'.out, List.length_map, List.length_replicate]
  clear hsb
  have hd : F.tdiv 64 = q := by rw [hF, Int.tdiv_eq_ediv_of_nonneg (by omega)]; omega
  have hm : F.tmod 64 = 0 := by rw [hF, Int.tmod_eq_emod_of_nonneg (by omega)]; omega
  have hF0 : 0 ≤ F := by omega
  have hF1 : F ≤ 1099511627776 := by omega
  clear hF hk hn
  go_enter Try.func52, Try.ntmps52
  obtain ⟨i8, hi8, hz8, hs8, hy8⟩ := info8.parts
  have HI8 := hid hi8
  have HZ8 := hid hz8
  have HS8 := hid hs8
  have HY8 := hid hy8
  clear hi8 hz8 hs8 hy8
  have hKw : BlkV 23 ((w.alloc (.cells K.toArray 23)).alloc (.cells N.toArray 74)) w.heap.size K := (BlkV.new _ w K rfl).alloc _
  have hNw : BlkV 74 ((w.alloc (.cells K.toArray 23)).alloc (.cells N.toArray 74)) (w.heap.size + 1) N := BlkV.new _ _ N (by simp)
  have hb0 : Below w.heap.size w ((w.alloc (.cells K.toArray 23)).alloc (.cells N.toArray 74)) := ((Below.refl w.heap.size w).alloc (Nat.le_refl _) _).alloc (by simp) _
  go_wp2_with (first | (refine wpList_make_own _ rfl _ _ 51 rfl (w.heap.size + 2) 5 i8 (.int .u8 0) 1 Try.underlying51 HI8.out HZ8.out HS8.out .i64 .i64 64 64 rfl rfl rfl (by rw [HY8.out]; omega) (by unfold maxLen; omega) (by simp) ?_; intro w1 hM hg1))
  have hK1 := hKw.grown hg1 (by simp)
  have hN1 := hNw.grown hg1 (by simp)
  have b1 : Below w.heap.size w w1 := hb0.grown hg1 hb0.size (by simp)
  have hsz1 : w.heap.size + 2 ≤ w1.heap.size := by have := hg1.size; simp at this; omega
  simp only [World.alloc, Array.size_push] at hM ⊢
  clear hKw hNw hb0 hg1
  go_loopw [10, 11] (fun o i wr => (o = .slice (some ⟨w.heap.size + 1 + 1, 0, none⟩) 0 64 ∧ i = .int .i64 q ∧ wr.ownsRow (w.heap.size + 2) 5 1 o 0 [] ∧ BlkV 23 wr w.heap.size K ∧ BlkV 74 wr (w.heap.size + 1) N ∧ Below w.heap.size w wr ∧ w.heap.size + 2 ≤ wr.heap.size) ∨ (∃ ao cap, o = .slice ao 64 cap ∧ Mine wr w.heap.size 5 1 (.slice ao 64 cap) 64 BB ∧ Below w.heap.size w wr)) (fun o _ _ => left64 o)
  case atStart => exact Or.inl ⟨rfl, rfl, hM, hK1, hN1, b1, hsz1⟩
  case round =>
    rcases hrel with ⟨rfl, rfl, hM, hK, hN, hb, hsz⟩ | ⟨ao, cap, rfl, hR, hb⟩
    · go_wp2_with (first | (refine wl_load rfl 23 _ rfl ⟨w.heap.size, 0, none⟩ rfl K (by rw [HKL.out]; exact agg32) hK.at0 ?_) | (refine wl_load rfl 74 _ rfl ⟨w.heap.size + 1, 0, none⟩ rfl N (by rw [HNL.out]; exact aggN) hN.at0 ?_))
      refine (HSB.out wr).mono ?_
      rintro e w3 ⟨rfl, b3⟩
      have hM3 : Mine w3 (w.heap.size + 2) 5 1 (.slice (some ⟨w.heap.size + 1 + 1, 0, none⟩) 0 64) 0 [] := Mine.belowAll (Or.inl hM) b3
      have b4 := hb.trans (b3.mono hb.size)
      have hsz3 : w.heap.size + 2 ≤ w3.heap.size := by have := b3.size; omega
      clear hM hK hN b3
      have hbW := below_setRow' ((Below.refl w3.heap.size w3).alloc (Nat.le_refl _) (.cells Z.toArray 111)) (Nat.le_refl _) BB.toArray
      have hM4 := hM3.belowAll hbW
      have hsz4 : w.heap.size + 2 ≤ ((w3.alloc (.cells Z.toArray 111)).setRow w3.heap.size BB.toArray).heap.size := Nat.le_trans hsz3 hbW.size
      have b4' := b4.trans (hbW.mono b4.size)
      have HLen : Hid (BB.length = 64 * 1) := by show BB.length = 64 * 1; rw [HBBL.out]
      go_wp2_with (first | (refine wl_alloc rfl 111 rfl Z HY.out ?_) | (refine wl_storeAll rfl 111 _ _ rfl 111 w3.heap.size rfl BB rfl 64 agg64 HBBL.out Z (BlkV.new _ w3 Z rfl) HZL.out hBB1 ?_; intro hOO) | (at_builtin; refine wl_appendS rfl _ _ 51 rfl 5 (.int .u8 0) 1 1 Try.underlying51 info8 rfl (by decide) (w.heap.size + 2) _ 0 [] rfl hM4 (some ⟨w3.heap.size, 0, none⟩) 64 64 rfl (fun h => by cases h) BB HLen.out (rowV_of hOO) hBB1 (by unfold maxLen; omega) (by omega) hsz4 64 rfl ?_; intro ao5 cap5 w5 row5 hc5 hM5 hR5 hg5 hrow5))
      go_roundw
      case rel =>
        rw [List.nil_append] at hM5
        refine Or.inr ⟨_, _, rfl, hM5.mono (by omega), b4'.grown hg5 b4'.size fun k hk => ?_⟩
        have := (hrow5 k hk).1; omega
      case measure => simp [left64]
    · go_wp2
      go_ret2
      rw [HBB.out, HB.out] at hR
      exact ⟨_, _, rfl, hR, hb⟩
end Go.Proofs.Ytbjmadcbhkeenaa.st
/- keyref1.long; keyref1.Stream of a whole block. Conditions: as mix.Stream's. -/
namespace Go.Proofs.Ytbjmadcbhkeenaa.st
open Go.RowKit
set_option pp.maxSteps 4000
end Go.Proofs.Ytbjmadcbhkeenaa.st
/- keyref1.Stream of a whole block. Conditions: as mix.Stream's. -/
namespace Go.Proofs.Ytbjmadcbhkeenaa.st
open Go.RowKit
set_option pp.maxSteps 4000
end Go.Proofs.Ytbjmadcbhkeenaa.st
/- Stirring loses nothing: states of 64 octets that are stirred to one are one (plain Lean, no program). No condition but octets. -/
namespace Go.Proofs.Ytbjmadcbhkeenaa.st
set_option linter.unusedSimpArgs false
set_option linter.unusedVariables false
open Go.RowKit Go.Proofs.Ytbjmadcbhkeenaa.Fld
theorem ext_getD {l m : List Int} (hl : l.length = m.length) (h : ∀ i, i < l.length → l.getD i 0 = m.getD i 0) : l = m := by
  apply List.ext_getElem hl
  intro i h1 h2
  have := h i h1
  rwa [getD_lt' _ _ h1, getD_lt' _ _ h2] at this
theorem xor_cancel {a b c : Int} (ha : W32 a) (hb : W32 b) (hc : W32 c) (h : bits .xor .u32 a c = bits .xor .u32 b c) : a = b := by
  obtain ⟨ha0, ha1⟩ := ha
  obtain ⟨hb0, hb1⟩ := hb
  obtain ⟨hc0, hc1⟩ := hc
  obtain ⟨x, rfl⟩ := Int.eq_ofNat_of_zero_le ha0
  obtain ⟨y, rfl⟩ := Int.eq_ofNat_of_zero_le hb0
  obtain ⟨z, rfl⟩ := Int.eq_ofNat_of_zero_le hc0
  rw [u32_xor_nat _ _ (by omega) (by omega), u32_xor_nat _ _ (by omega) (by omega)] at h
  have h2 : x ^^^ z = y ^^^ z := Int.ofNat_inj.1 h
  have h3 : (x ^^^ z) ^^^ z = (y ^^^ z) ^^^ z := by rw [h2]
  rw [Nat.xor_assoc, Nat.xor_assoc, Nat.xor_self, Nat.xor_zero, Nat.xor_zero] at h3
  rw [h3]
theorem addW_inj {u v : List Int} {r i : Nat} (hu : u.length = 16) (hv : v.length = 16) (wu : AllW u) (wv : AllW v) (hr : r < 8) (hi : i < 16) (h : addW r i u = addW r i v) : u = v := by
  have hg : ∀ m, (addW r i u).getD m 0 = (addW r i v).getD m 0 := fun m => by rw [h]
  have hne : ∀ m, m ≠ i → u.getD m 0 = v.getD m 0 := fun m hm => by
    have := hg m
    rw [addW_eq, addW_eq, getD_set, getD_set, if_neg (by omega), if_neg (by omega)] at this
    exact this
  refine ext_getD (by omega) fun m _ => ?_
  by_cases hm : m = i
  · subst hm
    have h1 := hg m
    rw [addW_eq, addW_eq, getD_set, getD_set, if_pos ⟨rfl, by omega⟩, if_pos ⟨rfl, by omega⟩, hne ((m + 1 + r) % 16) (by omega)] at h1
    have h2 := wu.getD m
    have h3 := wv.getD m
    have h4 : W32 (addend r m (v.getD ((m + 1 + r) % 16) 0)) := w32_bits _ _ _
    generalize addend r m (v.getD ((m + 1 + r) % 16) 0) = A at h1 h4
    generalize u.getD m 0 = a at h1 h2 ⊢
    generalize v.getD m 0 = b at h1 h3 ⊢
    unfold W32 at h2 h3 h4
    omega
  · exact hne m hm
theorem xorW_inj {u v : List Int} {i : Nat} (hu : u.length = 16) (hv : v.length = 16) (wu : AllW u) (wv : AllW v) (h : xorW i u = xorW i v) : u = v := by
  have hg : ∀ m, (xorW i u).getD m 0 = (xorW i v).getD m 0 := fun m => by rw [h]
  have hne : ∀ m, m ≠ (i + 9) % 16 → u.getD m 0 = v.getD m 0 := fun m hm => by
    have := hg m
    unfold xorW at this
    rw [getD_set, getD_set, if_neg (by omega), if_neg (by omega)] at this
    exact this
  refine ext_getD (by omega) fun m _ => ?_
  by_cases hm : m = (i + 9) % 16
  · have h1 := hg m
    unfold xorW at h1
    rw [getD_set, getD_set, if_pos ⟨hm, by omega⟩, if_pos ⟨hm, by omega⟩, hne i (by omega), ← hm] at h1
    exact xor_cancel (wu.getD m) (wv.getD m) (w32_rotl _ _) h1
  · exact hne m hm
theorem stepTo_inj {u v : List Int} {r : Nat} (hu : u.length = 16) (hv : v.length = 16) (wu : AllW u) (wv : AllW v) (hr : r < 8) (i : Nat) (hi : i ≤ 16) (h : stepTo r u i = stepTo r v i) : u = v := by
  induction i with
  | zero => exact h
  | succ i ih =>
    have lu := stepTo_length r u i
    have lv := stepTo_length r v i
    have a1 : (addW r i (stepTo r u i)).length = 16 := by rw [addW_eq, List.length_set]; omega
    have a2 : (addW r i (stepTo r v i)).length = 16 := by rw [addW_eq, List.length_set]; omega
    have h1 : addW r i (stepTo r u i) = addW r i (stepTo r v i) := xorW_inj a1 a2 (addW_w (stepTo_w wu r i) r i) (addW_w (stepTo_w wv r i) r i) h
    exact ih (by omega) (addW_inj (by omega) (by omega) (stepTo_w wu r i) (stepTo_w wv r i) hr (by omega) h1)
theorem roundTo_inj {u v : List Int} (hu : u.length = 16) (hv : v.length = 16) (wu : AllW u) (wv : AllW v) (r : Nat) (hr : r ≤ 8) (h : roundTo u r = roundTo v r) : u = v := by
  induction r with
  | zero => exact h
  | succ r ih =>
    have lu := roundTo_length u r
    have lv := roundTo_length v r
    exact ih (by omega) (stepTo_inj (by omega) (by omega) (roundTo_w wu r) (roundTo_w wv r) (by omega) 16 (Nat.le_refl _) h)
theorem octL_getD (ws : List Int) (i j : Nat) (hi : i < 16) (hj : j < 4) : (octL ws 64).getD (4 * i + j) 0 = (o4 (ws.getD i 0)).getD j 0 := by
  unfold octL
  rw [List.getD_eq_getElem?_getD, List.getElem?_map, List.getElem?_range (by omega)]
  show (o4 (ws.getD ((4 * i + j) / 4) 0)).getD ((4 * i + j) % 4) 0 = _
  rw [show (4 * i + j) / 4 = i by omega, show (4 * i + j) % 4 = j by omega]
theorem octL_inj {u v : List Int} (hu : u.length = 16) (hv : v.length = 16) (wu : AllW u) (wv : AllW v) (h : octL u 64 = octL v 64) : u = v := by
  refine ext_getD (by omega) fun i hi => ?_
  have e : ∀ j, j < 4 → (o4 (u.getD i 0)).getD j 0 = (o4 (v.getD i 0)).getD j 0 := fun j hj => by
    rw [← octL_getD u i j (by omega) hj, ← octL_getD v i j (by omega) hj, h]
  have e0 : u.getD i 0 / 16777216 % 256 = v.getD i 0 / 16777216 % 256 := e 0 (by omega)
  have e1 : u.getD i 0 / 65536 % 256 = v.getD i 0 / 65536 % 256 := e 1 (by omega)
  have e2 : u.getD i 0 / 256 % 256 = v.getD i 0 / 256 % 256 := e 2 (by omega)
  have e3 : u.getD i 0 % 256 = v.getD i 0 % 256 := e 3 (by omega)
  have h1 := wu.getD i
  have h2 := wv.getD i
  unfold W32 at h1 h2
  omega
theorem wordsL_getD (s : List Int) (i : Nat) (hi : i < 16) : (wordsL s 16).getD i 0 = w4 (s.getD (4 * i) 0) (s.getD (4 * i + 1) 0) (s.getD (4 * i + 2) 0) (s.getD (4 * i + 3) 0) := by
  unfold wordsL
  rw [List.getD_eq_getElem?_getD, List.getElem?_map, List.getElem?_range hi]
  rfl
theorem wordsL_inj {s t : List Int} (hs : s.length = 64) (ht : t.length = 64) (os : Octs s) (ot : Octs t) (h : wordsL s 16 = wordsL t 16) : s = t := by
  refine ext_getD (by omega) fun m hm => ?_
  obtain ⟨i, j, rfl, hj⟩ : ∃ i j : Nat, m = 4 * i + j ∧ j < 4 := ⟨m / 4, m % 4, by omega, by omega⟩
  have e := wordsL_getD s i (by omega)
  rw [h, wordsL_getD t i (by omega)] at e
  have a0 := os.getD (4 * i)
  have a1 := os.getD (4 * i + 1)
  have a2 := os.getD (4 * i + 2)
  have a3 := os.getD (4 * i + 3)
  have b0 := ot.getD (4 * i)
  have b1 := ot.getD (4 * i + 1)
  have b2 := ot.getD (4 * i + 2)
  have b3 := ot.getD (4 * i + 3)
  unfold w4 at e
  unfold Oct at a0 a1 a2 a3 b0 b1 b2 b3
  match j, hj with
  | 0, _ => simp only [Nat.add_zero]; omega
  | 1, _ => omega
  | 2, _ => omega
  | 3, _ => omega
theorem stirL_inj {s t : List Int} (hs : s.length = 64) (ht : t.length = 64) (os : Octs s) (ot : Octs t) (h : stirL s = stirL t) : s = t := by
  have ws := wordsL_w os
  have wt := wordsL_w ot
  have ls := wordsL_length s 16
  have lt := wordsL_length t 16
  have rs := roundTo_length (wordsL s 16) 8
  have rt := roundTo_length (wordsL t 16) 8
  have h1 := octL_inj (by omega) (by omega) (roundTo_w ws 8) (roundTo_w wt 8) h
  exact wordsL_inj hs ht os ot (roundTo_inj ls lt ws wt 8 (Nat.le_refl _) h1)
end Go.Proofs.Ytbjmadcbhkeenaa.st
/- The numbers of a stream, in plain Lean; at most one block of a stream gives none: so they are enough. Conditions: octets; fewer than 2^40 blocks. -/
namespace Go.Proofs.Ytbjmadcbhkeenaa.st
open Go.RowKit Go.Proofs.Ytbjmadcbhkeenaa.Fld
def vAt (b : List Int) (j : Nat) : Int := 256 * b.getD (2 * j) 0 + b.getD (2 * j + 1) 0
def stepN (many : Nat) (b o : List Int) (j : Nat) : List Int := if o.length < many then (if vAt b j < 65535 then o ++ [vAt b j % 257] else o) else o
def pairTo (many : Nat) (b o : List Int) : Nat → List Int
  | 0 => o
  | j + 1 => stepN many b (pairTo many b o j) j
def blkTo (many : Nat) (k n : List Int) : Nat → List Int
  | 0 => []
  | q + 1 => pairTo many (blk k n q) (blkTo many k n q) 32
/-- all numbers -/
def numsOf (many : Nat) (k n : List Int) : List Int := blkTo many k n (many + 2)
theorem stepN_le {many : Nat} {b o : List Int} {j : Nat} (h : o.length ≤ many) : (stepN many b o j).length ≤ many := by
  unfold stepN
  split
  · split
    · simp; omega
    · exact h
  · exact h
theorem stepN_ge (many : Nat) (b o : List Int) (j : Nat) : o.length ≤ (stepN many b o j).length := by
  unfold stepN
  split
  · split
    · simp
    · exact Nat.le_refl _
  · exact Nat.le_refl _
theorem pairTo_le {many : Nat} {b o : List Int} (h : o.length ≤ many) (j : Nat) : (pairTo many b o j).length ≤ many := by
  induction j with
  | zero => exact h
  | succ j ih => exact stepN_le ih
theorem pairTo_mono (many : Nat) (b o : List Int) (i d : Nat) : (pairTo many b o i).length ≤ (pairTo many b o (i + d)).length := by
  induction d with
  | zero => exact Nat.le_refl _
  | succ d ih => exact Nat.le_trans ih (stepN_ge _ _ _ _)
theorem pairTo_stop {many : Nat} {b o : List Int} {i : Nat} (h : many ≤ (pairTo many b o i).length) (d : Nat) : pairTo many b o (i + d) = pairTo many b o i := by
  induction d with
  | zero => rfl
  | succ d ih =>
    show stepN many b (pairTo many b o (i + d)) (i + d) = _
    rw [ih]
    unfold stepN
    rw [if_neg (by omega)]
theorem blkTo_le (many : Nat) (k n : List Int) (q : Nat) : (blkTo many k n q).length ≤ many := by
  induction q with
  | zero => exact Nat.zero_le _
  | succ q ih => exact pairTo_le ih 32
theorem blkTo_stop {many : Nat} {k n : List Int} {q : Nat} (h : many ≤ (blkTo many k n q).length) (d : Nat) : blkTo many k n (q + d) = blkTo many k n q := by
  induction d with
  | zero => rfl
  | succ d ih =>
    show pairTo many (blk k n (q + d)) (blkTo many k n (q + d)) 32 = _
    rw [ih]
    have := pairTo_stop (b := blk k n (q + d)) (i := 0) (o := blkTo many k n q) h 32
    rw [Nat.zero_add] at this
    exact this
theorem grow {many : Nat} {b o : List Int} (h : o.length < many) (j : Nat) (hj : j < 32) (hv : vAt b j < 65535) : o.length < (pairTo many b o 32).length := by
  have h1 := pairTo_mono many b o 0 j
  have h2 := pairTo_mono many b o (j + 1) (32 - (j + 1))
  rw [show j + 1 + (32 - (j + 1)) = 32 by omega] at h2
  rw [Nat.zero_add] at h1
  have h1' : o.length ≤ (pairTo many b o j).length := h1
  by_cases hf : (pairTo many b o j).length < many
  · have h3 : (pairTo many b o (j + 1)).length = (pairTo many b o j).length + 1 := by
      show (stepN many b (pairTo many b o j) j).length = _
      unfold stepN
      rw [if_pos hf, if_pos hv]; simp
    omega
  · have h4 := stepN_ge many b (pairTo many b o j) j
    have h5 : (pairTo many b o (j + 1)).length = (stepN many b (pairTo many b o j) j).length := rfl
    omega
theorem full_block {b : List Int} (hl : b.length = 64) (hb : Octs b) (h : ∀ j, j < 32 → ¬ vAt b j < 65535) : b = List.replicate 64 255 := by
  refine ext_getD (by rw [hl, List.length_replicate]) fun m hm => ?_
  have e : (List.replicate 64 (255 : Int)).getD m 0 = 255 := by
    rw [List.getD_eq_getElem?_getD, List.getElem?_replicate, if_pos (by omega)]; rfl
  rw [e]
  have h1 := h (m / 2) (by omega)
  have h2 := hb.getD (2 * (m / 2))
  have h3 := hb.getD (2 * (m / 2) + 1)
  unfold vAt at h1
  unfold Oct at h2 h3
  by_cases hp : m % 2 = 0
  · rw [show m = 2 * (m / 2) by omega]; omega
  · rw [show m = 2 * (m / 2) + 1 by omega]; omega
theorem octL_octs (ws : List Int) : Octs (octL ws 64) := by
  intro c hc
  unfold octL at hc
  obtain ⟨i, _, rfl⟩ := List.mem_map.1 hc
  have : i % 4 < 4 := Nat.mod_lt _ (by omega)
  rw [o4_at _ _ this]
  unfold Oct
  omega
theorem blk_octs (k n : List Int) (q : Nat) : Octs (blk k n q) := octL_octs _
theorem splice_getD {l d : List Int} {off j : Nat} (hl : off ≤ l.length) (hj : j < d.length) : (splice l off d).getD (off + j) 0 = d.getD j 0 := by
  unfold splice
  have ht : (l.take off).length = off := by rw [List.length_take]; omega
  rw [List.getD_eq_getElem?_getD, List.getElem?_append_right (by omega), ht, show off + j - off = j by omega, List.getElem?_append_left hj, ← List.getD_eq_getElem?_getD]
theorem seed_inj {k n : List Int} (hk : k.length = 32) (hn : n.length = 16) {p q : Nat} (hp : p < 18446744073709551616) (hq : q < 18446744073709551616) (h : seed k n p = seed k n q) : p = q := by
  have hL : (splice (splice (List.replicate 64 (0 : Int)) 0 k) 32 n).length = 64 := by
    rw [length_splice, length_splice, List.length_replicate]
    · rw [List.length_replicate]; omega
    · rw [length_splice, List.length_replicate]
      · omega
      · rw [List.length_replicate]; omega
  have e : ∀ j, j < 8 → (o8 p).getD j 0 = (o8 q).getD j 0 := fun j hj => by
    have a := splice_getD (l := splice (splice (List.replicate 64 (0 : Int)) 0 k) 32 n) (d := o8 p) (off := 56) (j := j) (by omega) hj
    have b := splice_getD (l := splice (splice (List.replicate 64 (0 : Int)) 0 k) 32 n) (d := o8 q) (off := 56) (j := j) (by omega) hj
    rw [← a, ← b]
    show (seed k n p).getD _ 0 = (seed k n q).getD _ 0
    rw [h]
  have e0 : (p : Int) / 72057594037927936 % 256 = (q : Int) / 72057594037927936 % 256 := e 0 (by omega)
  have e1 : (p : Int) / 281474976710656 % 256 = (q : Int) / 281474976710656 % 256 := e 1 (by omega)
  have e2 : (p : Int) / 1099511627776 % 256 = (q : Int) / 1099511627776 % 256 := e 2 (by omega)
  have e3 : (p : Int) / 4294967296 % 256 = (q : Int) / 4294967296 % 256 := e 3 (by omega)
  have e4 : (p : Int) / 16777216 % 256 = (q : Int) / 16777216 % 256 := e 4 (by omega)
  have e5 : (p : Int) / 65536 % 256 = (q : Int) / 65536 % 256 := e 5 (by omega)
  have e6 : (p : Int) / 256 % 256 = (q : Int) / 256 % 256 := e 6 (by omega)
  have e7 : (p : Int) % 256 = (q : Int) % 256 := e 7 (by omega)
  clear e h hL
  omega
theorem enough (many : Nat) {k n : List Int} (hk : k.length = 32) (hn : n.length = 16) (ok : Octs k) (on : Octs n) (q : Nat) (hq : q ≤ 1099511627776) :
    many ≤ (blkTo many k n q).length ∨ q ≤ (blkTo many k n q).length ∨ (q ≤ (blkTo many k n q).length + 1 ∧ ∃ p, p < q ∧ blk k n p = List.replicate 64 255) := by
  induction q with
  | zero => exact Or.inr (Or.inl (Nat.zero_le _))
  | succ q ih =>
    have hm := pairTo_mono many (blk k n q) (blkTo many k n q) 0 32
    have hm' : (blkTo many k n q).length ≤ (blkTo many k n (q + 1)).length := by rw [Nat.zero_add] at hm; exact hm
    rcases ih (by omega) with h | h
    · exact Or.inl (by omega)
    · by_cases hf : many ≤ (blkTo many k n q).length
      · exact Or.inl (by omega)
      · by_cases hv : ∃ j, j < 32 ∧ vAt (blk k n q) j < 65535
        · obtain ⟨j, hj, hv⟩ := hv
          have hg : (blkTo many k n q).length < (blkTo many k n (q + 1)).length := grow (by omega) j hj hv
          rcases h with h | ⟨h, p, hp, he⟩
          · exact Or.inr (Or.inl (by omega))
          · exact Or.inr (Or.inr ⟨by omega, p, by omega, he⟩)
        · have he : blk k n q = List.replicate 64 255 := full_block (blk_length k n q) (blk_octs k n q) fun j hj hv' => hv ⟨j, hj, hv'⟩
          rcases h with h | ⟨h, p, hp, he'⟩
          · exact Or.inr (Or.inr ⟨by omega, q, by omega, he⟩)
          · have hs : seed k n p = seed k n q := stirL_inj (seed_length hk hn p) (seed_length hk hn q) (seed_octs ok on p) (seed_octs ok on q) (by
              show blk k n p = blk k n q
              rw [he, he'])
            have := seed_inj hk hn (by omega) (by omega) hs
            omega
/-- while there are not enough numbers there are few blocks -/
theorem few (many : Nat) {k n : List Int} (hk : k.length = 32) (hn : n.length = 16) (ok : Octs k) (on : Octs n) (q : Nat) (hq : q ≤ 1099511627776) (h : (blkTo many k n q).length < many) : q ≤ many := by
  rcases enough many hk hn ok on q hq with h1 | h1 | ⟨h1, _⟩ <;> omega
theorem all_of_full {many : Nat} {k n : List Int} {q : Nat} (h : many ≤ (blkTo many k n q).length) (hq : q ≤ many + 2) : blkTo many k n q = numsOf many k n := by
  have := blkTo_stop h (many + 2 - q)
  rw [show q + (many + 2 - q) = many + 2 by omega] at this
  exact this.symm
end Go.Proofs.Ytbjmadcbhkeenaa.st
