/-
  Contracts of both Stir functions. Condition: a state of 64 octets. Contracts of mix.longOctets, streamBlock. Conditions: a key and a nonce of octets. Sets that a call makes as maps to bools: what is in them, the look-up and the store at the operation. Keys: integers, arrays of integers. Conditions: fewer than 2^40 entries. Further laws at operations: loads under a guard, new variables and whole stores with the world behind them a letter, loads in a drawn region, look-ups under a guard. Conditions: what each names.
-/
import Derived.Test.YtbljihhelladbaaTStX
import Derived.Test.YtbljihhelladbaaTMem
import Derived.Maps.OwnSet
import Derived.Maps.OwnOps
import Derived.DeepKeys4
import Derived.WideKeyArr2
import Derived.StillTailTactics
namespace Go.Proofs.Ytbljihhelladbaa.st
set_option linter.unusedSimpArgs false
set_option linter.unusedVariables false
open Go.RowKit
set_option pp.maxSteps 4000
/-- what is added to a word -/
def addend (r i : Nat) (c : Int) : Int := bits .xor .u32 (rotl c (5 + i)) (2654435769 * ((16 * r + i + 1 : Nat) : Int) % 4294967296)
theorem rotR' (x : Int) (k : Nat) (K : Int) (hK : K = k) (w : World) (h : k < 32) (hx : W32 x) : Calls Try.prog 230 #[.int .u32 x, .int .i64 K] w fun e w' => e = .returned (.int .u32 (rotl x k)) ∧ w' = w := by
  subst hK; exact (rotR x k w h hx).mono fun e w' h => ⟨h.1, h.2.symm⟩
theorem rotT' (x : Int) (k : Nat) (K : Int) (hK : K = k) (w : World) (h : k < 32) (hx : W32 x) : Calls Try.prog 197 #[.int .u32 x, .int .i64 K] w fun e w' => e = .returned (.int .u32 (rotl x k)) ∧ ∃ n, w' = w.drewN n := by
  subst hK; exact rotT x k w h hx
theorem turnM (g : Nat) (ws : List Int) (r i : Nat) (w : World) (hl : ws.length = 16) (hw : AllW ws) (hg : BlkI .u32 236 w g ws) (hr : r < 8) (hi : i < 16) :
    Calls Try.prog 229 #[.pointer (some ⟨g, 0, none⟩), .int .i64 r, .int .i64 i] w fun e w' => e = .returned (.int .u32 (addend r i (ws.getD ((i + 1 + r) % 16) 0))) ∧ w' = w := by
  obtain ⟨j, HJ⟩ : ∃ j, Hid (j = (i + 1 + r) % 16) := ⟨_, rfl⟩
  have hj : j < 16 := by rw [HJ.out]; omega
  obtain ⟨c, HC, hcell⟩ := hg.elem (i := j) (by omega)
  have hc : W32 c := by rw [HC.out]; exact hw.getD j
  have hd : ((i : Int) + 1 + (r : Int)).tmod 16 = j := by rw [Int.tmod_eq_emod_of_nonneg (by omega), HJ.out]; omega
  go_enter Try.func229, Try.ntmps229
  go_wp2_with fail
  refine (rotR' c (5 + i) _ (by omega) w (by omega) hc).mono ?_
  rintro e wn ⟨rfl, rfl⟩
  go_wp2
  go_ret
  refine ⟨rv (ri ?_), rfl⟩
  unfold addend
  rw [← HJ.out, ← HC.out]
  congr 1
theorem addW_eq (r i : Nat) (w : List Int) : addW r i w = w.set i ((w.getD i 0 + addend r i (w.getD ((i + 1 + r) % 16) 0)) % 4294967296) := rfl
theorem wordsL_w {s : List Int} (hs : Octs s) : AllW (wordsL s 16) := by
  intro c hc
  unfold wordsL at hc
  obtain ⟨i, _, rfl⟩ := List.mem_map.1 hc
  exact w32_w4 (hs.getD _) (hs.getD _) (hs.getD _) (hs.getD _)
set_option maxRecDepth 100000 in
set_option maxHeartbeats 2000000 in
theorem stirM (s : List Int) (w : World) (hl : s.length = 64) (hs : Octs s) :
    Calls Try.prog 217 #[.agg (s.map (Value.int .u8)).toArray] w fun e w' => e = .returned (.agg ((stirL s).map (Value.int .u8)).toArray) ∧ Below w.heap.size w w' := by
  have HL := hid hl
  have HZ := hid zero16
  have HY := hid zero64
  obtain ⟨Z, HZ'⟩ : ∃ Z, Hid (Z = (List.replicate 16 (0 : Int)).map (Value.int .u32)) := ⟨_, rfl⟩
  obtain ⟨Y, HY'⟩ : ∃ Y, Hid (Y = (List.replicate 64 (0 : Int)).map (Value.int .u8)) := ⟨_, rfl⟩
  rw [← HZ'.out] at HZ
  rw [← HY'.out] at HY
  obtain ⟨S, HS⟩ : ∃ S, Hid (S = s.map (Value.int .u8)) := ⟨_, rfl⟩
  rw [← HS.out]
  have HSL : Hid (S.length = 64) := by show S.length = 64; rw [HS.out, List.length_map, HL.out]
  have HYL : Hid (Y.length = 64) := by show Y.length = 64; rw [HY'.out, List.length_map, List.length_replicate]
  have HZL : Hid (Z.length = 16) := by show Z.length = 16; rw [HZ'.out, List.length_map, List.length_replicate]
  clear hl
  go_enter Try.func217, Try.ntmps217
  go_wp2_with (first | (refine wl_alloc rfl 152 rfl Y HY.out ?_) | (refine wl_load rfl 152 _ rfl ⟨w.heap.size, 0, none⟩ rfl S (by rw [HSL.out]; exact agg64) ((BlkV.new _ w S rfl).alloc _).at0 ?_))
  rw [HS.out]
  refine (wordsOf s _ HL.out hs).mono ?_
  rintro e w1 ⟨rfl, hb1⟩
  rw [← HS.out] at hb1 ⊢
  obtain ⟨V, HV⟩ : ∃ V, Hid (V = wordsL s 16) := ⟨_, rfl⟩
  rw [← HV.out]
  have hVl : V.length = 16 := by rw [HV.out, wordsL_length]
  have hVw : AllW V := by rw [HV.out]; exact wordsL_w hs
  have HVL := hid hVl
  obtain ⟨VV, HVV⟩ : ∃ VV, Hid (VV = V.map (Value.int .u32)) := ⟨_, rfl⟩
  rw [← HVV.out]
  have HVVL : Hid (VV.length = 16) := by show VV.length = 16; rw [HVV.out, List.length_map, HVL.out]
  have hVV1 : ∀ u ∈ VV, u.oneCell' = true := by rw [HVV.out]; exact ints_one _ _
  have hR0 := (BlkV.new 152 (w.alloc (.cells S.toArray 152)) (g := w.heap.size + 1) Y (by simp)).below hb1 (by simp)
  have bA : Below w.heap.size w w1 := (((Below.refl w.heap.size w).alloc (Nat.le_refl _) _).alloc (by simp) _).trans (hb1.mono (by simp; omega))
  have hsz := hb1.size
  simp only [World.alloc, Array.size_push] at hsz
  clear hVl hb1
  go_wp2_with (first | (refine wl_alloc rfl 236 rfl Z HZ.out ?_) | (refine wl_storeAll rfl 236 _ _ rfl 236 w1.heap.size rfl VV rfl 16 agg16 HVVL.out Z (BlkV.new _ w1 Z rfl) HZL.out hVV1 ?_; intro hW0))
  obtain ⟨g3, Hg3⟩ : ∃ g3, Hid (g3 = w1.heap.size) := ⟨_, rfl⟩
  have hR1 := (hR0.alloc (.cells Z.toArray 236)).otherRow (g' := w1.heap.size) (by omega) VV.toArray
  have bB := below_setRow' (bA.alloc bA.size (.cells Z.toArray 236)) bA.size VV.toArray
  have hgg : w.heap.size + 1 < g3 := by rw [Hg3.out]; omega
  have hW1 : BlkI .u32 236 ((w1.alloc (.cells Z.toArray 236)).setRow w1.heap.size VV.toArray) w1.heap.size (roundTo V 0) := by rw [HVV.out] at hW0 ⊢; exact hW0
  rw [← Hg3.out] at hR1 bB hW1 ⊢
  generalize (w1.alloc (.cells Z.toArray 236)).setRow g3 VV.toArray = w2 at *
  clear hR0 bA hsz hW0 Hg3
  go_loopw [8] (fun r wr => ∃ k : Nat, k ≤ 8 ∧ r = .int .i64 k ∧ BlkI .u32 236 wr g3 (roundTo V k) ∧ BlkV 152 wr (w.heap.size + 1) Y ∧ Below w.heap.size w wr) (fun r _ => 8 - (intOf r).toNat)
  case atStart => exact ⟨0, by omega, rfl, hW1, hR1, bB⟩
  case round =>
    obtain ⟨r, hr, rfl, hW, hR, hb⟩ := hrel
    by_cases h0 : r < 8
    · have hdr : decide ((r : Int) < 8) = true := by simp; omega
      go_wp2_with fail
      go_loopw [11] (fun i wr => ∃ k : Nat, k ≤ 16 ∧ i = .int .i64 k ∧ BlkI .u32 236 wr g3 (stepTo r (roundTo V r) k) ∧ BlkV 152 wr (w.heap.size + 1) Y ∧ Below w.heap.size w wr) (fun i _ => 16 - (intOf i).toNat)
      case atStart => exact ⟨0, by omega, rfl, hW, hR, hb⟩
      case round =>
        obtain ⟨i, hi, rfl, hWi, hRi, hbi⟩ := hrel
        by_cases h1 : i < 16
        · obtain ⟨U, HU⟩ : ∃ U, Hid (U = stepTo r (roundTo V r) i) := ⟨_, rfl⟩
          rw [← HU.out] at hWi
          have hUl : U.length = 16 := by rw [HU.out, stepTo_length, roundTo_length, HVL.out]
          have hUw : AllW U := by rw [HU.out]; exact stepTo_w (roundTo_w hVw r) r i
          obtain ⟨c, HC, hcell⟩ := hWi.elem (i := i) (by omega)
          have hfz := hWi.frozen i
          obtain ⟨A, HA⟩ : ∃ A, Hid (A = addend r i (U.getD ((i + 1 + r) % 16) 0)) := ⟨_, rfl⟩
          obtain ⟨D, HD⟩ : ∃ D, Hid (D = (c + A) % 4294967296) := ⟨_, rfl⟩
          have hT := hid (turnM g3 U r i wr.drew hUl hUw hWi.drew h0 h1)
          rw [← HA.out] at hT
          obtain ⟨U1, HU1⟩ : ∃ U1, Hid (U1 = addW r i U) := ⟨_, rfl⟩
          have hU1l : U1.length = 16 := by rw [HU1.out, addW_eq, List.length_set, hUl]
          have hU1w : AllW U1 := by rw [HU1.out]; exact addW_w hUw r i
          have hW1i : BlkI .u32 236 (wr.setCell ⟨g3, i, none⟩ (.int .u32 D)).drew g3 U1 := by
            rw [HU1.out, addW_eq, ← HA.out, ← HC.out, ← HD.out]
            exact (hWi.set i D).drew
          have hR1i := (hRi.other (a := ⟨g3, i, none⟩) (by simp; omega) (.int .u32 D)).drew
          have hb1i := (hbi.setCell (p := ⟨g3, i, none⟩) (by simp; omega) (.int .u32 D)).drew
          obtain ⟨j, HJ⟩ : ∃ j, Hid (j = (i + 9) % 16) := ⟨_, rfl⟩
          have hj : j < 16 := by rw [HJ.out]; omega
          obtain ⟨x, HX, hcx⟩ := hW1i.elem (i := j) (by omega)
          obtain ⟨y, HY1, hcy⟩ := hW1i.elem (i := i) (by omega)
          have hfx := hW1i.frozen j
          have hyw : W32 y := by rw [HY1.out]; exact hU1w.getD i
          have hXW : BlkI .u32 236 ((wr.setCell ⟨g3, i, none⟩ (.int .u32 D)).drew.setCell ⟨g3, j, none⟩ (.int .u32 (bits .xor .u32 x (rotl y 11)))) g3 (stepTo r (roundTo V r) (i + 1)) := by
            have := hW1i.set j (bits .xor .u32 x (rotl y 11))
            have e : U1.set j (bits .xor .u32 x (rotl y 11)) = stepTo r (roundTo V r) (i + 1) := by rw [HX.out, HY1.out, HJ.out, HU1.out, HU.out]; rfl
            rw [e] at this
            exact this
          have hXR := hR1i.other (a := ⟨g3, j, none⟩) (by simp; omega) (.int .u32 (bits .xor .u32 x (rotl y 11)))
          have hXb := hb1i.setCell (p := ⟨g3, j, none⟩) (by simp; omega) (.int .u32 (bits .xor .u32 x (rotl y 11)))
          have hwrap : IntKind.u32.wrap (c + A) = D := by rw [IntKind.wrap_u32', HD.out]
          have hjI : (j : Int) < 16 := by omega
          have hw9 : IntKind.i64.wrap ((i : Int) + 9) = (i : Int) + 9 := IntWalk.i64_in _ (by omega)
          have hd9 : ((i : Int) + 9).tmod 16 = j := by rw [Int.tmod_eq_emod_of_nonneg (by omega), HJ.out]; omega
          clear hW1i hR1i hb1i hUl hU1l hU1w hUw hWi hRi hbi
          go_wp2_with fail
          refine wp_region_still_tail 7 (by kernel_rfl) (by kernel_rfl) ?_
          simp only [List.take_succ_cons, List.take_zero, List.drop_succ_cons, List.drop_zero]
          change wpStill _ _ wr.drew (fun a' => wpList _ _ _ _ a' wr.drew) _ _
          repeat still_step
          still_call hT.out
          repeat still_step
          refine wpStill_nil ?_
          go_wp2_with fail
          clear hcell hfz
          generalize (wr.setCell ⟨g3, i, none⟩ (.int .u32 D)).drew = wq at *
          refine wp_region_still_tail 10 (by kernel_rfl) (by kernel_rfl) ?_
          simp only [List.take_succ_cons, List.take_zero, List.drop_succ_cons, List.drop_zero]
          change wpStill _ _ wq.drew (fun a' => wpList _ _ _ _ a' wq.drew) _ _
          repeat still_step
          still_call (rotR' y 11 11 rfl wq.drew (by decide) hyw)
          repeat still_step
          refine wpStill_nil ?_
          go_wp2_with fail
          go_roundw
          case rel => exact ⟨i + 1, by omega, by go_num, hXW, hXR, hXb.drew⟩
          case measure => simp [intOf] <;> omega
        · obtain rfl : i = 16 := by omega
          go_wp2_with fail
          go_roundw
          case rel => exact ⟨r + 1, by omega, by go_num, hWi, hRi, hbi⟩
          case measure => simp [intOf] <;> omega
    · obtain rfl : r = 8 := by omega
      obtain ⟨X, HX⟩ : ∃ X, Hid (X = roundTo V 8) := ⟨_, rfl⟩
      have HXL : Hid (X.length = 16) := by show X.length = 16; rw [HX.out, roundTo_length, HVL.out]
      have hWv : BlkV 236 wr g3 (X.map (Value.int .u32)) := by rw [HX.out]; exact BlkI.v hW
      clear hW
      go_wp2_with (first | (refine wl_load rfl 236 _ rfl ⟨g3, 0, none⟩ rfl (X.map (Value.int .u32)) (by rw [List.length_map, HXL.out]; exact agg16) hWv.at0 ?_))
      refine (stateOf X _ HXL.out).mono ?_
      rintro e w5 ⟨rfl, hb5⟩
      obtain ⟨R, HR⟩ : ∃ R, Hid (R = (octL X 64).map (Value.int .u8)) := ⟨_, rfl⟩
      have HRL : Hid (R.length = 64) := by show R.length = 64; rw [HR.out, List.length_map, octL_length]
      have hR1 : ∀ u ∈ R, u.oneCell' = true := by rw [HR.out]; exact ints_one _ _
      have hR5 := hR.below hb5 hR.lt
      have hbb := hb.trans (hb5.mono hb.size)
      rw [← HR.out]
      go_wp2_with (first | (refine wl_storeAll rfl 152 _ _ rfl 152 (w.heap.size + 1) rfl R rfl 64 agg64 HRL.out Y hR5 HYL.out hR1 ?_; intro hRR))
      (try simp only [Exit.inBlock, Exit.then]); refine bodyPost_ret (results_cell rfl _ _ _ _ rfl R (by rw [HRL.out]; exact agg64) hRR.at0) rfl ?_
      exact ⟨by rw [HR.out, HX.out, HV.out]; rfl, below_setRow' hbb (by omega) _⟩
end Go.Proofs.Ytbljihhelladbaa.st
namespace Go.Proofs.Ytbljihhelladbaa.st
set_option linter.unusedSimpArgs false
set_option linter.unusedVariables false
open Go.RowKit
set_option pp.maxSteps 4000
/-- eight octets of a number -/
def o8 (q : Int) : List Int := [q / 72057594037927936 % 256, q / 281474976710656 % 256, q / 1099511627776 % 256, q / 4294967296 % 256, q / 16777216 % 256, q / 65536 % 256, q / 256 % 256, q % 256]
theorem octets' (n : Int) (w : World) : Calls Try.prog 165 #[.int .u32 n] w fun e w' => e = .returned (.agg #[.int .u8 (n / 16777216 % 256), .int .u8 (n / 65536 % 256), .int .u8 (n / 256 % 256), .int .u8 (n % 256)]) ∧ Below w.heap.size w w' := octets n w
theorem agg8 : Agg Try.prog 216 8 := Agg.arr Try.underlying216 (by kernel_rfl)
theorem agg32 : Agg Try.prog 23 32 := Agg.arr Try.underlying23 (by kernel_rfl)
theorem longOctets (q : Int) (w : World) (h : 0 ≤ q ∧ q < 18446744073709551616) :
    Calls Try.prog 180 #[.int .u64 q] w fun e w' => e = .returned (.agg ((o8 q).map (Value.int .u8)).toArray) ∧ Below w.heap.size w w' := by
  obtain ⟨hi, HI⟩ : ∃ hi, Hid (hi = q / 4294967296 % 4294967296) := ⟨_, rfl⟩
  obtain ⟨lo, LO⟩ : ∃ lo, Hid (lo = q % 4294967296) := ⟨_, rfl⟩
  have E : Hid ([hi / 16777216 % 256, hi / 65536 % 256, hi / 256 % 256, hi % 256, lo / 16777216 % 256, lo / 65536 % 256, lo / 256 % 256, lo % 256] = o8 q) := by
    show _ = _
    rw [HI.out, LO.out]
    unfold o8
    simp only [List.cons.injEq, and_true]
    refine ⟨?_, ?_, ?_, ?_, ?_, ?_, ?_, ?_⟩ <;> omega
  have h1 : q / 4294967296 % 4294967296 = hi := HI.out.symm
  have h2 : q % 4294967296 = lo := LO.out.symm
  clear h
  go_enter Try.func180, Try.ntmps180
  go_wp2_with fail
  refine (octets' hi _).mono ?_
  rintro e w1 ⟨rfl, b1⟩
  go_wp2_with fail
  refine (octets' lo _).mono ?_
  rintro e w2 ⟨rfl, b2⟩
  have hB : BlkV 216 w2 w.heap.size ((List.replicate 8 (0 : Int)).map (Value.int .u8)) := ((BlkV.new 216 w ((List.replicate 8 (0 : Int)).map (Value.int .u8)) rfl).below b1 (by simp)).below b2 (by have := b1.size; simp at this; omega)
  have bb : Below w.heap.size w w2 := (((Below.refl w.heap.size w).alloc (Nat.le_refl _) _).trans (b1.mono (by simp))).trans (b2.mono (by have := b1.size; simp at this; omega))
  clear b1 b2
  go_wp2_with (first | (refine wl_storeAll rfl 216 _ _ rfl 216 w.heap.size rfl ([hi / 16777216 % 256, hi / 65536 % 256, hi / 256 % 256, hi % 256, lo / 16777216 % 256, lo / 65536 % 256, lo / 256 % 256, lo % 256].map (Value.int .u8)) rfl 8 agg8 rfl ((List.replicate 8 (0 : Int)).map (Value.int .u8)) ((hB.alloc _).alloc _) rfl (ints_one _ _) ?_; intro hRR))
  (try simp only [Exit.inBlock, Exit.then]); refine bodyPost_ret (results_cell rfl _ _ _ _ rfl _ agg8 hRR.at0) rfl ?_
  exact ⟨by rw [E.out], below_setRow' ((bb.alloc bb.size _).alloc (by have := bb.size; simp; omega) _) (Nat.le_refl _) _⟩
theorem zero8 : (Try.prog.info? 216).map (·.zero) = some (some (.agg ((List.replicate 8 (0 : Int)).map (Value.int .u8)).toArray)) := by kernel_rfl
/-- the state of which a block of a stream is stirred -/
def seed (k n : List Int) (q : Int) : List Int := splice (splice (splice (List.replicate 64 0) 0 k) 32 n) 56 (o8 q)
theorem splice_map (k : IntKind) (l d : List Int) (off : Nat) : splice (l.map (Value.int k)) off (d.map (Value.int k)) = (splice l off d).map (Value.int k) := by
  unfold splice
  rw [List.length_map, ← List.map_take, ← List.map_drop, ← List.map_append, ← List.map_append]
theorem splice_octs {l d : List Int} (hl : Octs l) (hd : Octs d) (off : Nat) : Octs (splice l off d) := by
  intro c hc
  unfold splice at hc
  rcases List.mem_append.1 hc with h | h
  · exact hl c (List.mem_of_mem_take h)
  · rcases List.mem_append.1 h with h | h
    · exact hd c h
    · exact hl c (List.mem_of_mem_drop h)
theorem o8_octs (q : Int) : Octs (o8 q) := by
  intro c hc
  unfold o8 at hc
  simp only [List.mem_cons, List.not_mem_nil, or_false] at hc
  unfold Oct
  rcases hc with rfl | rfl | rfl | rfl | rfl | rfl | rfl | rfl <;> omega
theorem zeros_octs (n : Nat) : Octs (List.replicate n 0) := by
  intro c hc; rw [(List.mem_replicate.1 hc).2]; unfold Oct; omega
theorem seed_length {k n : List Int} (hk : k.length = 32) (hn : n.length = 16) (q : Int) : (seed k n q).length = 64 := by
  unfold seed
  rw [length_splice, length_splice, length_splice, List.length_replicate]
  · rw [List.length_replicate]; omega
  · rw [length_splice, List.length_replicate]
    · omega
    · rw [List.length_replicate]; omega
  · rw [length_splice, length_splice, List.length_replicate]
    · show 56 + 8 ≤ 64; omega
    · rw [List.length_replicate]; omega
    · rw [length_splice, List.length_replicate]
      · omega
      · rw [List.length_replicate]; omega
theorem seed_octs {k n : List Int} (hk : Octs k) (hn : Octs n) (q : Int) : Octs (seed k n q) := splice_octs (splice_octs (splice_octs (zeros_octs 64) hk 0) hn 32) (o8_octs q) 56
set_option maxRecDepth 100000 in
set_option maxHeartbeats 2000000 in
theorem streamBlock (k n : List Int) (q : Int) (w : World) (hk : k.length = 32) (hn : n.length = 16) (ok : Octs k) (on : Octs n) (h : 0 ≤ q ∧ q < 18446744073709551616) :
    Calls Try.prog 195 #[.agg (k.map (Value.int .u8)).toArray, .agg (n.map (Value.int .u8)).toArray, .int .u64 q] w fun e w' => e = .returned (.agg ((stirL (seed k n q)).map (Value.int .u8)).toArray) ∧ Below w.heap.size w w' := by
  have HLS := hid (longOctets q)
  have Hh := hid h
  have HY := hid zero64
  obtain ⟨Z, HZ'⟩ : ∃ Z, Hid (Z = (List.replicate 64 (0 : Int)).map (Value.int .u8)) := ⟨_, rfl⟩
  rw [← HZ'.out] at HY
  obtain ⟨K, HK⟩ : ∃ K, Hid (K = k.map (Value.int .u8)) := ⟨_, rfl⟩
  obtain ⟨N, HN⟩ : ∃ N, Hid (N = n.map (Value.int .u8)) := ⟨_, rfl⟩
  rw [← HK.out, ← HN.out]
  have HKL : Hid (K.length = 32) := by show K.length = 32; rw [HK.out, List.length_map, hk]
  have HNL : Hid (N.length = 16) := by show N.length = 16; rw [HN.out, List.length_map, hn]
  have HZL : Hid (Z.length = 64) := by show Z.length = 64; rw [HZ'.out, List.length_map, List.length_replicate]
  have hK1 : ∀ u ∈ K, u.oneCell' = true := by rw [HK.out]; exact ints_one _ _
  have hN1 : ∀ u ∈ N, u.oneCell' = true := by rw [HN.out]; exact ints_one _ _
  have hkH := hid hk
  have hnH := hid hn
  clear h hk hn
  go_enter Try.func195, Try.ntmps195
  go_wp2_with (first | (refine wl_alloc rfl 152 rfl Z HY.out ?_))
  have hKw : BlkV 23 ((((w.alloc (.cells K.toArray 23)).alloc (.cells N.toArray 25)).alloc (.cells Z.toArray 152)).alloc (.cells Z.toArray 152)) w.heap.size K := (((BlkV.new _ w K rfl).alloc _).alloc _).alloc _
  have hNw : BlkV 25 ((((w.alloc (.cells K.toArray 23)).alloc (.cells N.toArray 25)).alloc (.cells Z.toArray 152)).alloc (.cells Z.toArray 152)) (w.heap.size + 1) N := ((BlkV.new _ _ N (by simp)).alloc _).alloc _
  have hRw : BlkV 152 ((((w.alloc (.cells K.toArray 23)).alloc (.cells N.toArray 25)).alloc (.cells Z.toArray 152)).alloc (.cells Z.toArray 152)) (w.heap.size + 2) Z := (BlkV.new _ _ Z (by simp)).alloc _
  have hSw : BlkV 152 ((((w.alloc (.cells K.toArray 23)).alloc (.cells N.toArray 25)).alloc (.cells Z.toArray 152)).alloc (.cells Z.toArray 152)) (w.heap.size + 3) Z := BlkV.new _ _ Z (by simp)
  have hb : Below w.heap.size w ((((w.alloc (.cells K.toArray 23)).alloc (.cells N.toArray 25)).alloc (.cells Z.toArray 152)).alloc (.cells Z.toArray 152)) := ((((Below.refl w.heap.size w).alloc (Nat.le_refl _) _).alloc (by simp) _).alloc (by simp; omega) _).alloc (by simp; omega) _
  generalize (((w.alloc (.cells K.toArray 23)).alloc (.cells N.toArray 25)).alloc (.cells Z.toArray 152)).alloc (.cells Z.toArray 152) = w0 at *
  have hal : Try.prog.arrayLen 152 = 64 := by kernel_rfl
  have halK : Try.prog.arrayLen 23 = 32 := by kernel_rfl
  have halN : Try.prog.arrayLen 25 = 16 := by kernel_rfl
  have hfit : 0 + K.length ≤ Z.length := by rw [HKL.out, HZL.out]; omega
  have hmin : K.length = Nat.min 32 64 := by rw [HKL.out]; rfl
  go_region_law (refine step_copy_splice rfl (.tmp 9) (.tmp 10) 69 69 rfl 5 Try.underlying69 size5 (some ⟨w.heap.size + 3, 0, none⟩) (some ⟨w.heap.size, 0, none⟩) 64 64 32 32 rfl rfl (w.heap.size + 3) 0 Z 152 hSw K hmin (fun _ => ⟨rfl, _, rfl, hKw.at0⟩) hfit hK1 (w.heap.size + 3) w0 ((Below.refl _ _).drew) (Nat.le_refl _) ?_; intro w4 hg4 hb4)
  obtain ⟨L1, HL1⟩ : ∃ L1, Hid (L1 = splice (List.replicate 64 (0 : Int)) 0 k) := ⟨_, rfl⟩
  obtain ⟨M1, HM1⟩ : ∃ M1, Hid (M1 = L1.map (Value.int .u8)) := ⟨_, rfl⟩
  have hS1 : BlkV 152 w4 (w.heap.size + 3) M1 := by
    have := hg4.out
    rw [HZ'.out, HK.out, splice_map, ← HL1.out, ← HM1.out] at this
    exact this
  have hM1l : M1.length = 64 := by rw [HM1.out, List.length_map, HL1.out, length_splice, List.length_replicate]; rw [List.length_replicate, hkH.out]; omega
  have hN4 := hNw.below hb4 (by omega)
  have hR4 := hRw.below hb4 (by omega)
  have b4 := hb.trans (hb4.mono (by omega))
  have HM1L := hid hM1l
  clear hfit hmin hKw hNw hRw hSw hb hb4 hg4 hM1l hal
  have hal : Try.prog.arrayLen 152 = 64 := by kernel_rfl
  go_wp2_with fail
  have hfit : 32 + N.length ≤ M1.length := by rw [HNL.out, HM1L.out]; omega
  have hmin : N.length = Nat.min 16 32 := by rw [HNL.out]; rfl
  go_region_law (refine step_copy_splice rfl (.tmp 12) (.tmp 13) 69 69 rfl 5 Try.underlying69 size5 (some ⟨w.heap.size + 3, 32, none⟩) (some ⟨w.heap.size + 1, 0, none⟩) 32 32 16 16 rfl rfl (w.heap.size + 3) 32 M1 152 hS1 N hmin (fun _ => ⟨rfl, _, rfl, hN4.at0⟩) hfit hN1 (w.heap.size + 3) w4 ((Below.refl _ _).drew) (Nat.le_refl _) ?_; intro w5 hg5 hb5)
  obtain ⟨L2, HL2⟩ : ∃ L2, Hid (L2 = splice L1 32 n) := ⟨_, rfl⟩
  obtain ⟨M2, HM2⟩ : ∃ M2, Hid (M2 = L2.map (Value.int .u8)) := ⟨_, rfl⟩
  have hS2 : BlkV 152 w5 (w.heap.size + 3) M2 := by
    have := hg5.out
    rw [HM1.out, HN.out, splice_map, ← HL2.out, ← HM2.out] at this
    exact this
  have hM2l : M2.length = 64 := by
    rw [HM2.out, List.length_map, HL2.out, length_splice]
    · have := HM1L.out; rw [HM1.out, List.length_map] at this; exact this
    · have := HM1L.out; rw [HM1.out, List.length_map] at this; rw [this, hnH.out]; omega
  have hR5 := hR4.below hb5 (by omega)
  have b5 := b4.trans (hb5.mono (by omega))
  have HM2L := hid hM2l
  clear hfit hmin hS1 hN4 hR4 b4 hb5 hg5 hM2l
  go_wp2_with fail
  refine (HLS.out w5 Hh.out).mono ?_
  rintro e w6 ⟨rfl, b56⟩
  obtain ⟨O, HO⟩ : ∃ O, Hid (O = (o8 q).map (Value.int .u8)) := ⟨_, rfl⟩
  rw [← HO.out]
  have HOL : Hid (O.length = 8) := by show O.length = 8; rw [HO.out]; rfl
  have hO1 : ∀ u ∈ O, u.oneCell' = true := by rw [HO.out]; exact ints_one _ _
  have hS6 := hS2.below b56 hS2.lt
  have hR6 := hR5.below b56 hR5.lt
  have b6 := b5.trans (b56.mono b5.size)
  obtain ⟨Z8, HZ8⟩ : ∃ Z8, Hid (Z8 = (List.replicate 8 (0 : Int)).map (Value.int .u8)) := ⟨_, rfl⟩
  have hz8 := zero8
  rw [← HZ8.out] at hz8
  have HZ8' := hid hz8
  clear hz8 hS2 hR5 b5 b56
  go_wp2_with (first | (refine wl_alloc rfl 216 rfl Z8 HZ8'.out ?_) | (refine wl_storeAll rfl 216 _ _ rfl 216 w6.heap.size rfl O rfl 8 agg8 HOL.out Z8 (BlkV.new _ w6 Z8 rfl) (by rw [HZ8.out]; rfl) hO1 ?_; intro hOO))
  obtain ⟨gO, HgO⟩ : ∃ gO, Hid (gO = w6.heap.size) := ⟨_, rfl⟩
  have hS7 := (hS6.alloc (.cells Z8.toArray 216)).otherRow (g' := w6.heap.size) (by have := hS6.lt; omega) O.toArray
  have hR7 := (hR6.alloc (.cells Z8.toArray 216)).otherRow (g' := w6.heap.size) (by have := hR6.lt; omega) O.toArray
  have b7 := below_setRow' (b6.alloc b6.size (.cells Z8.toArray 216)) b6.size O.toArray
  rw [← HgO.out] at hS7 hR7 b7 hOO ⊢
  generalize (w6.alloc (.cells Z8.toArray 216)).setRow gO O.toArray = w7 at *
  clear hS6 hR6 b6 HgO
  have hal8 : Try.prog.arrayLen 216 = 8 := by kernel_rfl
  have hfit : 56 + O.length ≤ M2.length := by rw [HOL.out, HM2L.out]; omega
  have hmin : O.length = Nat.min 8 8 := by rw [HOL.out]; rfl
  go_region_law (refine step_copy_splice rfl (.tmp 17) (.tmp 18) 69 69 rfl 5 Try.underlying69 size5 (some ⟨w.heap.size + 3, 56, none⟩) (some ⟨gO, 0, none⟩) 8 8 8 8 rfl rfl (w.heap.size + 3) 56 M2 152 hS7 O hmin (fun _ => ⟨rfl, _, rfl, hOO.at0⟩) hfit hO1 (w.heap.size + 3) w7 ((Below.refl _ _).drew) (Nat.le_refl _) ?_; intro w8 hg8 hb8)
  have hseed : splice L2 56 (o8 q) = seed k n q := by rw [HL2.out, HL1.out]; rfl
  have hS8 : BlkV 152 w8 (w.heap.size + 3) ((seed k n q).map (Value.int .u8)) := by
    have := hg8.out
    rw [HM2.out, HO.out, splice_map, hseed] at this
    exact this
  have hR8 := hR7.below hb8 (by omega)
  have b8 := b7.trans (hb8.mono (by omega))
  have hsl := seed_length hkH.out hnH.out q
  have hso := seed_octs ok on q
  clear hfit hmin hS7 hR7 b7 hb8 hg8 hOO hseed
  obtain ⟨D, HD⟩ : ∃ D, Hid (D = seed k n q) := ⟨_, rfl⟩
  rw [← HD.out] at hS8 hsl hso
  have HDL := hid hsl
  clear hsl
  go_wp2_with (first | (refine wl_load rfl 152 _ rfl ⟨w.heap.size + 3, 0, none⟩ rfl (D.map (Value.int .u8)) (by rw [List.length_map, HDL.out]; exact agg64) hS8.at0 ?_))
  refine (stirM D _ HDL.out hso).mono ?_
  rintro e w9 ⟨rfl, b89⟩
  obtain ⟨R, HR⟩ : ∃ R, Hid (R = (stirL D).map (Value.int .u8)) := ⟨_, rfl⟩
  have HRL : Hid (R.length = 64) := by show R.length = 64; rw [HR.out, List.length_map]; exact octL_length _ _
  have hR1 : ∀ u ∈ R, u.oneCell' = true := by rw [HR.out]; exact ints_one _ _
  have hR9 := hR8.below b89 hR8.lt
  have b9 := b8.trans (b89.mono b8.size)
  rw [← HR.out]
  go_wp2_with (first | (refine wl_storeAll rfl 152 _ _ rfl 152 (w.heap.size + 2) rfl R rfl 64 agg64 HRL.out Z hR9 HZL.out hR1 ?_; intro hRR))
  (try simp only [Exit.inBlock, Exit.then]); refine bodyPost_ret (results_cell rfl _ _ _ _ rfl R (by rw [HRL.out]; exact agg64) hRR.at0) rfl ?_
  exact ⟨by rw [HR.out, HD.out], below_setRow' b9 (by omega) _⟩
end Go.Proofs.Ytbljihhelladbaa.st
namespace Go.Proofs.Ytbljihhelladbaa.mp
set_option linter.unusedSimpArgs false
set_option linter.unusedVariables false
open Go.RowKit Go.Maps Go.WideMaps
/-- block b is a map of at most n entries, true at just the keys of S -/
def SetAt (P : Program) (k e : TypeId) (w : World) (b n : Nat) (S : List Lit) : Prop :=
  ∃ D : DataW Unit, w.ownsMap P k (plainElem P e) b n D ∧ ∀ kl, KeysOf P k kl → ∃ r : Bool, D.atKey kl (.lit (.bool false)) = .lit (.bool r) ∧ (r = true ↔ kl ∈ S)
theorem SetAt.made (P : Program) (k e : TypeId) (w : World) : SetAt P k e (w.alloc (.map #[] 0)) w.heap.size 0 [] :=
  ⟨_, World.ownsMap_made w P k _, fun kl _ => ⟨false, by simp [DataW.atKey], by simp⟩⟩
theorem SetAt.lt {P : Program} {k e : TypeId} {w : World} {b n : Nat} {S : List Lit} (h : SetAt P k e w b n S) : b < w.heap.size := by
  obtain ⟨D, h, _⟩ := h
  exact h.lt
theorem SetAt.kept {P : Program} {k e : TypeId} {w w' : World} {b n : Nat} {S : List Lit} {row : Option Nat} (h : SetAt P k e w b n S) (hg : w.grownBy w' row) (hr : some b ≠ row) : SetAt P k e w' b n S := by
  obtain ⟨D, h, h2⟩ := h
  exact ⟨D, h.kept hg hr, h2⟩
theorem SetAt.alloc {P : Program} {k e : TypeId} {w : World} {b n : Nat} {S : List Lit} (h : SetAt P k e w b n S) (o : Obj) : SetAt P k e (w.alloc o) b n S := h.kept (World.grownBy_alloc w o none) (by simp)
theorem SetAt.drew {P : Program} {k e : TypeId} {w : World} {b n : Nat} {S : List Lit} (h : SetAt P k e w b n S) : SetAt P k e w.drew b n S := h
theorem SetAt.drewN {P : Program} {k e : TypeId} {w : World} {b n : Nat} {S : List Lit} (h : SetAt P k e w b n S) (m : Nat) : SetAt P k e (w.drewN m) b n S := h
theorem SetAt.below {P : Program} {k e : TypeId} {w w' : World} {b n : Nat} {S : List Lit} (h : SetAt P k e w b n S) (hb : Below w.heap.size w w') : SetAt P k e w' b n S := by
  obtain ⟨D, ⟨es, clock, h1, h2⟩, h3⟩ := h
  exact ⟨D, ⟨es, clock, by rw [hb.block b (Array.getElem?_eq_some_iff.1 h1).1]; exact h1, h2⟩, h3⟩
section
variable {P : Program} {ops : Array Oper} {rest : List Oper} {o : Oper} {a : Act} {Q : Exit → Act → World → Prop}
end
theorem SetAt.put {P : Program} {t k e : TypeId} {w : World} {b n : Nat} {S : List Lit} (h : SetAt P k e w b n S) (K : Keyed P k) (ht : P.underlying t = some (.map k e)) (he : P.underlying e = some .bool) (hn : n < maxLen) {key : Value} {kl : Lit} (hkey : keyOf P k key = some kl) :
    ∃ w', (Instr.mapUpdate t (.map (some b)) key (.bool true)).run P w = .ok () w' ∧ SetAt P k e w' b (n + 1) (S ++ [kl]) ∧ w.grownBy w' (some b) := by
  obtain ⟨D, hown, hS⟩ := h
  obtain ⟨w', hrun, r1, r2⟩ := hown.update K ht hn hkey (plainElem_bool he true)
  refine ⟨w', hrun, ⟨_, r1, fun l hl => ?_⟩, r2⟩
  by_cases h : l = kl
  · subst h
    exact ⟨true, atKey_put_same hown.isMap (K.key hkey) _ _, by simp⟩
  · obtain ⟨r, h1, h2⟩ := hS l hl
    exact ⟨r, by rw [atKey_put_other h]; exact h1, by simp [h, h2]⟩
end Go.Proofs.Ytbljihhelladbaa.mp
namespace Go.Proofs.Ytbljihhelladbaa
set_option linter.unusedSimpArgs false
set_option linter.unusedVariables false
open Go.RowKit
theorem wl_loadG {P : Program} {w : World} {ops : Array Oper} {rest : List Oper} {o : Oper} {a : Act} {Q : Exit → Act → World → Prop} (hgd : Region.wanted o (yielded ops a.tmps) = true) (ty : TypeId) (x : Operand) (ho : o.op = .load ty x)
    (p : Addr) (hx : a.eval x = .pointer (some p)) (n : Nat) (cs : List Value) (hn : cs.length = n) (ha : Agg P ty n) (hc : At w p cs) (h : wpList P ops Q rest (a.put o.dst (.agg cs.toArray)) w) : wpList P ops Q (o :: rest) a w := by
  subst hn
  refine wpList_step fun K hK' => ?_
  rw [if_pos hgd]
  unfold Oper.wp
  simp [execOp, ho, hx, Instr.loadAt, Instr.sureAddr, run_load_agg w ty p cs ha hc, Result.andThen]
  exact hK' _ _ h
/-- a new variable: the world behind it a letter -/
theorem wl_allocV {P : Program} {w : World} {ops : Array Oper} {rest : List Oper} {o : Oper} {a : Act} {Q : Exit → Act → World → Prop} (hgd : o.guard = none) (t : TypeId) (ho : o.op = .alloc t)
    (cs : List Value) (hz : (P.info? t).map (·.zero) = some (some (.agg cs.toArray))) (N : Nat) (hN : w.heap.size = N)
    (h : ∀ w', BlkV t w' N cs → Below N w w' → w'.heap.size = N + 1 → wpList P ops Q rest (a.put o.dst (.pointer (some ⟨N, 0, none⟩))) w') : wpList P ops Q (o :: rest) a w := by
  subst hN
  exact wl_alloc hgd t ho cs hz (h _ (BlkV.new t w cs rfl) ((Below.refl _ _).alloc (Nat.le_refl _) _) (by simp))
/-- a whole store into a variable: the world behind it a letter -/
theorem wl_storeV {P : Program} {w : World} {ops : Array Oper} {rest : List Oper} {o : Oper} {a : Act} {Q : Exit → Act → World → Prop} (hgd : o.guard = none) (ty : TypeId) (x y : Operand) (ho : o.op = .store ty x y)
    (t : TypeId) (g : Nat) (hx : a.eval x = .pointer (some ⟨g, 0, none⟩)) (cs : List Value) (hy : a.eval y = .agg cs.toArray) (n : Nat) (hi : Agg P ty n) (hn : cs.length = n) (cur : List Value) (hg : BlkV t w g cur) (hc : cur.length = n) (h1 : ∀ u ∈ cs, u.oneCell' = true)
    (h : ∀ w', BlkV t w' g cs → Below g w w' → w'.heap.size = w.heap.size → wpList P ops Q rest (a.put o.dst undef) w') : wpList P ops Q (o :: rest) a w :=
  wl_storeAll hgd ty x y ho t g hx cs hy n hi hn cur hg hc h1 fun hb => h _ hb (below_setRow' (Below.refl _ _) (Nat.le_refl _) _) (by simp)
section
open Go.Maps Go.WideMaps mp
variable {P : Program} {ops : Array Oper} {rest : List Oper} {o : Oper} {a : Act} {Q : Exit → Act → World → Prop}
end
end Go.Proofs.Ytbljihhelladbaa
