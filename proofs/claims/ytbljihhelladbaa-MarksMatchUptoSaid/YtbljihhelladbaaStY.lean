/-
  Blocks of streams, walked: contracts. Conditions: keys and nonces of octets.
-/
import Derived.Test.YtbljihhelladbaaStG
import Derived.Test.YtbljihhelladbaaStF
/- mix.Stream of a whole block: 64 octets from a place that 64 divides. Conditions: a key and a nonce of octets; the place at most 2^40. -/
namespace Go.Proofs.Ytbljihhelladbaa.st
open Go.RowKit
set_option pp.maxSteps 4000

theorem info8 : Info Try.prog 5 (.int .u8 0) 1 1 := by unfold Info; kernel_rfl
/-- a block of a stream -/
def blk (k n : List Int) (q : Nat) : List Int := stirL (seed k n q)
theorem blk_length (k n : List Int) (q : Nat) : (blk k n q).length = 64 := octL_length _ _

theorem rowV_of {t : TypeId} {w : World} {g : Nat} {cs : List Value} (h : BlkV t w g cs) : RowV w (some ⟨g, 0, none⟩) cs := Or.inr ⟨g, 0, rfl, h.lt, fun j u hu => by rw [Nat.zero_add, h.cell]; exact hu⟩

def left64 : Value → Nat
  | .slice _ n _ => 64 - n
  | _ => 0

set_option maxRecDepth 100000 in
set_option maxHeartbeats 2000000 in
theorem streamM (k n : List Int) (q : Nat) (F : Int) (hF : F = 64 * (q : Int)) (w : World) (hk : k.length = 32) (hn : n.length = 16) (ok : Octs k) (on : Octs n) (hq : q ≤ 17179869184) :
    Calls Try.prog 150 #[.agg (k.map (Value.int .u8)).toArray, .agg (n.map (Value.int .u8)).toArray, .int .i64 F, .int .i64 64] w fun e w' => ∃ ao cap, e = .returned (.tuple #[.slice ao 64 cap, .int .i64 0]) ∧ Mine w' w.heap.size 5 1 (.slice ao 64 cap) 64 ((blk k n q).map (Value.int .u8)) ∧ Below w.heap.size w w' := by
  obtain ⟨K, HK⟩ : ∃ K, Hid (K = k.map (Value.int .u8)) := ⟨_, rfl⟩
  obtain ⟨N, HN⟩ : ∃ N, Hid (N = n.map (Value.int .u8)) := ⟨_, rfl⟩
  rw [← HK.out, ← HN.out]
  have HKL : Hid (K.length = 32) := by show K.length = 32; rw [HK.out, List.length_map, hk]
  have HNL : Hid (N.length = 16) := by show N.length = 16; rw [HN.out, List.length_map, hn]
  obtain ⟨B, HB⟩ : ∃ B, Hid (B = blk k n q) := ⟨_, rfl⟩
  have HBL : Hid (B.length = 64) := by show B.length = 64; rw [HB.out, blk_length]
  obtain ⟨BB, HBB⟩ : ∃ BB, Hid (BB = B.map (Value.int .u8)) := ⟨_, rfl⟩
  have hsb : ∀ w, Calls Try.prog 195 #[.agg (k.map (Value.int .u8)).toArray, .agg (n.map (Value.int .u8)).toArray, .int .u64 q] w fun e w' => e = .returned (.agg ((blk k n q).map (Value.int .u8)).toArray) ∧ Below w.heap.size w w' := fun w => streamBlock k n q w hk hn ok on (by omega)
  rw [← HK.out, ← HN.out, ← HB.out, ← HBB.out] at hsb
  have HSB := hid hsb
  have HBBL : Hid (BB.length = 64) := by show BB.length = 64; rw [HBB.out, List.length_map, HBL.out]
  have hBB1 : ∀ u ∈ BB, u.oneCell' = true := by rw [HBB.out]; exact ints_one _ _
  have HY := hid zero64
  obtain ⟨Z, HZ'⟩ : ∃ Z, Hid (Z = (List.replicate 64 (0 : Int)).map (Value.int .u8)) := ⟨_, rfl⟩
  rw [← HZ'.out] at HY
  have HZL : Hid (Z.length = 64) := by show Z.length = 64; rw [HZ'.out, List.length_map, List.length_replicate]
  clear hsb
  have hd : F.tdiv 64 = q := by rw [hF, Int.tdiv_eq_ediv_of_nonneg (by omega)]; omega
  have hm : F.tmod 64 = 0 := by rw [hF, Int.tmod_eq_emod_of_nonneg (by omega)]; omega
  have hF0 : 0 ≤ F := by omega
  have hF1 : F ≤ 1099511627776 := by omega
  clear hF hk hn
  go_enter Try.func150, Try.ntmps150
  obtain ⟨i8, hi8, hz8, hs8, hy8⟩ := info8.parts
  have HI8 := hid hi8
  have HZ8 := hid hz8
  have HS8 := hid hs8
  have HY8 := hid hy8
  clear hi8 hz8 hs8 hy8
  have hKw : BlkV 23 ((w.alloc (.cells K.toArray 23)).alloc (.cells N.toArray 25)) w.heap.size K := (BlkV.new _ w K rfl).alloc _
  have hNw : BlkV 25 ((w.alloc (.cells K.toArray 23)).alloc (.cells N.toArray 25)) (w.heap.size + 1) N := BlkV.new _ _ N (by simp)
  have hb0 : Below w.heap.size w ((w.alloc (.cells K.toArray 23)).alloc (.cells N.toArray 25)) := ((Below.refl w.heap.size w).alloc (Nat.le_refl _) _).alloc (by simp) _
  go_wp2_with (first | (refine wpList_make_own _ rfl _ _ 69 rfl (w.heap.size + 2) 5 i8 (.int .u8 0) 1 Try.underlying69 HI8.out HZ8.out HS8.out .i64 .i64 64 64 rfl rfl rfl (by rw [HY8.out]; omega) (by unfold maxLen; omega) (by simp) ?_; intro w1 hM hg1))
  have hK1 := hKw.grown hg1 (by simp)
  have hN1 := hNw.grown hg1 (by simp)
  have b1 : Below w.heap.size w w1 := hb0.grown hg1 hb0.size (by simp)
  have hsz1 : w.heap.size + 2 ≤ w1.heap.size := by have := hg1.size; simp at this; omega
  simp only [World.alloc, Array.size_push] at hM ⊢
  clear hKw hNw hb0 hg1
  go_loopw [10, 11] (fun o i wr => (o = .slice (some ⟨w.heap.size + 1 + 1, 0, none⟩) 0 64 ∧ i = .int .i64 q ∧ wr.ownsRow (w.heap.size + 2) 5 1 o 0 [] ∧ BlkV 23 wr w.heap.size K ∧ BlkV 25 wr (w.heap.size + 1) N ∧ Below w.heap.size w wr ∧ w.heap.size + 2 ≤ wr.heap.size) ∨ (∃ ao cap, o = .slice ao 64 cap ∧ Mine wr w.heap.size 5 1 (.slice ao 64 cap) 64 BB ∧ Below w.heap.size w wr)) (fun o _ _ => left64 o)
  case atStart => exact Or.inl ⟨rfl, rfl, hM, hK1, hN1, b1, hsz1⟩
  case round =>
    rcases hrel with ⟨rfl, rfl, hM, hK, hN, hb, hsz⟩ | ⟨ao, cap, rfl, hR, hb⟩
    · go_wp2_with (first | (refine wl_load rfl 23 _ rfl ⟨w.heap.size, 0, none⟩ rfl K (by rw [HKL.out]; exact agg32) hK.at0 ?_) | (refine wl_load rfl 25 _ rfl ⟨w.heap.size + 1, 0, none⟩ rfl N (by rw [HNL.out]; exact aggN) hN.at0 ?_))
      refine (HSB.out wr).mono ?_
      rintro e w3 ⟨rfl, b3⟩
      have hM3 : Mine w3 (w.heap.size + 2) 5 1 (.slice (some ⟨w.heap.size + 1 + 1, 0, none⟩) 0 64) 0 [] := Mine.belowAll (Or.inl hM) b3
      have b4 := hb.trans (b3.mono hb.size)
      have hsz3 : w.heap.size + 2 ≤ w3.heap.size := by have := b3.size; omega
      clear hM hK hN b3
      have hbW := below_setRow' ((Below.refl w3.heap.size w3).alloc (Nat.le_refl _) (.cells Z.toArray 152)) (Nat.le_refl _) BB.toArray
      have hM4 := hM3.belowAll hbW
      have hsz4 : w.heap.size + 2 ≤ ((w3.alloc (.cells Z.toArray 152)).setRow w3.heap.size BB.toArray).heap.size := Nat.le_trans hsz3 hbW.size
      have b4' := b4.trans (hbW.mono b4.size)
      have HLen : Hid (BB.length = 64 * 1) := by show BB.length = 64 * 1; rw [HBBL.out]
      go_wp2_with (first | (refine wl_alloc rfl 152 rfl Z HY.out ?_) | (refine wl_storeAll rfl 152 _ _ rfl 152 w3.heap.size rfl BB rfl 64 agg64 HBBL.out Z (BlkV.new _ w3 Z rfl) HZL.out hBB1 ?_; intro hOO) | (at_builtin; refine wl_appendS rfl _ _ 69 rfl 5 (.int .u8 0) 1 1 Try.underlying69 info8 rfl (by decide) (w.heap.size + 2) _ 0 [] rfl hM4 (some ⟨w3.heap.size, 0, none⟩) 64 64 rfl (fun h => by cases h) BB HLen.out (rowV_of hOO) hBB1 (by unfold maxLen; omega) (by omega) hsz4 64 rfl ?_; intro ao5 cap5 w5 row5 hc5 hM5 hR5 hg5 hrow5))
      go_roundw
      case rel =>
        rw [List.nil_append] at hM5
        refine Or.inr ⟨_, _, rfl, hM5.mono (by omega), b4'.grown hg5 b4'.size fun k hk => ?_⟩
        have := (hrow5 k hk).1; omega
      case measure => simp [left64]
    · go_wp2
      go_ret2
      rw [HBB.out, HB.out] at hR
      exact ⟨_, _, rfl, hR, hb⟩
end Go.Proofs.Ytbljihhelladbaa.st

/- keyref1.long; keyref1.Stream of a whole block. Conditions: as mix.Stream's. -/
namespace Go.Proofs.Ytbljihhelladbaa.st
open Go.RowKit
set_option pp.maxSteps 4000

theorem infoU8 : (Try.prog.info? 5).map (fun i => (i.zero, i.size, i.bytes)) = some (some (.int .u8 0), 1, 1) := by kernel_rfl
theorem o8_at (q : Int) (i : Nat) (h : i < 8) : (o8 q).getD i 0 = q / 2 ^ (56 - 8 * i) % 256 := by
  match i, h with
  | 0, _ => rfl
  | 1, _ => rfl
  | 2, _ => rfl
  | 3, _ => rfl
  | 4, _ => rfl
  | 5, _ => rfl
  | 6, _ => rfl
  | 7, _ => simp [o8]
theorem o8_fill (q : Int) : fillTo (fun i => (o8 q).getD i 0) 8 8 = o8 q := rfl

set_option maxRecDepth 100000 in
set_option maxHeartbeats 1000000 in
theorem longR (q : Int) (w : World) :
    Calls Try.prog 153 #[.int .i64 q] w fun e w' => e = .returned (.slice (some ⟨w.heap.size, 0, none⟩) 8 8) ∧ BlkI .u8 5 w' w.heap.size (o8 q) ∧ Below w.heap.size w w' := by
  have hmk := run_make_row' (P := Try.prog) 69 5 (.int .u8 0) 1 Try.underlying69 infoU8 rfl .i64 .i64 8 (by omega) (by omega)
  have e8 : ((8 : Nat) : Int) = 8 := rfl
  simp only [e8] at hmk
  go_enter Try.func153, Try.ntmps153
  go_wp2_with fail
  go_loopw [8] (fun i wr => ∃ k : Nat, k ≤ 8 ∧ i = .int .i64 k ∧ BlkI .u8 5 wr w.heap.size (fillTo (fun i => (o8 q).getD i 0) 8 k) ∧ Below w.heap.size w wr) (fun i _ => 8 - (intOf i).toNat)
  case atStart =>
    refine ⟨0, by omega, rfl, ?_, (Below.refl _ _).alloc (Nat.le_refl _) _⟩
    rw [fillTo_zero]
    exact BlkI.made .u8 5 w 8
  case round =>
    obtain ⟨k, hk, rfl, hW, hb⟩ := hrel
    by_cases h0 : k < 8
    · have hf := hW.frozen k
      have hc := hW.cell (i := k) (by rw [fillTo_length _ _ _ (by omega)]; exact h0)
      have hST := hW.set k ((o8 q).getD k 0)
      have e := fillTo_set (fun i => (o8 q).getD i 0) 8 k h0
      rw [e, o8_at q k h0] at hST
      clear e
      go_wp2
      go_roundw
      case rel => exact ⟨k + 1, by omega, by go_num, hST, hb.setCell (Nat.le_refl _) _⟩
      case measure => simp [intOf] <;> omega
    · obtain rfl : k = 8 := by omega
      rw [o8_fill] at hW
      go_wp2
      go_ret
      exact ⟨rfl, hW, hb⟩
end Go.Proofs.Ytbljihhelladbaa.st

/- keyref1.Stream of a whole block. Conditions: as mix.Stream's. -/
namespace Go.Proofs.Ytbljihhelladbaa.st
open Go.RowKit
set_option pp.maxSteps 4000

def isFull : Value → Nat
  | .slice _ n _ => 64 - n
  | _ => 0

set_option maxRecDepth 100000 in
set_option maxHeartbeats 1000000 in
theorem streamR (k n : List Int) (q : Nat) (F : Int) (hF : F = 64 * (q : Int)) (w : World) (hk : k.length = 32) (hn : n.length = 16) (ok : Octs k) (on : Octs n) (hq : q ≤ 17179869184) :
    Calls Try.prog 89 #[.agg (k.map (Value.int .u8)).toArray, .agg (n.map (Value.int .u8)).toArray, .int .i64 F, .int .i64 64] w fun e w' => ∃ ao cap, e = .returned (.slice ao 64 cap) ∧ Mine w' w.heap.size 5 1 (.slice ao 64 cap) 64 ((blk k n q).map (Value.int .u8)) ∧ Below w.heap.size w w' := by
  have hst : ∀ (D : List Int) (w : World), D.length = 64 → Octs D → Calls Try.prog 154 #[.agg (D.map (Value.int .u8)).toArray] w fun e w' => e = .returned (.agg ((stirL D).map (Value.int .u8)).toArray) ∧ Below w.heap.size w w' := fun D w => stirR D w
  have HST := hid hst
  have HSL := hid (seed_length hk hn q)
  have HSO := hid (seed_octs ok on q)
  have hlg : ∀ w, Calls Try.prog 153 #[.int .i64 q] w fun e w' => e = .returned (.slice (some ⟨w.heap.size, 0, none⟩) 8 8) ∧ BlkI .u8 5 w' w.heap.size (o8 q) ∧ Below w.heap.size w w' := fun w => longR q w
  have HLG := hid hlg
  have HY := hid zero64
  obtain ⟨Z, HZ'⟩ : ∃ Z, Hid (Z = (List.replicate 64 (0 : Int)).map (Value.int .u8)) := ⟨_, rfl⟩
  rw [← HZ'.out] at HY
  obtain ⟨K, HK⟩ : ∃ K, Hid (K = k.map (Value.int .u8)) := ⟨_, rfl⟩
  obtain ⟨N, HN⟩ : ∃ N, Hid (N = n.map (Value.int .u8)) := ⟨_, rfl⟩
  rw [← HK.out, ← HN.out]
  have HKL : Hid (K.length = 32) := by show K.length = 32; rw [HK.out, List.length_map, hk]
  have HNL : Hid (N.length = 16) := by show N.length = 16; rw [HN.out, List.length_map, hn]
  have HZL : Hid (Z.length = 64) := by show Z.length = 64; rw [HZ'.out, List.length_map, List.length_replicate]
  have hK1 : ∀ u ∈ K, u.oneCell' = true := by rw [HK.out]; exact ints_one _ _
  have hN1 : ∀ u ∈ N, u.oneCell' = true := by rw [HN.out]; exact ints_one _ _
  obtain ⟨B, HB⟩ : ∃ B, Hid (B = blk k n q) := ⟨_, rfl⟩
  have HBL : Hid (B.length = 64) := by show B.length = 64; rw [HB.out, blk_length]
  obtain ⟨BB, HBB⟩ : ∃ BB, Hid (BB = B.map (Value.int .u8)) := ⟨_, rfl⟩
  have HBBL : Hid (BB.length = 64) := by show BB.length = 64; rw [HBB.out, List.length_map, HBL.out]
  have hBB1 : ∀ u ∈ BB, u.oneCell' = true := by rw [HBB.out]; exact ints_one _ _
  obtain ⟨O, HO⟩ : ∃ O, Hid (O = (o8 q).map (Value.int .u8)) := ⟨_, rfl⟩
  have HOL : Hid (O.length = 8) := by show O.length = 8; rw [HO.out]; rfl
  have hO1 : ∀ u ∈ O, u.oneCell' = true := by rw [HO.out]; exact ints_one _ _
  have hd : F.tdiv 64 = q := by rw [hF, Int.tdiv_eq_ediv_of_nonneg (by omega)]; omega
  have hm : F.tmod 64 = 0 := by rw [hF, Int.tmod_eq_emod_of_nonneg (by omega)]; omega
  have hF0 : 0 ≤ F := by omega
  have hF1 : F ≤ 1099511627776 := by omega
  have hkH := hid hk
  have hnH := hid hn
  clear hF hk hn hst hlg
  have hKw : BlkV 23 ((w.alloc (.cells K.toArray 23)).alloc (.cells N.toArray 25)) w.heap.size K := (BlkV.new _ w K rfl).alloc _
  have hNw : BlkV 25 ((w.alloc (.cells K.toArray 23)).alloc (.cells N.toArray 25)) (w.heap.size + 1) N := BlkV.new _ _ N (by simp)
  have hb0 : Below w.heap.size w ((w.alloc (.cells K.toArray 23)).alloc (.cells N.toArray 25)) := ((Below.refl w.heap.size w).alloc (Nat.le_refl _) _).alloc (by simp) _
  have hsz0 : w.heap.size + 2 ≤ ((w.alloc (.cells K.toArray 23)).alloc (.cells N.toArray 25)).heap.size := by simp
  go_enter Try.func89, Try.ntmps89
  go_wp2_with fail
  go_loopw [9, 10] (fun o i wr => (o = .slice none 0 0 ∧ i = .int .i64 F ∧ BlkV 23 wr w.heap.size K ∧ BlkV 25 wr (w.heap.size + 1) N ∧ Below w.heap.size w wr ∧ w.heap.size + 2 ≤ wr.heap.size) ∨ (∃ ao cap, o = .slice ao 64 cap ∧ i = .int .i64 (F + 64) ∧ Mine wr w.heap.size 5 1 (.slice ao 64 cap) 64 BB ∧ Below w.heap.size w wr)) (fun o _ _ => isFull o)
  case atStart => exact Or.inl ⟨rfl, rfl, hKw, hNw, hb0, hsz0⟩
  case round =>
    clear hKw hNw hb0 hsz0
    rcases hrel with ⟨rfl, rfl, hK, hN, hb, hsz⟩ | ⟨ao, cap, rfl, rfl, hR, hb⟩
    · go_wp2_with (first | (refine wl_alloc rfl 152 rfl Z HY.out ?_))
      obtain ⟨gS, HgS⟩ : ∃ gS, Hid (gS = wr.heap.size) := ⟨_, rfl⟩
      have hS0 : BlkV 152 (wr.alloc (.cells Z.toArray 152)) gS Z := BlkV.new _ wr Z HgS.out
      have hK0 := hK.alloc (.cells Z.toArray 152)
      have hN0 := hN.alloc (.cells Z.toArray 152)
      have b0 := hb.alloc hb.size (.cells Z.toArray 152)
      have hgS : w.heap.size + 2 ≤ gS := by rw [HgS.out]; exact hsz
      rw [← HgS.out]
      generalize wr.alloc (.cells Z.toArray 152) = w0 at *
      clear hK hN hb hsz HgS
      have hal : Try.prog.arrayLen 152 = 64 := by kernel_rfl
      have halK : Try.prog.arrayLen 23 = 32 := by kernel_rfl
      have halN : Try.prog.arrayLen 25 = 16 := by kernel_rfl
      have hfit : 0 + K.length ≤ Z.length := by rw [HKL.out, HZL.out]; omega
      have hmin : K.length = Nat.min 32 64 := by rw [HKL.out]; rfl
      go_region_law (refine step_copy_splice rfl (.tmp 21) (.tmp 22) 69 69 rfl 5 Try.underlying69 size5 (some ⟨gS, 0, none⟩) (some ⟨w.heap.size, 0, none⟩) 64 64 32 32 rfl rfl gS 0 Z 152 hS0 K hmin (fun _ => ⟨rfl, _, rfl, hK0.at0⟩) hfit hK1 gS w0 ((Below.refl _ _).drew) (Nat.le_refl _) ?_; intro w4 hg4 hb4)
      obtain ⟨L1, HL1⟩ : ∃ L1, Hid (L1 = splice (List.replicate 64 (0 : Int)) 0 k) := ⟨_, rfl⟩
      obtain ⟨M1, HM1⟩ : ∃ M1, Hid (M1 = L1.map (Value.int .u8)) := ⟨_, rfl⟩
      have hS1 : BlkV 152 w4 gS M1 := by
        have := hg4.out
        rw [HZ'.out, HK.out, splice_map, ← HL1.out, ← HM1.out] at this
        exact this
      have hM1l : M1.length = 64 := by rw [HM1.out, List.length_map, HL1.out, length_splice, List.length_replicate]; rw [List.length_replicate, hkH.out]; omega
      have hN4 := hN0.below hb4 (by omega)
      have b4 := b0.trans (hb4.mono (by omega))
      have HM1L := hid hM1l
      clear hfit hmin hK0 hN0 b0 hb4 hg4 hM1l hS0
      go_wp2_with fail
      have hfit : 32 + N.length ≤ M1.length := by rw [HNL.out, HM1L.out]; omega
      have hmin : N.length = Nat.min 16 32 := by rw [HNL.out]; rfl
      go_region_law (refine step_copy_splice rfl (.tmp 24) (.tmp 25) 69 69 rfl 5 Try.underlying69 size5 (some ⟨gS, 32, none⟩) (some ⟨w.heap.size + 1, 0, none⟩) 32 32 16 16 rfl rfl gS 32 M1 152 hS1 N hmin (fun _ => ⟨rfl, _, rfl, hN4.at0⟩) hfit hN1 gS w4 ((Below.refl _ _).drew) (Nat.le_refl _) ?_; intro w5 hg5 hb5)
      obtain ⟨L2, HL2⟩ : ∃ L2, Hid (L2 = splice L1 32 n) := ⟨_, rfl⟩
      obtain ⟨M2, HM2⟩ : ∃ M2, Hid (M2 = L2.map (Value.int .u8)) := ⟨_, rfl⟩
      have hS2 : BlkV 152 w5 gS M2 := by
        have := hg5.out
        rw [HM1.out, HN.out, splice_map, ← HL2.out, ← HM2.out] at this
        exact this
      have hM2l : M2.length = 64 := by
        rw [HM2.out, List.length_map, HL2.out, length_splice]
        · have := HM1L.out; rw [HM1.out, List.length_map] at this; exact this
        · have := HM1L.out; rw [HM1.out, List.length_map] at this; rw [this, hnH.out]; omega
      have b5 := b4.trans (hb5.mono (by omega))
      have HM2L := hid hM2l
      clear hfit hmin hS1 hN4 b4 hb5 hg5 hM2l
      go_wp2_with fail
      have hfit : 56 + O.length ≤ M2.length := by rw [HOL.out, HM2L.out]; omega
      have hmin : O.length = Nat.min 8 8 := by rw [HOL.out]; rfl
      have hgl := hS2.lt
      have hwq : IntKind.i64.wrap (q : Int) = (q : Int) := IntWalk.i64_in _ (by omega)
      go_region_law (first | (go_simp; go_at_call 153; refine (HLG.out w5.drew).mono ?_; rintro e wl ⟨rfl, hLB, hbL⟩; have hLo : At wl ⟨w5.heap.size, 0, none⟩ O := by (rw [HO.out]; exact (BlkI.v hLB).at0)) | (refine step_copy_splice rfl (.tmp 27) (.tmp 30) 69 69 rfl 5 Try.underlying69 size5 (some ⟨gS, 56, none⟩) (some ⟨w5.heap.size, 0, none⟩) 8 8 8 8 rfl rfl gS 56 M2 152 (hS2.drew.below hbL hgl) O hmin (fun _ => ⟨rfl, _, rfl, hLo⟩) hfit hO1 gS wl (Below.refl _ _) (Nat.le_refl _) ?_; intro w8 hg8 hb8))
      have hseed : splice L2 56 (o8 q) = seed k n q := by rw [HL2.out, HL1.out]; rfl
      obtain ⟨D, HD⟩ : ∃ D, Hid (D = seed k n q) := ⟨_, rfl⟩
      have hS8 : BlkV 152 w8 gS (D.map (Value.int .u8)) := by
        have := hg8.out
        rw [HM2.out, HO.out, splice_map, hseed, ← HD.out] at this
        exact this
      have b8 : Below w.heap.size w w8 := (b5.drew.trans (hbL.mono b5.size)).trans (hb8.mono (by omega))
      have hDl : D.length = 64 := by rw [HD.out]; exact HSL.out
      have hDo : Octs D := by rw [HD.out]; exact HSO.out
      have HDL := hid hDl
      clear hfit hmin hS2 b5 hb8 hg8 hLB hbL hLo hseed hgl hwq hDl
      go_wp2_with (first | (refine wl_load rfl 152 _ rfl ⟨gS, 0, none⟩ rfl (D.map (Value.int .u8)) (by rw [List.length_map, HDL.out]; exact agg64) hS8.at0 ?_))
      refine (HST.out D _ HDL.out hDo).mono ?_
      rintro e w9 ⟨rfl, b89⟩
      have hBBe : (stirL D).map (Value.int .u8) = BB := by rw [HBB.out, HB.out, HD.out]; rfl
      rw [hBBe]
      have hS9 := hS8.below b89 hS8.lt
      have b9 := b8.trans (b89.mono b8.size)
      have hgb : w.heap.size ≤ gS := by omega
      have hDML : (D.map (Value.int .u8)).length = 64 := by rw [List.length_map, HDL.out]
      have HDML := hid hDML
      have HLen : Hid (BB.length = 64 * 1) := by show BB.length = 64 * 1; rw [HBBL.out]
      have hsz9 : w.heap.size ≤ (w9.setRow gS BB.toArray).heap.size := by have := b9.size; simp; omega
      have b10 := below_setRow' b9 hgb BB.toArray
      clear hBBe hS8 b89 b8 hDML
      go_wp2_with (first | (refine wl_storeAll rfl 152 _ _ rfl 152 gS rfl BB rfl 64 agg64 HBBL.out (D.map (Value.int .u8)) hS9 HDML.out hBB1 ?_; intro hOO) | (at_builtin; refine wl_appendS rfl _ _ 69 rfl 5 (.int .u8 0) 1 1 Try.underlying69 info8 rfl (by decide) w.heap.size _ 0 [] rfl (Mine.nil _ _ _ _) (some ⟨gS, 0, none⟩) 64 64 rfl (fun h => by cases h) BB HLen.out (rowV_of hOO) hBB1 (by unfold maxLen; omega) (by omega) hsz9 64 rfl ?_; intro ao5 cap5 w11 row5 hc5 hM5 hR5 hg5 hrow5))
      go_roundw
      case rel =>
        rw [List.nil_append] at hM5
        exact Or.inr ⟨_, _, rfl, by go_num, hM5, b10.grown hg5 b10.size fun k hk => (hrow5 k hk).1⟩
      case measure => simp [isFull]
    · go_wp2
      go_ret
      rw [HBB.out, HB.out] at hR
      exact ⟨_, _, rfl, hR, hb⟩
end Go.Proofs.Ytbljihhelladbaa.st
