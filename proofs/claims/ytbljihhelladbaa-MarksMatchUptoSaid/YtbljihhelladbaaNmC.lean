/-
  Contract of share.numbers: the numbers of a stream. Conditions: a key and a nonce of octets, at most 4096 numbers.
-/
import Derived.Test.YtbljihhelladbaaNmX
namespace Go.Proofs.Ytbljihhelladbaa.st
set_option linter.unusedSimpArgs false
set_option linter.unusedVariables false
open Go.RowKit Go.Proofs.Ytbljihhelladbaa.slInt
set_option pp.maxSteps 4000

theorem owns_below {w w' : World} {b : Nat} {e : TypeId} {s : Nat} {v : Value} {n : Nat} {xs : List Value} (h : w.ownsRow b e s v n xs) (hb : Below w.heap.size w w') : w'.ownsRow b e s v n xs := by
  obtain ⟨h1, h2⟩ := h
  refine ⟨h1, ?_⟩
  rcases h2 with h2 | ⟨g, cap, cur, hv, hg, hh, r⟩
  · exact Or.inl h2
  · exact Or.inr ⟨g, cap, cur, hv, hg, by rw [hb.block g (lt_of_block hh)]; exact hh, r⟩

set_option maxRecDepth 100000 in
set_option maxHeartbeats 2000000 in
theorem numbersM_o (k n : List Int) (many : Nat) (w : World) (hk : k.length = 32) (hn : n.length = 16) (ok : Octs k) (on : Octs n) (hmany : many ≤ 4096) :
    Calls Try.prog 87 #[.agg (k.map (Value.int .u8)).toArray, .agg (n.map (Value.int .u8)).toArray, .int .i64 many] w fun e w' => ∃ ao cap, e = .returned (.slice ao (numsOf many k n).length cap) ∧ RowI .i64 w' ao (numsOf many k n) ∧ Below w.heap.size w w' ∧ (ao = none → cap = 0) := by
  have hfew : ∀ q, q ≤ 1099511627776 → (blkTo many k n q).length < many → q ≤ many := few many hk hn ok on
  have HF := hid hfew
  obtain ⟨K, HK⟩ : ∃ K, Hid (K = k.map (Value.int .u8)) := ⟨_, rfl⟩
  obtain ⟨N, HN⟩ : ∃ N, Hid (N = n.map (Value.int .u8)) := ⟨_, rfl⟩
  have hst : ∀ (q : Nat) (F : Int) (w : World), F = 64 * (q : Int) → q ≤ 17179869184 → Calls Try.prog 150 #[.agg (k.map (Value.int .u8)).toArray, .agg (n.map (Value.int .u8)).toArray, .int .i64 F, .int .i64 64] w fun e w' => ∃ ao cap, e = .returned (.tuple #[.slice ao 64 cap, .int .i64 0]) ∧ Mine w' w.heap.size 5 1 (.slice ao 64 cap) 64 ((blk k n q).map (Value.int .u8)) ∧ Below w.heap.size w w' := fun q F w hF hq => streamM k n q F hF w hk hn ok on hq
  rw [← HK.out, ← HN.out] at hst
  have HST := hid hst
  rw [← HK.out, ← HN.out]
  have HKL : Hid (K.length = 32) := by show K.length = 32; rw [HK.out, List.length_map, hk]
  have HNL : Hid (N.length = 16) := by show N.length = 16; rw [HN.out, List.length_map, hn]
  clear hfew hst hk hn
  have hKw : BlkV 23 ((w.alloc (.cells K.toArray 23)).alloc (.cells N.toArray 25)) w.heap.size K := (BlkV.new _ w K rfl).alloc _
  have hNw : BlkV 25 ((w.alloc (.cells K.toArray 23)).alloc (.cells N.toArray 25)) (w.heap.size + 1) N := BlkV.new _ _ N (by simp)
  have hb0 : Below w.heap.size w ((w.alloc (.cells K.toArray 23)).alloc (.cells N.toArray 25)) := ((Below.refl w.heap.size w).alloc (Nat.le_refl _) _).alloc (by simp) _
  have hsz0 : w.heap.size + 2 ≤ ((w.alloc (.cells K.toArray 23)).alloc (.cells N.toArray 25)).heap.size := by simp
  go_enter Try.func87, Try.ntmps87
  go_wp2_with fail
  go_loopw [7, 8] (fun o i wr => ∃ q : Nat, q ≤ many + 1 ∧ i = .int .i64 (64 * (q : Int)) ∧ wr.ownsRow (w.heap.size + 2) 3 1 o (blkTo many k n q).length ((blkTo many k n q).map (Value.int .i64)) ∧ BlkV 23 wr w.heap.size K ∧ BlkV 25 wr (w.heap.size + 1) N ∧ Below w.heap.size w wr ∧ w.heap.size + 2 ≤ wr.heap.size) (fun _ i _ => 64 * (many + 2) - (intOf i).toNat)
  case atStart => exact ⟨0, by omega, rfl, World.ownsRow_nil _ _ _ _, hKw, hNw, hb0, hsz0⟩
  case round =>
    clear hKw hNw hb0 hsz0
    rename_i ov _
    obtain ⟨q, hq, rfl, hM, hK, hN, hb, hsz⟩ := hrel
    obtain ⟨L, HL⟩ : ∃ L, Hid (L = blkTo many k n q) := ⟨_, rfl⟩
    rw [← HL.out] at hM
    have hLm : L.length ≤ many := by rw [HL.out]; exact blkTo_le many k n q
    obtain ⟨ao, cap, hov, hcap, hR⟩ := Mine.row (Or.inl hM)
    subst hov
    by_cases h0 : L.length < many
    · have hqm : q ≤ many := HF.out q (by omega) (by rw [← HL.out]; exact h0)
      go_wp2_with (first | (refine wl_load rfl 23 _ rfl ⟨w.heap.size, 0, none⟩ rfl K (by rw [HKL.out]; exact agg32) hK.at0 ?_) | (refine wl_load rfl 25 _ rfl ⟨w.heap.size + 1, 0, none⟩ rfl N (by rw [HNL.out]; exact aggN) hN.at0 ?_))
      refine (HST.out q _ wr rfl (by omega)).mono ?_
      rintro e w3 ⟨bo, bc, rfl, hB3, b3⟩
      go_wp2_with fail
      obtain ⟨B, HB⟩ : ∃ B, Hid (B = blk k n q) := ⟨_, rfl⟩
      have hBo := own_of_mine hB3 (by omega)
      rw [← HB.out] at hBo
      have HBL : Hid (B.length = 64) := by show B.length = 64; rw [HB.out, blk_length]
      have hOct : ∀ i, Oct (B.getD i 0) := fun i => by rw [HB.out]; exact (blk_octs k n q).getD i
      have hM3 := owns_below hM b3
      have hK3 := hK.below b3 hK.lt
      have hN3 := hN.below b3 hN.lt
      have b3' := hb.trans (b3.mono hb.size)
      have hsz3 : w.heap.size + 2 ≤ w3.heap.size := Nat.le_trans hsz b3.size
      obtain ⟨gB, HgB⟩ : ∃ gB, Hid (gB = wr.heap.size) := ⟨_, rfl⟩
      rw [← HgB.out] at hBo
      clear hM hK hN hb hB3 b3 hR hcap
      go_loopw [7, 11] (fun o i wx => ∃ j : Nat, j ≤ 32 ∧ i = .int .i64 (2 * (j : Int)) ∧ wx.ownsRow (w.heap.size + 2) 3 1 o (pairTo many B L j).length ((pairTo many B L j).map (Value.int .i64)) ∧ wx.ownsRow gB 5 1 (.slice bo 64 bc) 64 (B.map (Value.int .u8)) ∧ BlkV 23 wx w.heap.size K ∧ BlkV 25 wx (w.heap.size + 1) N ∧ Below w.heap.size w wx ∧ w.heap.size + 2 ≤ wx.heap.size) (fun _ i _ => 64 - (intOf i).toNat)
      case atStart => exact ⟨0, by omega, rfl, hM3, hBo, hK3, hN3, b3', hsz3⟩
      case round =>
        rename_i ov2 _
        clear hM3 hBo hK3 hN3 b3' hsz3
        obtain ⟨j, hj, rfl, hP, hBo, hK, hN, hb, hszx⟩ := hrel
        have hend := pair_end (many := many) (b := B) (o := L) hj
        have hneg := pair_neg (many := many) (b := B) (o := L) (j := j)
        have hpos := pair_pos (many := many) (b := B) (o := L) (j := j)
        obtain ⟨P, HP⟩ : ∃ P, Hid (P = pairTo many B L j) := ⟨_, rfl⟩
        rw [← HP.out] at hP hend hneg hpos
        obtain ⟨ao2, cap2, hov2, hcap2, hR2⟩ := Mine.row (Or.inl hP)
        subst hov2
        have hap := apart hBo hP (by decide)
        by_cases h1 : j < 32 ∧ P.length < many
        · obtain ⟨h1, h2⟩ := h1
          obtain ⟨bo', bc', hbv, hbc, hBR⟩ := Mine.row (Or.inl hBo)
          obtain ⟨rfl, rfl⟩ : bo = bo' ∧ bc = bc' := by simpa using hbv
          have hBI : RowI .u8 wr bo B := RowV.i hBR
          obtain ⟨g, off, x, rfl, hg, HX, hcx⟩ := hBI.elem (i := 2 * j) (by rw [HBL.out]; omega)
          obtain ⟨g2, off2, y, hgg, hg2, HY, hcy⟩ := hBI.elem (i := 2 * j + 1) (by rw [HBL.out]; omega)
          obtain ⟨rfl, rfl⟩ : g = g2 ∧ off = off2 := by simpa using hgg
          obtain ⟨hx0, hx1⟩ : Oct x := by rw [HX.out]; exact hOct _
          obtain ⟨hy0, hy1⟩ : Oct y := by rw [HY.out]; exact hOct _
          have hV : vAt B j = 256 * x + y := by unfold vAt; rw [← HX.out, ← HY.out]
          rw [hV] at hneg hpos
          have HN1 := hid hneg
          have HP1 := hid hpos
          have hn2 : (2 * (j : Int) + 1).toNat = 2 * j + 1 := by omega
          have hn3 : (2 * (j : Int)).toNat = 2 * j := by omega
          have hw1 : IntKind.i64.wrap (2 * (j : Int) + 1) = 2 * (j : Int) + 1 := IntWalk.i64_in _ (by omega)
          have hw2 : IntKind.i64.wrap (256 * x) = 256 * x := IntWalk.i64_in _ (by omega)
          have hw3 : IntKind.i64.wrap (256 * x + y) = 256 * x + y := IntWalk.i64_in _ (by omega)
          have hi1 : (0 : Int) ≤ 2 * (j : Int) + 1 := by omega
          have hi2 : 2 * (j : Int) + 1 < 64 := by omega
          have hi3 : (0 : Int) ≤ 2 * (j : Int) := by omega
          have hi4 : 2 * (j : Int) < 64 := by omega
          have hd1 : decide (2 * (j : Int) < 64) = true := by simp; omega
          have hd2 : decide ((P.length : Int) < (many : Int)) = true := by simp; omega
          clear hneg hpos hV hbv hgg hBR hBI hend
          go_wp2_with fail
          go_quiet (fail)
          by_cases hv : 256 * x + y < 65535
          · have hPn := HP1.out h2 hv
            have HPn := hid hPn
            have hap2 := hap
            clear hPn hap
            go_wp2_with (at_builtin; refine wl_appendS rfl _ _ 26 rfl 3 (.int .i64 0) 1 8 Try.underlying26 slInt.info rfl (by decide) (w.heap.size + 2) _ P.length _ rfl (Or.inl (owns_below hP ((bdN (Below.refl _ _) nq).alloc (Nat.le_refl _) _))) (some ⟨wr.heap.size, 0, none⟩) 1 1 rfl (fun h => by cases h) [.int .i64 ((256 * x + y) % 257)] rfl (RowI.v (l := [(256 * x + y) % 257]) (BlkI.new .i64 3 (wr.drewN nq) [(256 * x + y) % 257]).row) (by simp [Value.oneCell']) (by unfold maxLen; omega) (by omega) (by simp; omega) (P.length + 1) rfl ?_; intro ao5 cap5 w5 row5 hc5 hM5 hR5 hg5 hrow5)
            have bel := (bdN (Below.refl wr.heap.size wr) nq).alloc (Nat.le_refl _) (.cells #[.int .i64 ((256 * x + y) % 257)] 3)
            have hne : ∀ m, m < w.heap.size + 2 → row5 ≠ some m := fun m hm hc => by have := (hrow5 m hc).1; omega
            have hB5 := (owns_below hBo bel).kept hg5 (Or.inr fun hc => by
              have h7 : (Value.slice ao2 P.length cap2).ownBlock = some g := (hrow5 g hc.symm).2
              rcases hap2 with h8 | h8
              · rw [h7] at h8; cases h8
              · exact h8 h7)
            have hK5 := (hK.below bel hK.lt).grown hg5 (hne _ (by omega))
            have hN5 := (hN.below bel hN.lt).grown hg5 (hne _ (by omega))
            have b5 := (hb.trans (bel.mono hb.size)).grown hg5 (Nat.le_trans hb.size bel.size) (fun k hk => by have := (hrow5 k hk).1; omega)
            have hs5 : w.heap.size + 2 ≤ w5.heap.size := Nat.le_trans hszx (Nat.le_trans bel.size hg5.size)
            have hO5 := own_of_mine hM5 (by omega)
            go_roundw
            case rel => exact ⟨j + 1, by omega, by go_num, by rw [HPn.out, List.length_append, List.map_append]; exact hO5, hB5, hK5, hN5, b5, hs5⟩
            case measure => simp [intOf] <;> omega
          · have hPn := HN1.out (by omega)
            rw [← hPn] at hP
            go_wp2_with fail
            go_roundw
            case rel => exact ⟨j + 1, by omega, by go_num, by rw [hPn]; rw [hPn] at hP; exact owns_below hP (bdN (Below.refl _ _) _), owns_below hBo (bdN (Below.refl _ _) _), hK.drewN _, hN.drewN _, bdN hb _, hszx⟩
            case measure => simp [intOf] <;> omega
        · have HPe := hid (hend h1)
          have hL' : P = blkTo many k n (q + 1) := by rw [HPe.out, HB.out, HL.out]; rfl
          have hP' : wr.ownsRow (w.heap.size + 2) 3 1 (.slice ao2 P.length cap2) (blkTo many k n (q + 1)).length ((blkTo many k n (q + 1)).map (Value.int .i64)) := by rw [← hL']; exact hP
          have hge : j < 32 → (many : Int) ≤ (P.length : Int) := fun h => by omega
          clear hend hneg hpos h1 hL' hP
          by_cases h32 : j < 32
          · have hd1 : decide (2 * (j : Int) < 64) = true := by simp; omega
            have hnn : ¬ P.length < many := by have := hge h32; omega
            clear hge
            go_wp2_with fail
            go_roundw
            case rel => exact ⟨q + 1, by omega, by go_num, hP', hK, hN, hb, hszx⟩
            case measure => simp [intOf] <;> omega
          · have hd1 : decide (2 * (j : Int) < 64) = false := by simp; omega
            go_wp2_with fail
            go_roundw
            case rel => exact ⟨q + 1, by omega, by go_num, hP', hK, hN, hb, hszx⟩
            case measure => simp [intOf] <;> omega
    · have HA := hid (all_of_full (many := many) (k := k) (n := n) (q := q) (by rw [← HL.out]; omega) (by omega))
      have hRL : RowI .i64 wr ao L := RowV.i hR
      rw [← HL.out] at HA
      go_wp2
      go_ret
      rw [← HA.out]
      refine ⟨_, _, rfl, hRL, hb, fun hno => ?_⟩
      subst hno
      rcases hM.2 with ⟨h, _⟩ | ⟨g, c, cur, h, _⟩
      · simp at h; exact h.2
      · simp at h
theorem numbersM (k n : List Int) (many : Nat) (w : World) (hk : k.length = 32) (hn : n.length = 16) (ok : Octs k) (on : Octs n) (hmany : many ≤ 4096) :
    Calls Try.prog 87 #[.agg (k.map (Value.int .u8)).toArray, .agg (n.map (Value.int .u8)).toArray, .int .i64 many] w fun e w' => ∃ ao cap, e = .returned (.slice ao (numsOf many k n).length cap) ∧ RowI .i64 w' ao (numsOf many k n) ∧ Below w.heap.size w w' :=
  (numbersM_o k n many w hk hn ok on hmany).mono fun e w' ⟨ao, cap, h1, h2, h3, _⟩ => ⟨ao, cap, h1, h2, h3⟩
end Go.Proofs.Ytbljihhelladbaa.st
