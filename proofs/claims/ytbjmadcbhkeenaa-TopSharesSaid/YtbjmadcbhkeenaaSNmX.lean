/-
  Contracts of NumberOf and slices.Equal; the numbers of a stream, pair by pair. Conditions: octets. Contract of share.numbers: the numbers of a stream. Conditions: a key and a nonce of octets, at most 4096 numbers. Contracts of share.polynomial and keyref2.polynomials: an octet's polynomial out of a seed. Conditions: a seed of octets, a need from 1 to 32. Contracts of share.Combine and Agree. Conditions: shares of the type's form.
-/
import Derived.Test.YtbjmadcbhkeenaaSStG
import Derived.Test.YtbjmadcbhkeenaaSShr
import Derived.Test.YtbjmadcbhkeenaaSShM
/- Contracts of keyref2.NumberOf (two octets), slices.Equal at []int. Conditions: octets. -/
namespace Go.Proofs.Ytbjmadcbhkeenaa.st
set_option linter.unusedSimpArgs false
set_option linter.unusedVariables false
open Go.RowKit
set_option pp.maxSteps 4000
end Go.Proofs.Ytbjmadcbhkeenaa.st
/- Contract of share.numbers: the numbers of a stream. Conditions: a key and a nonce of octets, at most 4096 numbers. -/
namespace Go.Proofs.Ytbjmadcbhkeenaa.st
open Go.RowKit Go.Proofs.Ytbjmadcbhkeenaa.slInt
set_option pp.maxSteps 4000
theorem own_of_mine {w : World} {b : Nat} {e : TypeId} {s : Nat} {v : Value} {n : Nat} {xs : List Value} (h : Mine w b e s v n xs) (hn : 0 < n) : w.ownsRow b e s v n xs := by
  rcases h with h | ⟨h, _⟩
  · exact h
  · omega
/-- rows of different types lie apart -/
theorem apart {w : World} {b1 b2 : Nat} {e1 e2 : TypeId} {s1 s2 : Nat} {v1 v2 : Value} {n1 n2 : Nat} {x1 x2 : List Value} (h1 : w.ownsRow b1 e1 s1 v1 n1 x1) (h2 : w.ownsRow b2 e2 s2 v2 n2 x2) (he : e1 ≠ e2) : v2.ownBlock = none ∨ v2.ownBlock ≠ v1.ownBlock := by
  rcases h2 with ⟨_, ⟨rfl, _⟩ | ⟨g, cap, cur, rfl, hg, hh, _⟩⟩
  · exact Or.inl rfl
  · refine Or.inr fun hc => ?_
    rcases h1 with ⟨_, ⟨rfl, _⟩ | ⟨g', cap', cur', rfl, hg', hh', _⟩⟩
    · cases hc
    · have e : g = g' := by simpa [Value.ownBlock] using hc
      subst e
      rw [hh] at hh'
      simp at hh'
      exact he hh'.2.symm
theorem pair_pos {many : Nat} {b o : List Int} {j : Nat} (h : (pairTo many b o j).length < many) (hv : vAt b j < 65535) : pairTo many b o (j + 1) = pairTo many b o j ++ [vAt b j % 257] := by
  show stepN many b (pairTo many b o j) j = _
  unfold stepN
  rw [if_pos h, if_pos hv]
theorem pair_neg {many : Nat} {b o : List Int} {j : Nat} (hv : ¬ vAt b j < 65535) : pairTo many b o (j + 1) = pairTo many b o j := by
  show stepN many b (pairTo many b o j) j = _
  unfold stepN
  rw [if_neg hv]
  split <;> rfl
theorem pair_end {many : Nat} {b o : List Int} {j : Nat} (hj : j ≤ 32) (h : ¬ (j < 32 ∧ (pairTo many b o j).length < many)) : pairTo many b o j = pairTo many b o 32 := by
  by_cases h1 : j = 32
  · rw [h1]
  · have := pairTo_stop (many := many) (b := b) (o := o) (i := j) (by omega) (32 - j)
    rw [show j + (32 - j) = 32 by omega] at this
    exact this.symm
end Go.Proofs.Ytbjmadcbhkeenaa.st
namespace Go.Proofs.Ytbjmadcbhkeenaa.st
set_option linter.unusedSimpArgs false
set_option linter.unusedVariables false
open Go.RowKit Go.Proofs.Ytbjmadcbhkeenaa.slInt
set_option pp.maxSteps 4000
theorem owns_below {w w' : World} {b : Nat} {e : TypeId} {s : Nat} {v : Value} {n : Nat} {xs : List Value} (h : w.ownsRow b e s v n xs) (hb : Below w.heap.size w w') : w'.ownsRow b e s v n xs := by
  obtain ⟨h1, h2⟩ := h
  refine ⟨h1, ?_⟩
  rcases h2 with h2 | ⟨g, cap, cur, hv, hg, hh, r⟩
  · exact Or.inl h2
  · exact Or.inr ⟨g, cap, cur, hv, hg, by rw [hb.block g (lt_of_block hh)]; exact hh, r⟩
set_option maxRecDepth 100000 in
set_option maxHeartbeats 2000000 in
theorem numbersM_o (k n : List Int) (many : Nat) (w : World) (hk : k.length = 32) (hn : n.length = 16) (ok : Octs k) (on : Octs n) (hmany : many ≤ 4096) :
    Calls Try.prog 35 #[.agg (k.map (Value.int .u8)).toArray, .agg (n.map (Value.int .u8)).toArray, .int .i64 many] w fun e w' => ∃ ao cap, e = .returned (.slice ao (numsOf many k n).length cap) ∧ RowI .i64 w' ao (numsOf many k n) ∧ Below w.heap.size w w' ∧ (ao = none → cap = 0) := by
  have hfew : ∀ q, q ≤ 1099511627776 → (blkTo many k n q).length < many → q ≤ many := few many hk hn ok on
  have HF := hid hfew
  obtain ⟨K, HK⟩ : ∃ K, Hid (K = k.map (Value.int .u8)) := ⟨_, rfl⟩
  obtain ⟨N, HN⟩ : ∃ N, Hid (N = n.map (Value.int .u8)) := ⟨_, rfl⟩
  have hst : ∀ (q : Nat) (F : Int) (w : World), F = 64 * (q : Int) → q ≤ 17179869184 → Calls Try.prog 52 #[.agg (k.map (Value.int .u8)).toArray, .agg (n.map (Value.int .u8)).toArray, .int .i64 F, .int .i64 64] w fun e w' => ∃ ao cap, e = .returned (.tuple #[.slice ao 64 cap, .int .i64 0]) ∧ Mine w' w.heap.size 5 1 (.slice ao 64 cap) 64 ((blk k n q).map (Value.int .u8)) ∧ Below w.heap.size w w' := fun q F w hF hq => streamM k n q F hF w hk hn ok on hq
  rw [← HK.out, ← HN.out] at hst
  have HST := hid hst
  rw [← HK.out, ← HN.out]
  have HKL : Hid (K.length = 32) := by show K.length = 32; rw [HK.out, List.length_map, hk]
  have HNL : Hid (N.length = 16) := by show N.length = 16; rw [HN.out, List.length_map, hn]
  clear hfew hst hk hn
  have hKw : BlkV 23 ((w.alloc (.cells K.toArray 23)).alloc (.cells N.toArray 74)) w.heap.size K := (BlkV.new _ w K rfl).alloc _
  have hNw : BlkV 74 ((w.alloc (.cells K.toArray 23)).alloc (.cells N.toArray 74)) (w.heap.size + 1) N := BlkV.new _ _ N (by simp)
  have hb0 : Below w.heap.size w ((w.alloc (.cells K.toArray 23)).alloc (.cells N.toArray 74)) := ((Below.refl w.heap.size w).alloc (Nat.le_refl _) _).alloc (by simp) _
  have hsz0 : w.heap.size + 2 ≤ ((w.alloc (.cells K.toArray 23)).alloc (.cells N.toArray 74)).heap.size := by simp
  go_enter Try.func35, Try.ntmps35
  go_wp2_with fail
  go_loopw [7, 8] (fun o i wr => ∃ q : Nat, q ≤ many + 1 ∧ i = .int .i64 (64 * (q : Int)) ∧ wr.ownsRow (w.heap.size + 2) 3 1 o (blkTo many k n q).length ((blkTo many k n q).map (Value.int .i64)) ∧ BlkV 23 wr w.heap.size K ∧ BlkV 74 wr (w.heap.size + 1) N ∧ Below w.heap.size w wr ∧ w.heap.size + 2 ≤ wr.heap.size) (fun _ i _ => 64 * (many + 2) - (intOf i).toNat)
  case atStart => exact ⟨0, by omega, rfl, World.ownsRow_nil _ _ _ _, hKw, hNw, hb0, hsz0⟩
  case round =>
    clear hKw hNw hb0 hsz0
    rename_i ov _
    obtain ⟨q, hq, rfl, hM, hK, hN, hb, hsz⟩ := hrel
    obtain ⟨L, HL⟩ : ∃ L, Hid (L = blkTo many k n q) := ⟨_, rfl⟩
    rw [← HL.out] at hM
    have hLm : L.length ≤ many := by rw [HL.out]; exact blkTo_le many k n q
    obtain ⟨ao, cap, hov, hcap, hR⟩ := Mine.row (Or.inl hM)
    subst hov
    by_cases h0 : L.length < many
    · have hqm : q ≤ many := HF.out q (by omega) (by rw [← HL.out]; exact h0)
      go_wp2_with (first | (refine wl_load rfl 23 _ rfl ⟨w.heap.size, 0, none⟩ rfl K (by rw [HKL.out]; exact agg32) hK.at0 ?_) | (refine wl_load rfl 74 _ rfl ⟨w.heap.size + 1, 0, none⟩ rfl N (by rw [HNL.out]; exact aggN) hN.at0 ?_))
      refine (HST.out q _ wr rfl (by omega)).mono ?_
      rintro e w3 ⟨bo, bc, rfl, hB3, b3⟩
      go_wp2_with fail
      obtain ⟨B, HB⟩ : ∃ B, Hid (B = blk k n q) := ⟨_, rfl⟩
      have hBo := own_of_mine hB3 (by omega)
      rw [← HB.out] at hBo
      have HBL : Hid (B.length = 64) := by show B.length = 64; rw [HB.out, blk_length]
      have hOct : ∀ i, Oct (B.getD i 0) := fun i => by rw [HB.out]; exact (blk_octs k n q).getD i
      have hM3 := owns_below hM b3
      have hK3 := hK.below b3 hK.lt
      have hN3 := hN.below b3 hN.lt
      have b3' := hb.trans (b3.mono hb.size)
      have hsz3 : w.heap.size + 2 ≤ w3.heap.size := Nat.le_trans hsz b3.size
      obtain ⟨gB, HgB⟩ : ∃ gB, Hid (gB = wr.heap.size) := ⟨_, rfl⟩
      rw [← HgB.out] at hBo
      clear hM hK hN hb hB3 b3 hR hcap
      go_loopw [7, 11] (fun o i wx => ∃ j : Nat, j ≤ 32 ∧ i = .int .i64 (2 * (j : Int)) ∧ wx.ownsRow (w.heap.size + 2) 3 1 o (pairTo many B L j).length ((pairTo many B L j).map (Value.int .i64)) ∧ wx.ownsRow gB 5 1 (.slice bo 64 bc) 64 (B.map (Value.int .u8)) ∧ BlkV 23 wx w.heap.size K ∧ BlkV 74 wx (w.heap.size + 1) N ∧ Below w.heap.size w wx ∧ w.heap.size + 2 ≤ wx.heap.size) (fun _ i _ => 64 - (intOf i).toNat)
      case atStart => exact ⟨0, by omega, rfl, hM3, hBo, hK3, hN3, b3', hsz3⟩
      case round =>
        rename_i ov2 _
        clear hM3 hBo hK3 hN3 b3' hsz3
        obtain ⟨j, hj, rfl, hP, hBo, hK, hN, hb, hszx⟩ := hrel
        have hend := pair_end (many := many) (b := B) (o := L) hj
        have hneg := pair_neg (many := many) (b := B) (o := L) (j := j)
        have hpos := pair_pos (many := many) (b := B) (o := L) (j := j)
        obtain ⟨P, HP⟩ : ∃ P, Hid (P = pairTo many B L j) := ⟨_, rfl⟩
        rw [← HP.out] at hP hend hneg hpos
        obtain ⟨ao2, cap2, hov2, hcap2, hR2⟩ := Mine.row (Or.inl hP)
        subst hov2
        have hap := apart hBo hP (by decide)
        by_cases h1 : j < 32 ∧ P.length < many
        · obtain ⟨h1, h2⟩ := h1
          obtain ⟨bo', bc', hbv, hbc, hBR⟩ := Mine.row (Or.inl hBo)
          obtain ⟨rfl, rfl⟩ : bo = bo' ∧ bc = bc' := by simpa using hbv
          have hBI : RowI .u8 wr bo B := RowV.i hBR
          obtain ⟨g, off, x, rfl, hg, HX, hcx⟩ := hBI.elem (i := 2 * j) (by rw [HBL.out]; omega)
          obtain ⟨g2, off2, y, hgg, hg2, HY, hcy⟩ := hBI.elem (i := 2 * j + 1) (by rw [HBL.out]; omega)
          obtain ⟨rfl, rfl⟩ : g = g2 ∧ off = off2 := by simpa using hgg
          obtain ⟨hx0, hx1⟩ : Oct x := by rw [HX.out]; exact hOct _
          obtain ⟨hy0, hy1⟩ : Oct y := by rw [HY.out]; exact hOct _
          have hV : vAt B j = 256 * x + y := by unfold vAt; rw [← HX.out, ← HY.out]
          rw [hV] at hneg hpos
          have HN1 := hid hneg
          have HP1 := hid hpos
          have hn2 : (2 * (j : Int) + 1).toNat = 2 * j + 1 := by omega
          have hn3 : (2 * (j : Int)).toNat = 2 * j := by omega
          have hw1 : IntKind.i64.wrap (2 * (j : Int) + 1) = 2 * (j : Int) + 1 := IntWalk.i64_in _ (by omega)
          have hw2 : IntKind.i64.wrap (256 * x) = 256 * x := IntWalk.i64_in _ (by omega)
          have hw3 : IntKind.i64.wrap (256 * x + y) = 256 * x + y := IntWalk.i64_in _ (by omega)
          have hi1 : (0 : Int) ≤ 2 * (j : Int) + 1 := by omega
          have hi2 : 2 * (j : Int) + 1 < 64 := by omega
          have hi3 : (0 : Int) ≤ 2 * (j : Int) := by omega
          have hi4 : 2 * (j : Int) < 64 := by omega
          have hd1 : decide (2 * (j : Int) < 64) = true := by simp; omega
          have hd2 : decide ((P.length : Int) < (many : Int)) = true := by simp; omega
          clear hneg hpos hV hbv hgg hBR hBI hend
          go_wp2_with fail
          go_quiet (fail)
          by_cases hv : 256 * x + y < 65535
          · have hPn := HP1.out h2 hv
            have HPn := hid hPn
            have hap2 := hap
            clear hPn hap
            go_wp2_with (at_builtin; refine wl_appendS rfl _ _ 24 rfl 3 (.int .i64 0) 1 8 Try.underlying24 slInt.info rfl (by decide) (w.heap.size + 2) _ P.length _ rfl (Or.inl (owns_below hP ((bdN (Below.refl _ _) nq).alloc (Nat.le_refl _) _))) (some ⟨wr.heap.size, 0, none⟩) 1 1 rfl (fun h => by cases h) [.int .i64 ((256 * x + y) % 257)] rfl (RowI.v (l := [(256 * x + y) % 257]) (BlkI.new .i64 3 (wr.drewN nq) [(256 * x + y) % 257]).row) (by simp [Value.oneCell']) (by unfold maxLen; omega) (by omega) (by simp; omega) (P.length + 1) rfl ?_; intro ao5 cap5 w5 row5 hc5 hM5 hR5 hg5 hrow5)
            have bel := (bdN (Below.refl wr.heap.size wr) nq).alloc (Nat.le_refl _) (.cells #[.int .i64 ((256 * x + y) % 257)] 3)
            have hne : ∀ m, m < w.heap.size + 2 → row5 ≠ some m := fun m hm hc => by have := (hrow5 m hc).1; omega
            have hB5 := (owns_below hBo bel).kept hg5 (Or.inr fun hc => by
              have h7 : (Value.slice ao2 P.length cap2).ownBlock = some g := (hrow5 g hc.symm).2
              rcases hap2 with h8 | h8
              · rw [h7] at h8; cases h8
              · exact h8 h7)
            have hK5 := (hK.below bel hK.lt).grown hg5 (hne _ (by omega))
            have hN5 := (hN.below bel hN.lt).grown hg5 (hne _ (by omega))
            have b5 := (hb.trans (bel.mono hb.size)).grown hg5 (Nat.le_trans hb.size bel.size) (fun k hk => by have := (hrow5 k hk).1; omega)
            have hs5 : w.heap.size + 2 ≤ w5.heap.size := Nat.le_trans hszx (Nat.le_trans bel.size hg5.size)
            have hO5 := own_of_mine hM5 (by omega)
            go_roundw
            case rel => exact ⟨j + 1, by omega, by go_num, by rw [HPn.out, List.length_append, List.map_append]; exact hO5, hB5, hK5, hN5, b5, hs5⟩
            case measure => simp [intOf] <;> omega
          · have hPn := HN1.out (by omega)
            rw [← hPn] at hP
            go_wp2_with fail
            go_roundw
            case rel => exact ⟨j + 1, by omega, by go_num, by rw [hPn]; rw [hPn] at hP; exact owns_below hP (bdN (Below.refl _ _) _), owns_below hBo (bdN (Below.refl _ _) _), hK.drewN _, hN.drewN _, bdN hb _, hszx⟩
            case measure => simp [intOf] <;> omega
        · have HPe := hid (hend h1)
          have hL' : P = blkTo many k n (q + 1) := by rw [HPe.out, HB.out, HL.out]; rfl
          have hP' : wr.ownsRow (w.heap.size + 2) 3 1 (.slice ao2 P.length cap2) (blkTo many k n (q + 1)).length ((blkTo many k n (q + 1)).map (Value.int .i64)) := by rw [← hL']; exact hP
          have hge : j < 32 → (many : Int) ≤ (P.length : Int) := fun h => by omega
          clear hend hneg hpos h1 hL' hP
          by_cases h32 : j < 32
          · have hd1 : decide (2 * (j : Int) < 64) = true := by simp; omega
            have hnn : ¬ P.length < many := by have := hge h32; omega
            clear hge
            go_wp2_with fail
            go_roundw
            case rel => exact ⟨q + 1, by omega, by go_num, hP', hK, hN, hb, hszx⟩
            case measure => simp [intOf] <;> omega
          · have hd1 : decide (2 * (j : Int) < 64) = false := by simp; omega
            go_wp2_with fail
            go_roundw
            case rel => exact ⟨q + 1, by omega, by go_num, hP', hK, hN, hb, hszx⟩
            case measure => simp [intOf] <;> omega
    · have HA := hid (all_of_full (many := many) (k := k) (n := n) (q := q) (by rw [← HL.out]; omega) (by omega))
      have hRL : RowI .i64 wr ao L := RowV.i hR
      rw [← HL.out] at HA
      go_wp2
      go_ret
      rw [← HA.out]
      refine ⟨_, _, rfl, hRL, hb, fun hno => ?_⟩
      subst hno
      rcases hM.2 with ⟨h, _⟩ | ⟨g, c, cur, h, _⟩
      · simp at h; exact h.2
      · simp at h
end Go.Proofs.Ytbjmadcbhkeenaa.st
namespace Go.Proofs.Ytbjmadcbhkeenaa.shr
open Go.RowKit Go.Proofs.Ytbjmadcbhkeenaa.sh Go.Proofs.Ytbjmadcbhkeenaa.Fld
set_option linter.unusedSimpArgs false
set_option linter.unusedVariables false
set_option pp.maxSteps 6000
/-- the nonce of an octet's polynomial -/
def nonceOf (sign o : Int) : List Int := List.replicate 14 0 ++ [sign, o]
/-- the polynomial of an octet -/
def seedPoly (first : Int) (m : Nat) (seed : List Int) (sign o : Int) : List Int := first :: st.numsOf (m - 1) seed (nonceOf sign o)
theorem nonceOf_length (a b : Int) : (nonceOf a b).length = 16 := by simp [nonceOf]
theorem nonceOf_octs {a b : Int} (ha : 0 ≤ a ∧ a ≤ 255) (hb : 0 ≤ b ∧ b ≤ 255) : st.Octs (nonceOf a b) := by
  intro c hc
  simp only [nonceOf, List.mem_append, List.mem_cons, List.not_mem_nil, or_false] at hc
  rcases hc with h | rfl | rfl
  · rw [List.eq_of_mem_replicate h]; exact ⟨by decide, by decide⟩
  · exact ⟨ha.1, by omega⟩
  · exact ⟨hb.1, by omega⟩
theorem aggNo : Agg Try.prog 74 16 := Agg.arr Try.underlying74 (by kernel_rfl)
def zero16 : List Value := (List.replicate 16 0).map (Value.int .u8)
theorem zeroNo : (Try.prog.info? 74).map (·.zero) = some (some (.agg zero16.toArray)) := by kernel_rfl
set_option maxRecDepth 100000 in
theorem polynomial_any (first : Int) (m : Nat) (seed : List Int) (sign o : Nat) (w : World) (hs : seed.length = 32) (hso : st.Octs seed) (hm1 : 1 ≤ m) (hm : m ≤ 32) (hsg : sign ≤ 255) (ho : o ≤ 255) :
    Calls Try.prog 19 #[.int .i64 first, .int .i64 m, .agg (seed.map (Value.int .u8)).toArray, .int .i64 sign, .int .i64 o] w fun e w' => ∃ ao cap, e = .returned (.slice ao (seedPoly first m seed sign o).length cap) ∧ w'.ownsRow w.heap.size 3 1 (.slice ao (seedPoly first m seed sign o).length cap) (seedPoly first m seed sign o).length ((seedPoly first m seed sign o).map (Value.int .i64)) ∧ Below w.heap.size w w' := by
  obtain ⟨KV, HKV⟩ : ∃ K, Hid (K = seed.map (Value.int .u8)) := ⟨_, rfl⟩
  have HKL : Hid (KV.length = 32) := by show _ = _; rw [HKV.out, List.length_map]; exact hs
  have hK1 : ∀ u ∈ KV, u.oneCell' = true := by rw [HKV.out]; exact ints_one _ _
  rw [← HKV.out]
  obtain ⟨Z, HZ⟩ : ∃ Z, Hid (Z = zero16) := ⟨_, rfl⟩
  have HZ0 := hid zeroNo
  rw [← HZ.out] at HZ0
  have hb0 : Below w.heap.size w (w.alloc (.cells KV.toArray 23)) := (Below.refl _ _).alloc (Nat.le_refl _) _
  have hK0 : BlkV 23 (w.alloc (.cells KV.toArray 23)) w.heap.size KV := BlkV.new _ _ _ rfl
  have hw1 : IntKind.u8.wrap (sign : Int) = sign := IntWalk.u8_in _ (by omega)
  have hw2 : IntKind.u8.wrap (o : Int) = o := IntWalk.u8_in _ (by omega)
  have hw3 : IntKind.i64.wrap ((m : Int) - 1) = ((m - 1 : Nat) : Int) := by rw [IntWalk.i64_in _ (by omega)]; omega
  go_enter Try.func19, Try.ntmps19
  have hnat : (m : Int) - 1 = ((m - 1 : Nat) : Int) := by omega
  obtain ⟨NV, HNV⟩ : ∃ N, Hid (N = (nonceOf sign o).map (Value.int .u8)) := ⟨_, rfl⟩
  have HNL : Hid (NV.length = 16) := by show _ = _; rw [HNV.out, List.length_map, nonceOf_length]
  have HNM := hid (fun w => st.numbersM_o seed (nonceOf sign o) (m - 1) w hs (nonceOf_length _ _) hso (nonceOf_octs ⟨by omega, by omega⟩ ⟨by omega, by omega⟩) (by omega))
  rw [← HKV.out, ← HNV.out] at HNM
  obtain ⟨L, HLL⟩ : ∃ L, Hid (L = st.numsOf (m - 1) seed (nonceOf sign o)) := ⟨_, rfl⟩
  rw [← HLL.out] at HNM
  have hLb : L.length ≤ m - 1 := by rw [HLL.out]; exact st.blkTo_le _ _ _ _
  have hsp : Hid (seedPoly first m seed sign o = first :: L) := by show _ = _; unfold seedPoly; rw [HLL.out]
  rw [hsp.out]
  obtain ⟨NL, HNLL⟩ : ∃ N, Hid (N = 1 + L.length) := ⟨_, rfl⟩
  rw [show (first :: L).length = NL by rw [HNLL.out, List.length_cons]; omega]
  have hN0 : BlkV 74 (((w.alloc (.cells KV.toArray 23)).alloc (.cells NV.toArray 74)).alloc (.cells #[.int .i64 first] 3)) (w.heap.size + 1) NV := (BlkV.new _ _ NV (by simp)).alloc _
  have hK2 : BlkV 23 (((w.alloc (.cells KV.toArray 23)).alloc (.cells NV.toArray 74)).alloc (.cells #[.int .i64 first] 3)) w.heap.size KV := (hK0.alloc _).alloc _
  have hF2 : BlkV 3 (((w.alloc (.cells KV.toArray 23)).alloc (.cells NV.toArray 74)).alloc (.cells #[.int .i64 first] 3)) (w.heap.size + 2) [.int .i64 first] := BlkV.new _ _ [.int .i64 first] (by simp)
  have hb2 : Below w.heap.size w (((w.alloc (.cells KV.toArray 23)).alloc (.cells NV.toArray 74)).alloc (.cells #[.int .i64 first] 3)) := (hb0.alloc (by simp) _).alloc (by simp; omega) _
  have hcl : (((w.alloc (.cells KV.toArray 23)).alloc (.cells NV.toArray 74)).alloc (.cells #[.int .i64 first] 3)) = (((w.alloc (.cells KV.toArray 23)).alloc (.cells ((nonceOf sign o).map (Value.int .u8)).toArray 74)).alloc (.cells #[.int .i64 first] 3)) := by rw [HNV.out]
  generalize hW2 : (((w.alloc (.cells KV.toArray 23)).alloc (.cells NV.toArray 74)).alloc (.cells #[.int .i64 first] 3)) = w2 at *
  have hlt2 := hF2.lt
  have aK := hK2.at0
  have aN := hN0.at0
  rw [hcl] at aK aN
  rw [HNV.out] at aN
  go_wp2_with (first | (refine wl_loadG (by kernel_rfl) 23 _ rfl ⟨w.heap.size, 0, none⟩ rfl 32 KV HKL.out aggKey aK ?_) | (refine wl_loadG (by kernel_rfl) 74 _ rfl ⟨w.heap.size + 1, 0, none⟩ rfl 16 ((nonceOf sign o).map (Value.int .u8)) (by rw [List.length_map, nonceOf_length]) aggNo aN ?_))
  rw [← HNV.out]
  refine (HNM.out _).mono ?_
  rintro e w3 ⟨ax, cx, rfl, hrow, hb3', hno⟩
  have hb3 : Below w2.heap.size w2 w3 := by rw [hcl]; exact hb3'
  have hF3 := hF2.below hb3 hlt2
  have hbw3 := hb2.trans (hb3.mono hb2.size)
  have h3s := hF3.lt
  clear hb3' aK aN hcl
  go_wp2_with (at_builtin; refine wl_appendS rfl _ _ 24 rfl 3 (.int .i64 0) 1 8 Try.underlying24 infoI rfl (by decide) w.heap.size (.slice (some ⟨w.heap.size + 1 + 1, 0, none⟩) 1 1) 1 [.int .i64 first] rfl (Or.inl (ownsRow_blk hF3 (by omega) rfl)) ax L.length cx rfl hno (L.map (Value.int .i64)) (by rw [List.length_map]; omega) hrow.v (ints_one _ _) (by unfold maxLen; omega) (by omega) (by omega) NL HNLL.out ?_; intro ao' cap' w4 row hcap hM hV hg hrw)
  go_ret
  have hM' : w4.ownsRow w.heap.size 3 1 (.slice ao' NL cap') NL ((first :: L).map (Value.int .i64)) := by
    rcases hM with h | ⟨h, _⟩
    · exact h
    · rw [HNLL.out] at h; omega
  exact ⟨ao', cap', rfl, hM', hbw3.grown hg hbw3.size fun k hk => (hrw k hk).1⟩
end Go.Proofs.Ytbjmadcbhkeenaa.shr
namespace Go.Proofs.Ytbjmadcbhkeenaa.shr
set_option linter.unusedVariables false
open Go.RowKit Go.Proofs.Ytbjmadcbhkeenaa.sh Go.Proofs.Ytbjmadcbhkeenaa.Fld
set_option linter.unusedSimpArgs false
set_option pp.maxSteps 6000
/-- what good shares are -/
theorem sharesE_ok {need : Int} {l : List Sh} (h : sharesE false need l = 0) : ∃ m : Nat, need = (m : Int) ∧ 1 ≤ m ∧ m ≤ l.length ∧ l.length ≤ 32 ∧ eachE l = 0 := by
  unfold sharesE at h
  split at h
  · cases h
  · rename_i h1
    split at h
    · cases h
    · rename_i h2
      split at h
      · cases h
      · rename_i h3
        simp only [inB, Bool.not_eq_false, Bool.and_eq_true, decide_eq_true_eq] at h1
        simp only [Bool.not_false, Bool.true_and, decide_eq_true_eq] at h2
        exact ⟨need.toNat, by omega, by omega, by omega, by omega, h⟩
theorem RowS.drop {w : World} {b off : Nat} {l : List Sh} (h : RowS w (some ⟨b, off, none⟩) l) (n : Nat) (hn : n < l.length) : RowS w (some ⟨b, off + n * 49, none⟩) (l.drop n) := by
  obtain ⟨b', off', e, h2, h3⟩ := h.at hn
  obtain ⟨rfl, rfl⟩ : b = b' ∧ off = off' := by simpa using e
  refine Or.inr ⟨b, off + n * 49, rfl, h2, fun i hi => ?_⟩
  rw [List.length_drop] at hi
  have := h3 (n + i) (by omega)
  have e2 : (l.drop n).getD i nil = l.getD (n + i) nil := by simp [List.getD_eq_getElem?_getD]
  rw [e2, show off + n * 49 + i * 49 = off + (n + i) * 49 by omega]
  exact this
def combineK (need : Int) (l : List Sh) : List Int := if sharesE false need l = 0 then secretOf (l.take need.toNat) else List.replicate 32 0
def combineE (need : Int) (l : List Sh) : Int := if sharesE false need l = 0 then secretE (l.take need.toNat) else sharesE false need l
theorem secretOf_length (l : List Sh) : (secretOf l).length = 32 := by
  unfold secretOf
  split
  · simp
  · simp [secretTo]
set_option maxRecDepth 100000 in
theorem Combine_x (need : Int) (ao : Option Addr) (cap : Nat) (l : List Sh) (w : World) (hr : RowS w ao l) (hok : ∀ s ∈ l, s.Ok) (hn : l.length ≤ 9223372036854775807) (hcap : l.length ≤ cap) :
    Calls Try.prog 8 #[.int .i64 need, .slice ao l.length cap] w fun e w' => e = .returned (.tuple #[.agg ((combineK need l).map (Value.int .u8)).toArray, .int .i64 (combineE need l)]) ∧ Below w.heap.size w w' := by
  have HOK := hid hok
  clear hok
  obtain ⟨Z, HZ⟩ : ∃ Z, Hid (Z = zero32) := ⟨_, rfl⟩
  have HZ0 := hid zeroKey
  rw [← HZ.out] at HZ0
  have HZL : Hid (Z.length = 32) := by rw [HZ.out]; rfl
  have HBU : Hid ((Try.prog.built 23 []) = some Z.toArray) := by rw [HZ.out]; exact (by kernel_rfl : (Try.prog.built 23 []) = some zero32.toArray)
  obtain ⟨E, HE⟩ : ∃ E, Hid (E = sharesE false need l) := ⟨_, rfl⟩
  have hA0 : BlkV 23 (w.alloc (.cells Z.toArray 23)) w.heap.size Z := BlkV.new _ _ Z rfl
  have hbA : Below w.heap.size w (w.alloc (.cells Z.toArray 23)) := (Below.refl _ _).alloc (Nat.le_refl _) _
  have hrA := hr.below hbA
  have HC := hid (CheckShares_any need ao cap l _ hrA HOK.out hn)
  rw [← HE.out] at HC
  by_cases h : E = 0
  · obtain ⟨m, rfl, hm1, hml, hl32, hea⟩ := sharesE_ok (by rw [← HE.out]; exact h)
    have h' : (E != 0) = false := by simp [h]
    have hg := good_of l HOK.out hea
    have hgt := hg.take m
    have H := hid h
    have HEA := hid hea
    have hmlI : (m : Int) ≤ (l.length : Int) := by omega
    have hm0 : (0 : Int) ≤ (m : Int) := by omega
    have hmcap : m ≤ cap := by omega
    obtain ⟨KL, HKL⟩ : ∃ K, Hid (K = (secretOf (l.take m)).map (Value.int .u8)) := ⟨_, rfl⟩
    have HKN : Hid (KL.length = 32) := by show _ = _; rw [HKL.out, List.length_map, secretOf_length]
    have hK1 : ∀ u ∈ KL, u.oneCell' = true := by rw [HKL.out]; exact ints_one _ _
    have HR : Hid (combineK m l = secretOf (l.take m) ∧ combineE m l = secretE (l.take m)) := by
      unfold combineK combineE
      rw [← HE.out, if_pos H.out, if_pos H.out, Int.toNat_natCast]
      exact ⟨rfl, rfl⟩
    clear h hea
    go_enter Try.func8, Try.ntmps8
    go_wp2_with (first | (refine wl_alloc rfl 23 rfl Z HZ0.out ?_) | (go_at_call 27; refine HC.out.mono ?_; rintro e w1 ⟨rfl, hb1⟩))
    refine (polynomials_any ao cap m (l.take m) w1 (by rw [List.length_take]; omega) ((hrA.below hb1).take m) (fun s hs => HOK.out s (List.mem_of_mem_take hs)) hgt (by rw [List.length_take]; omega)).mono ?_
    rintro e w2 ⟨ps, rfl, hP, hb2⟩
    go_wp2_with fail
    refine (said_any ps (l.take m) w2 hP hgt (by rw [List.length_take]; omega)).mono ?_
    rw [← HKL.out]
    rintro e w3 ⟨rfl, hb3⟩
    have hltA := hA0.lt
    have hb13 : Below (w.alloc (.cells Z.toArray 23)).heap.size (w.alloc (.cells Z.toArray 23)) w3 := (hb1.trans (hb2.mono hb1.size)).trans (hb3.mono (Nat.le_trans hb1.size hb2.size))
    have hA3 := hA0.below hb13 hltA
    go_wp2_with (first | (refine wl_storeV rfl 23 _ _ rfl 23 w.heap.size rfl KL rfl 32 aggKey HKN.out Z hA3 HZL.out hK1 ?_; intro wS hS hbS hsS))
    (try simp only [Exit.inBlock, Exit.then]); refine bodyPost_ret (results_cell2 rfl _ _ _ _ rfl KL (by rw [HKN.out]; exact aggKey) hS.at0) rfl ?_
    exact ⟨rv (by rw [HR.out.1, HR.out.2, ← HKL.out]; rfl), (hbA.trans (hb13.mono hbA.size)).trans hbS⟩
  · have h' : (E != 0) = true := by simp [h]
    have H := hid h
    have HR : Hid (combineK need l = List.replicate 32 0 ∧ combineE need l = E) := by
      unfold combineK combineE
      rw [← HE.out, if_neg H.out, if_neg H.out]
      exact ⟨rfl, rfl⟩
    clear h
    go_enter Try.func8, Try.ntmps8
    go_wp2_with (first | (refine wl_alloc rfl 23 rfl Z HZ0.out ?_) | (go_at_call 27; refine HC.out.mono ?_; rintro e w1 ⟨rfl, hb1⟩; have hA1 := hA0.below hb1 hA0.lt) | (refine wl_build0 rfl 23 rfl Z HBU.out ?_) | (refine wl_storeV rfl 23 _ _ rfl 23 w.heap.size rfl Z rfl 32 aggKey HZL.out Z hA1 HZL.out (by rw [HZ.out]; exact ints_one _ _) ?_; intro wS hS hbS hsS))
    (try simp only [Exit.inBlock, Exit.then]); refine bodyPost_ret (results_cell2 rfl _ _ _ _ rfl Z (by rw [HZL.out]; exact aggKey) hS.at0) rfl ?_
    exact ⟨rv (by rw [HR.out.1, HR.out.2, HZ.out]; rfl), (hbA.trans (hb1.mono hbA.size)).trans hbS⟩
theorem getD_mem (l : List Sh) (i : Nat) (hi : i < l.length) : l.getD i nil ∈ l := by rw [getD_lt' l nil hi]; exact List.getElem_mem hi
theorem x_of_each {l : List Sh} (h : eachE l = 0) (s : Sh) (hs : s ∈ l) : 0 ≤ s.x ∧ s.x ≤ 256 := by
  obtain ⟨i, hi, rfl⟩ := List.getElem_of_mem hs
  have := (fault_zero (fault_all l h i hi)).1
  rw [getD_lt' l nil hi] at this
  omega
theorem any_not_all (l : List Sh) (p : Sh → Bool) : (!l.any fun s => !p s) = l.all p := by
  induction l with
  | nil => rfl
  | cons a r ih => rw [List.any_cons, List.all_cons, ← ih]; cases p a <;> simp
end Go.Proofs.Ytbjmadcbhkeenaa.shr
