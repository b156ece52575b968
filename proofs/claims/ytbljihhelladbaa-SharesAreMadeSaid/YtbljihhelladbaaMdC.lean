/-
  The law SharesAreMade, walked for right shares. Conditions: shares of the type's form, a holder and a seed of octets.
-/
import Derived.Test.YtbljihhelladbaaMdAB
import Derived.Test.YtbljihhelladbaaHld
namespace Go.Proofs.Ytbljihhelladbaa.shr
set_option linter.unusedVariables false
open Go.RowKit Go.Proofs.Ytbljihhelladbaa.sh Go.Proofs.Ytbljihhelladbaa.Fld
set_option linter.unusedSimpArgs false
set_option pp.maxSteps 6000

theorem onAll_getD (f : Nat → List Int) (l : List Sh) (i : Nat) (hi : i < l.length) : (onAll f l).getD i nil = onSh f (l.getD i nil) := by simp [onAll, List.getD_eq_getElem?_getD, hi]
theorem renAll_getD (f : Nat → List Int) (l : List Sh) (i : Nat) (hi : i < l.length) : (renAll f l).getD i nil = renSh f (l.getD i nil) := by simp [renAll, List.getD_eq_getElem?_getD, hi]
theorem renAll_ok (f : Nat → List Int) {l : List Sh} (hl : ∀ s ∈ l, s.Ok) : ∀ s ∈ renAll f l, s.Ok := by
  intro s hs
  obtain ⟨t, ht, rfl⟩ := List.mem_map.1 hs
  exact renSh_ok f (hl t ht)
theorem onSh_y (f : Nat → List Int) (s : Sh) (o : Nat) (ho : o < 32) : (onSh f s).y.getD o 0 = vals f s o := shTo_y s.h s.x _ o ho
theorem At_mid {w : World} {b off j : Nat} {cs : List Value} {u : Value} (h : At w ⟨b, off, none⟩ cs) (hj : cs[j]? = some u) : w.cell? ⟨b, off + j, none⟩ = some u := by
  have := h j u hj
  rw [show (⟨b, off, none⟩ : Addr).add j = ⟨b, off + j, none⟩ by unfold Addr.add; split <;> simp_all] at this
  exact this
theorem At_part {w : World} {b off j n : Nat} {cs ds : List Value} (h : At w ⟨b, off, none⟩ cs) (hd : (cs.drop j).take n = ds) : At w ⟨b, off + j, none⟩ ds := by
  intro i u hi
  rw [← hd, List.getElem?_take] at hi
  split at hi
  · rw [List.getElem?_drop] at hi
    have := At_mid h hi
    rw [show (⟨b, off + j, none⟩ : Addr).add i = ⟨b, off + j + i, none⟩ by unfold Addr.add; split <;> simp_all, Nat.add_assoc]
    exact this
  · cases hi
theorem Lies_w (ao : Option Addr) (cap n : Nat) (l : List Sh) (s : Sh) (w : World) (hn' : n = l.length) (hr : RowS w ao l) (hok : ∀ s ∈ l, s.Ok) (hg : Good l) (hn : l.length ≤ 64) (hs : s.Ok) (hx : 0 ≤ s.x ∧ s.x ≤ 256) (S : List Value) (b : Bool) (h : Hid (S = s.cs)) (k : Hid (b = liesB l s)) :
    Calls Try.prog 36 #[.slice ao n cap, .agg S.toArray] w fun e w' => e = .returned (.bool b) ∧ Below w.heap.size w w' := by
  rw [h.out, k.out]; exact Lies_any ao cap n l s w hn' hr hok hg hn hs hx
theorem liesB_add (l : List Sh) (h : List Int) (x : Int) : liesB l (shTo h x (fun o => valAt l o x) 32) = true := by
  unfold liesB liesTo
  rw [List.all_eq_true]
  intro o ho
  have ho' : o < 32 := by simpa using ho
  have e := shTo_y h x (fun o => valAt l o x) o ho'
  rw [e]
  show (valAt l o x == valAt l o x) = true
  simp

set_option maxRecDepth 100000 in
set_option maxHeartbeats 8000000 in
theorem made_ok (m : Nat) (ao : Option Addr) (cap : Nat) (l : List Sh) (h : List Int) (x : Int) (seed : List Int) (w : World) (hr : RowS w ao l) (hok : ∀ s ∈ l, s.Ok) (hn : l.length ≤ 9223372036854775807) (hcap : l.length ≤ cap) (hmax : cap ≤ maxLen) (hhl : h.length = 16) (hho : ∀ c ∈ h, 0 ≤ c ∧ c ≤ 255) (hxb : -9223372036854775808 ≤ x ∧ x ≤ 9223372036854775807) (hs : seed.length = 32) (hso : st.Octs seed) (hE : sharesE false m l = 0) :
    Calls Try.prog 8 #[.int .i64 m, .slice ao l.length cap, .agg (h.map (Value.int .u8)).toArray, .int .i64 x, .agg (seed.map (Value.int .u8)).toArray] w fun e w' => e = .returned (.bool true) ∧ Below w.heap.size w w' := by
  obtain ⟨m', hmm, hm1, hml, hl32, hea⟩ := sharesE_ok hE
  obtain rfl : m = m' := by omega
  have HOK := hid hok
  have HEA := hid hea
  have hgt := (good_of l hok hea).take m
  have HY : Hid (∀ s ∈ l, ∀ o, 0 ≤ s.y.getD o 0 ∧ s.y.getD o 0 ≤ 256) := fun s hs o => by
    obtain ⟨i, hi, rfl⟩ := List.getElem_of_mem hs
    have := fault_zero (fault_all l hea i hi)
    rw [getD_lt' l nil hi] at this
    exact rng_y (hok _ (List.getElem_mem hi)) this.2.2 o
  have HZ := hid (fun w hr => Zero_ok m ao cap l seed w hr hok hs hso hE)
  have HR := hid (fun w hr => Renew_ok m ao cap l seed w hr hok hs hso hE)
  have HZO := hid (fun w hr => ZeroOf_any m ao cap l seed w hr hok hl32 (x_of_each hea) hs hso hm1 (by omega))
  have HE0 : Hid ((0 : Int) = sharesE false m l) := hE.symm
  obtain ⟨S, HS⟩ : ∃ Z, Hid (Z = (addS m l h x).cs) := ⟨_, rfl⟩
  obtain ⟨A, HA⟩ : ∃ Z, Hid (Z = addE m l h x) := ⟨_, rfl⟩
  have hSok : (addS m l h x).Ok := by
    unfold addS
    split
    · exact shTo_ok hhl hho hxb (fun o => ⟨(valAt_range _ _ _).1, Int.le_trans (valAt_range _ _ _).2 (by decide)⟩) (by decide)
    · rw [← secTo_zero []]; exact secTo_ok [] (fun c hc => by cases hc) 0 (by omega)
  have HSL : Hid (S.length = 49) := by show _ = _; rw [HS.out]; exact hSok.csl
  have hS1 : ∀ u ∈ S, u.oneCell' = true := by rw [HS.out]; exact cs_one _
  have HAE : Hid (A = if inB x 1 256 = false then 4 else if l.any (hit h x) = true then 8 else 0) := by show _ = _; rw [HA.out]; unfold addE; rw [if_neg (by simp [hE])]
  obtain ⟨HV, HHV⟩ : ∃ K, Hid (K = h.map (Value.int .u8)) := ⟨_, rfl⟩
  have HHL : Hid (HV.length = 16) := by show _ = _; rw [HHV.out, List.length_map]; exact hhl
  obtain ⟨KV, HKV⟩ : ∃ K, Hid (K = seed.map (Value.int .u8)) := ⟨_, rfl⟩
  have HKL : Hid (KV.length = 32) := by show _ = _; rw [HKV.out, List.length_map]; exact hs
  rw [← HKV.out] at HZ HR HZO ⊢
  rw [← HHV.out]
  obtain ⟨f, HF⟩ : ∃ f, Hid (f = polyZ m seed) := ⟨_, rfl⟩
  rw [← HF.out] at HZ HR HZO
  have hb0 : Below w.heap.size w (((w.alloc (.cells HV.toArray 57)).alloc (.cells #[.int .i64 x] 3)).alloc (.cells KV.toArray 23)) := (((Below.refl _ _).alloc (Nat.le_refl _) _).alloc (by simp) _).alloc (by simp; omega) _
  have hH0 : BlkV 57 (((w.alloc (.cells HV.toArray 57)).alloc (.cells #[.int .i64 x] 3)).alloc (.cells KV.toArray 23)) w.heap.size HV := ((BlkV.new _ _ _ rfl).alloc _).alloc _
  have hX0 : BlkV 3 (((w.alloc (.cells HV.toArray 57)).alloc (.cells #[.int .i64 x] 3)).alloc (.cells KV.toArray 23)) (w.heap.size + 1) [.int .i64 x] := (BlkV.new _ _ [.int .i64 x] (by simp)).alloc _
  have hK0 : BlkV 23 (((w.alloc (.cells HV.toArray 57)).alloc (.cells #[.int .i64 x] 3)).alloc (.cells KV.toArray 23)) (w.heap.size + 2) KV := BlkV.new _ _ _ (by simp)
  have cX := hX0.cell 0
  have aH := hH0.at0
  clear hE hea hok hmm
  go_enter Try.func8, Try.ntmps8
  go_wp2_with (first | (refine wl_load rfl 57 _ rfl ⟨w.heap.size, 0, none⟩ rfl HV (by rw [HHL.out]; exact aggID) aH ?_; clear aH) | (go_at_call 53; refine (Add_v (hr.below hb0) HOK.out hn hcap hmax h x hhl hho hxb HV S A HHV HS HA).mono ?_; rintro e w1 ⟨rfl, hb1⟩; obtain ⟨N, HN⟩ : ∃ N, Hid (w1.heap.size = N) := ⟨_, rfl⟩; have hbw1 := hb0.trans (hb1.mono hb0.size); have hK1 := hK0.below hb1 hK0.lt; have hH1 := hH0.below hb1 hH0.lt; have hX1 := hX0.below hb1 hX0.lt; have hKN : w.heap.size + 2 < N := (by rw [← HN.out]; exact hK1.lt); clear hb0 hH0 hX0 hK0 cX hb1) | (refine wl_allocV rfl 61 rfl sh0.cs sh0_zero N HN.out ?_; intro wA hA hbA hsA) | (refine wl_storeV rfl 61 _ _ rfl 61 N rfl S rfl 49 aggS HSL.out sh0.cs hA sh0_len hS1 ?_; intro w2 hT2 hbC hsC; have hbC' := hbA.trans hbC; have hbw2 := hbw1.trans (hbC'.mono (by omega)); have hK2 := hK1.below hbC' (by omega); have hH2 := hH1.below hbC' (by omega); have hX2 := hX1.below hbC' (by omega); have aK2 := hK2.at0; clear hA hbA hbC hsA hK1 hH1 hX1 hbw1 hbC') | (refine wl_load rfl 23 _ rfl ⟨w.heap.size + 2, 0, none⟩ rfl KV (by rw [HKL.out]; exact aggKey) aK2 ?_; clear aK2) | (go_at_call 54; refine (HZ.out _ (hr.below hbw2)).mono ?_; rintro e w3 ⟨gz, cz, rfl, hgz, hcz, hZ3, hb3⟩; have hbw3 := hbw2.trans (hb3.mono hbw2.size); have hK3 := hK2.below hb3 hK2.lt; have hH3 := hH2.below hb3 hH2.lt; have hX3 := hX2.below hb3 hX2.lt; have aK3 := hK3.at0; have hT3 := hT2.below hb3 hT2.lt; clear hK2 hH2 hX2 hT2 hb3 hbw2) | (refine wl_load rfl 23 _ rfl ⟨w.heap.size + 2, 0, none⟩ rfl KV (by rw [HKL.out]; exact aggKey) aK3 ?_; clear aK3) | (go_at_call 55; refine (HR.out _ (hr.below hbw3)).mono ?_; rintro e w4 ⟨gr, cr, rfl, hgr, hcr, hR4, hb4⟩; have hbw4 := hbw3.trans (hb4.mono hbw3.size); have hK4 := hK3.below hb4 hK3.lt; have hH4 := hH3.below hb4 hH3.lt; have hX4 := hX3.below hb4 hX3.lt; have hZ4 := hZ3.below hb4 hZ3.lt; have hT4 := hT3.below hb4 hT3.lt; clear hK3 hH3 hX3 hZ3 hT3 hb4 hbw3) | (go_at_call 30; refine (SharesError_v (hr.below hbw4) HOK.out hn hcap hmax false 0 HE0).mono ?_; rintro e w5 ⟨rfl, hb5⟩; have hbw5 := hbw4.trans (hb5.mono hbw4.size); have hK5 := hK4.below hb5 hK4.lt; have hH5 := hH4.below hb5 hH4.lt; have hX5 := hX4.below hb5 hX4.lt; have hZ5 := hZ4.below hb5 hZ4.lt; have hR5 := hR4.below hb5 hR4.lt; have hT5 := hT4.below hb5 hT4.lt; clear hK4 hH4 hX4 hZ4 hR4 hT4 hb5 hbw4))
  refine (shares_any w5).mono ?_
  rintro e w6 ⟨rfl, hb6⟩
  have hbw6 := hbw5.trans (hb6.mono hbw5.size)
  have hT6 := hT5.below hb6 hT5.lt
  have hK6 := hK5.below hb6 hK5.lt
  have hH6 := hH5.below hb6 hH5.lt
  have hX6 := hX5.below hb6 hX5.lt
  have hZ6 := hZ5.below hb6 hZ5.lt
  have hR6 := hR5.below hb6 hR5.lt
  have aK6 := hK6.at0
  clear hT5 hK5 hH5 hX5 hZ5 hR5 hb6 hbw5
  go_wp2_with (first | (refine wl_load rfl 23 _ rfl ⟨w.heap.size + 2, 0, none⟩ rfl KV (by rw [HKL.out]; exact aggKey) aK6 ?_; clear aK6))
  refine (HZO.out _ (hr.below hbw6)).mono ?_
  rintro e w7 ⟨az, cz2, rfl, hcz2, hO7, hb7⟩
  have hbw7 := hbw6.trans (hb7.mono hbw6.size)
  have hT7 := hT6.below hb7 hT6.lt
  have hH7 := hH6.below hb7 hH6.lt
  have hX7 := hX6.below hb7 hX6.lt
  have hZ7 := hZ6.below hb7 hZ6.lt
  have hR7 := hR6.below hb7 hR6.lt
  clear hT6 hK6 hH6 hX6 hZ6 hR6 hb7 hbw6
  have hZr : RowS w7 (some ⟨gz, 0, none⟩) (onAll f l) := RowS.of_flat hZ7.row (onAll_ok f HOK.out)
  have hdl : decide ((l.length : Int) < (l.length : Int)) = false := by simp
  go_wp2_with (go_at_call 57; refine (equal_shares _ _ _ _ l.length (onAll f l) w7 (onAll_length f l).symm hZr hO7 (onAll_ok f HOK.out) (by rw [onAll_length]; omega)).mono ?_; rintro e w8 ⟨rfl, hb8⟩)
  have hbw8 := hbw7.trans (hb8.mono hbw7.size)
  have hT8 := hT7.below hb8 hT7.lt
  have hH8 := hH7.below hb8 hH7.lt
  have hX8 := hX7.below hb8 hX7.lt
  have hO8 := hO7.below hb8
  have hR8 := hR7.below hb8 hR7.lt
  have hr8 := hr.below hbw8
  have hRr : RowS w8 (some ⟨gr, 0, none⟩) (renAll f l) := RowS.of_flat hR8.row (renAll_ok f HOK.out)
  obtain ⟨B, HB⟩ : ∃ B, Hid (w8.heap.size = B) := ⟨_, rfl⟩
  have hNB : N < B := by rw [← HB.out]; exact hT8.lt
  have hwB : w.heap.size ≤ B := by rw [← HB.out]; exact hbw8.size
  clear hT7 hH7 hX7 hZ7 hR7 hb8 hbw7 hO7 hZr hR8
  go_loopw [110] (fun i wr => ∃ k : Nat, k ≤ l.length ∧ i = .int .i64 k ∧ Below B w8 wr) (fun i _ => l.length - (intOf i).toNat)
  case atStart => exact ⟨0, Nat.zero_le _, rfl, Below.refl _ _⟩
  case round =>
    obtain ⟨k, hk, rfl, hbl⟩ := hrel
    by_cases h0 : k < l.length
    · have hkI : (k : Int) < (l.length : Int) := by omega
      have hkI0 : (0 : Int) ≤ (k : Int) := by omega
      have hkd : decide ((k : Int) < (l.length : Int)) = true := by simp; omega
      rw [← HB.out] at hbl
      obtain ⟨b, off, s, rfl, hb, HSs, hat⟩ := (hr8.below hbl).elem (i := k) h0
      obtain ⟨bz, offz, z, rfl, hbz, HZs, hatz⟩ := (hO8.below hbl).elem (i := k) (by rw [onAll_length]; exact h0)
      obtain ⟨br, offr, r, er, hbr, HRs, hatr⟩ := (hRr.below hbl).elem (i := k) (by unfold renAll; rw [List.length_map]; exact h0)
      obtain ⟨rfl, rfl⟩ : gr = br ∧ 0 = offr := by simpa using er
      have hs : s.Ok := by rw [HSs.out]; exact HOK.out _ (getD_mem l k h0)
      have hz : z = onSh f s := by rw [HZs.out, HSs.out]; exact onAll_getD f l k h0
      have hrr : r = shTo s.h s.x (renV f s) 32 := by rw [HRs.out, HSs.out]; exact renAll_getD f l k h0
      have hzok : z.Ok := by rw [hz]; exact onSh_ok f hs
      have HZV : Hid (∀ o, o < 32 → z.y.getD o 0 = vals f s o) := fun o ho => by rw [hz]; exact onSh_y f s o ho
      have HRS := hid hrr
      obtain ⟨M, HM⟩ : ∃ M, Hid (wr.heap.size = M) := ⟨_, rfl⟩
      have hBM : B ≤ M := by rw [← HB.out, ← HM.out]; exact hbl.size
      have hbM : b < M := by rw [← HM.out]; exact hb
      have hbzM : bz < M := by rw [← HM.out]; exact hbz
      have hgrM : gr < M := by rw [← HM.out]; exact hbr
      obtain ⟨SH, HSH⟩ : ∃ V, Hid (V = s.h.map (Value.int .u8)) := ⟨_, rfl⟩
      have HSHL : Hid (SH.length = 16) := by show _ = _; rw [HSH.out, List.length_map]; exact hs.hl
      have HBT : Hid (Try.prog.built 61 [(0, .agg SH.toArray), (1, .int .i64 s.x)] = some (shTo s.h s.x (renV f s) 0).cs.toArray) := by rw [HSH.out]; exact built_sh hs.hl s.x _
      have hrvb : ∀ o, 0 ≤ renV f s o ∧ renV f s o ≤ 65535 := fun o => by unfold renV; omega
      have HTL := hid ((shTo_ok (V := renV f s) (k := 0) hs.hl hs.hb hs.xb hrvb (by omega)).csl)
      have hT1 := cs_one (shTo s.h s.x (renV f s) 0)
      have aH0 : wr.drew.rangeAt b (off + k * 49) SH := by
        have h : At wr.drew ⟨b, off + k * 49, none⟩ SH := by
          rw [HSH.out, ← cs_h s hs]
          exact At_part (j := 0) hat (by rw [List.drop_zero])
        exact fun j v hv => At_mid h hv
      have hu57 := Try.underlying57
      have hi57 : (Try.prog.info? 57).map (·.size) = some SH.length := by rw [HSHL.out]; exact aggID.2
      have cX0 : wr.drew.cell? ⟨b, off + k * 49 + 16, none⟩ = some (.int .i64 s.x) := At_mid hat (cs_x s hs)
      have hbuild : ∀ w, (Instr.build 61 #[(0, .agg SH.toArray), (1, .int .i64 s.x)]).run Try.prog w = .ok (.agg (shTo s.h s.x (renV f s) 0).cs.toArray) w := fun w => run_build w _ #[(0, .agg SH.toArray), (1, .int .i64 s.x)] _ HBT.out
      clear hz hrr er
      go_wp2_with fail
      refine wp_region_held_drew (S := (fun w' => w'.rangeAt b (off + k * 49) SH ∧ w'.cell? ⟨b, off + k * 49 + 16, none⟩ = some (.int .i64 s.x))) (by kernel_rfl) ⟨aH0, cX0⟩ (fun hHeld => ?_)
      refine take_l (i := 0) (v := ?v0) rfl (by kernel_rfl) (by kernel_rfl) (by kernel_rfl) (fun _ _ _ h => h) (Or.inl ⟨by rfl, ?hy0⟩) (by assumption) ?rest0
      case hy0 => (intro w hSw; (try dsimp only at hSw); go_simp; (try with_reducible rfl))
      try simp only [Act.put, List.setIfInBounds_toArray, List.set_cons_zero, List.set_cons_succ]
      refine take_l (i := 1) (v := ?v1) rfl (by kernel_rfl) (by kernel_rfl) (by kernel_rfl) (fun _ _ _ h => h) (Or.inl ⟨by rfl, ?hy1⟩) (by assumption) ?rest1
      case hy1 => (intro w hSw; (try dsimp only at hSw); go_simp; (try with_reducible rfl))
      try simp only [Act.put, List.setIfInBounds_toArray, List.set_cons_zero, List.set_cons_succ]
      refine take_l (i := 2) (v := ?v2) rfl (by kernel_rfl) (by kernel_rfl) (by kernel_rfl) (fun _ _ _ h => h) (Or.inl ⟨by rfl, ?hy2⟩) (by assumption) ?rest2
      case hy2 => (intro w hSw; (try dsimp only at hSw); go_simp; (try with_reducible rfl))
      try simp only [Act.put, List.setIfInBounds_toArray, List.set_cons_zero, List.set_cons_succ]
      refine take_l (i := 3) (v := ?v3) rfl (by kernel_rfl) (by kernel_rfl) (by kernel_rfl) (fun _ _ _ h => h) (Or.inl ⟨by rfl, ?hy3⟩) (by assumption) ?rest3
      case hy3 => (intro w hSw; (try dsimp only at hSw); go_simp; (try with_reducible rfl))
      try simp only [Act.put, List.setIfInBounds_toArray, List.set_cons_zero, List.set_cons_succ]
      refine take_l (i := 4) (v := _) rfl (by kernel_rfl) (by kernel_rfl) (by kernel_rfl) (fun _ _ _ h => h) (yieldsIf_load_mid (by rfl) 57 _ rfl b (off + k * 49) rfl SH _ (fun w hS => hS.1) hu57 rfl hi57) (by assumption) ?_
      try simp only [Act.put, List.setIfInBounds_toArray, List.set_cons_zero, List.set_cons_succ]
      refine take_l (i := 5) (v := ?v5) rfl (by kernel_rfl) (by kernel_rfl) (by kernel_rfl) (fun _ _ _ h => h) (Or.inl ⟨by rfl, ?hy5⟩) (by assumption) ?rest5
      case hy5 => (intro w hSw; (try dsimp only at hSw); go_simp; (try with_reducible rfl))
      try simp only [Act.put, List.setIfInBounds_toArray, List.set_cons_zero, List.set_cons_succ]
      refine take_l (i := 6) (v := ?v6) rfl (by kernel_rfl) (by kernel_rfl) (by kernel_rfl) (fun _ _ _ h => h) (Or.inl ⟨by rfl, ?hy6⟩) (by assumption) ?rest6
      case hy6 => (intro w hSw; (try dsimp only at hSw); go_simp; (try with_reducible rfl))
      try simp only [Act.put, List.setIfInBounds_toArray, List.set_cons_zero, List.set_cons_succ]
      refine take_l (i := 7) (v := ?v7) rfl (by kernel_rfl) (by kernel_rfl) (by kernel_rfl) (fun _ _ _ h => h) (Or.inl ⟨by rfl, ?hy7⟩) (by assumption) ?rest7
      case hy7 => (intro w hSw; (try dsimp only at hSw); go_simp; (try with_reducible rfl))
      try simp only [Act.put, List.setIfInBounds_toArray, List.set_cons_zero, List.set_cons_succ]
      refine take_l (i := 8) (v := ?v8) rfl (by kernel_rfl) (by kernel_rfl) (by kernel_rfl) (fun _ _ _ h => h) (Or.inl ⟨by rfl, ?hy8⟩) (by assumption) ?rest8
      case hy8 => (intro w hSw; (try dsimp only at hSw); go_simp; (try with_reducible rfl))
      try simp only [Act.put, List.setIfInBounds_toArray, List.set_cons_zero, List.set_cons_succ]
      refine take_l (i := 9) (v := ?v9) rfl (by kernel_rfl) (by kernel_rfl) (by kernel_rfl) (fun _ _ _ h => h) (Or.inl ⟨by rfl, ?hy9⟩) (by assumption) ?rest9
      case hy9 => (intro w hSw; (try dsimp only at hSw); go_simp; (try with_reducible rfl))
      try simp only [Act.put, List.setIfInBounds_toArray, List.set_cons_zero, List.set_cons_succ]
      refine take_l (i := 10) (v := _) rfl (by kernel_rfl) (by kernel_rfl) (by kernel_rfl) (fun _ _ _ h => h) (yieldsIf_build2 (by rfl) 61 0 1 _ _ rfl (.agg SH.toArray) (.int .i64 s.x) rfl rfl (shTo s.h s.x (renV f s) 0).cs HBT.out) (by assumption) ?_
      try simp only [Act.put, List.setIfInBounds_toArray, List.set_cons_zero, List.set_cons_succ]
      refine wpAnyH_ready (rs := [11]) (by kernel_rfl) (by simp) (cons_l rfl (fun K hK => ?_) AllReadyH.nil)
      refine step_allocV (by rfl) 61 (by rfl) sh0.cs sh0_zero M HM.out ?_
      intro wA hA hbA hsA
      have aH1 : wA.rangeAt b (off + k * 49) SH := (fun j v hv => (hbA.cell (p := ⟨b, off + k * 49 + j, none⟩) hbM).trans (aH0 j v hv))
      have cX1 := (hbA.cell (p := ⟨b, off + k * 49 + 16, none⟩) hbM).trans cX0
      refine hK.out _ _ ⟨aH1, cX1⟩ (fun hHeld => ?_)
      clear hK K
      try simp only [Act.put, List.setIfInBounds_toArray, List.set_cons_zero, List.set_cons_succ]
      refine wpAnyH_ready (rs := [12]) (by kernel_rfl) (by simp) (cons_l rfl (fun K hK => ?_) AllReadyH.nil)
      refine step_storeV (by rfl) 61 _ _ (by rfl) 61 M (by rfl) (shTo s.h s.x (renV f s) 0).cs (by rfl) 49 aggS HTL.out sh0.cs hA sh0_len hT1 ?_
      intro wE hE hbE hsE
      have aH2 : wE.rangeAt b (off + k * 49) SH := (fun j v hv => (hbE.cell (p := ⟨b, off + k * 49 + j, none⟩) hbM).trans (aH1 j v hv))
      have cX2 := (hbE.cell (p := ⟨b, off + k * 49 + 16, none⟩) hbM).trans cX1
      refine hK.out _ _ ⟨aH2, cX2⟩ (fun hHeld => ?_)
      clear hK K
      try simp only [Act.put, List.setIfInBounds_toArray, List.set_cons_zero, List.set_cons_succ]
      refine wpAnyH_done (by kernel_rfl) ?_ _
      have hbAE : Below M wr wE := ((Below.refl M wr).drew).trans (hbA.trans hbE)
      have hsM : wE.heap.size = M + 1 := by omega
      have hatE := At.belowB hat hbAE hbM
      have hatzE := At.belowB hatz hbAE hbzM
      have hatrE := At.belowB hatr hbAE hgrM
      have hblE : Below B w8 wE := by rw [HB.out] at hbl; exact hbl.trans (hbAE.mono hBM)
      clear hat hatz hatr hA hbA hsA hbE hsE aH0 aH1 aH2 cX0 cX1 cX2 hHeld hbuild hu57 hi57 hbl hbAE
      go_wp2_with fail
      go_loopw [124] (fun i wx => ∃ j : Nat, j ≤ 32 ∧ i = .int .i64 j ∧ BlkV 61 wx M (shTo s.h s.x (renV f s) j).cs ∧ Below M wE wx) (fun i _ => 32 - (intOf i).toNat)
      case atStart => exact ⟨0, by omega, rfl, hE, Below.refl _ _⟩
      case round =>
        clear hE
        obtain ⟨j, hj, rfl, hT, hbx⟩ := hrel
        by_cases h1 : j < 32
        · have hjI : (j : Int) < 32 := by omega
          have hjI0 : (0 : Int) ≤ (j : Int) := by omega
          obtain ⟨y, Hy⟩ : ∃ y, Hid (y = s.y.getD j 0) := ⟨_, rfl⟩
          obtain ⟨v, Hv⟩ : ∃ v, Hid (v = vals f s j) := ⟨_, rfl⟩
          have hyb : 0 ≤ y ∧ y ≤ 256 := by rw [Hy.out, HSs.out]; exact HY.out _ (getD_mem l k h0) j
          have hvb : 0 ≤ v ∧ v ≤ 256 := by rw [Hv.out]; unfold vals; omega
          have cY := At_mid (At.belowB hatE hbx hbM) (cs_yi s hs j h1)
          have cZ := At_mid (At.belowB hatzE hbx hbzM) (cs_yi z hzok j h1)
          rw [← Hy.out, ← Nat.add_assoc] at cY
          rw [HZV.out j h1, ← Hv.out, ← Nat.add_assoc] at cZ
          have cT := hT.cell (17 + j)
          rw [shTo_get s.x (renV f s) hs.hl hj h1] at cT
          have fT := hT.frozen (17 + j)
          have hw1 : IntKind.i64.wrap y = y := IntWalk.i64_in _ (by omega)
          have hw2 : IntKind.i64.wrap v = v := IntWalk.i64_in _ (by omega)
          have hw3 : IntKind.i64.wrap (y + v) = y + v := IntWalk.i64_in _ (by omega)
          have hwm : (y + v).tmod 257 = (y + v) % 257 := Int.tmod_eq_emod_of_nonneg (by omega)
          have hw4 : IntKind.u16.wrap ((y + v) % 257) = (y + v) % 257 := IntWalk.u16_in _ (by omega)
          have Hrv : Hid (renV f s j = (y + v) % 257) := by show _ = _; unfold renV; rw [Hv.out, Hy.out]
          go_wp2_with fail
          refine wp_region_still_tail 22 (by kernel_rfl) (by kernel_rfl) ?_
          simp only [List.take_succ_cons, List.take_zero, List.drop_succ_cons, List.drop_zero]
          change wpStill _ _ wr.drew (fun a' => wpList _ _ _ _ a' wr.drew) _ _
          repeat still_step
          refine wpStill_nil ?_
          go_wp2
          go_roundw
          case rel => exact ⟨j + 1, by omega, by go_num, by rw [← shTo_set s.x (renV f s) hs.hl h1, Hrv.out]; exact (hT.drew).set (17 + j) _, (hbx.drew).setCell (by simp) _⟩
          case measure => simp [intOf] <;> omega
        · obtain rfl : j = 32 := by omega
          have hrok : (shTo s.h s.x (renV f s) 32).Ok := shTo_ok hs.hl hs.hb hs.xb hrvb (by omega)
          rw [← HRS.out] at hT hrok
          have HRL := hid hrok.csl
          have heq := hid (fun w => run_eq_share w r r hrok hrok)
          rw [eqS_refl] at heq
          have a1 : At wr.drew ⟨gr, k * 49, none⟩ r.cs := by have := At.belowB hatrE hbx hgrM; rwa [Nat.zero_add] at this
          have a2 : At wr.drew ⟨M, 0, none⟩ r.cs := hT.at0
          have hbX : Below B w8 wr := hblE.trans (hbx.mono hBM)
          go_wp2_with fail
          refine wp_region_still_tail 5 (by kernel_rfl) (by kernel_rfl) ?_
          simp only [List.take_succ_cons, List.take_zero, List.drop_succ_cons, List.drop_zero]
          change wpStill _ _ wr.drew (fun a' => wpList _ _ _ _ a' wr.drew) _ _
          iterate 3 still_step
          refine still_load (by kernel_rfl) 61 _ rfl ⟨gr, k * 49, none⟩ rfl 49 r.cs HRL.out aggS a1 ?_
          refine still_load (by kernel_rfl) 61 _ rfl ⟨M, 0, none⟩ rfl 49 r.cs HRL.out aggS a2 ?_
          refine wpStill_nil ?_
          go_wp2_with (refine wl_neqD 155 rfl (by kernel_rfl) 61 _ _ _ rfl r.cs.toArray r.cs.toArray rfl rfl true (heq.out _) (by kernel_rfl) false rfl ?_)
          go_roundw
          case rel => exact ⟨k + 1, by omega, by go_num, hbX.drew⟩
          case measure => simp [intOf] <;> omega
    · obtain rfl : k = l.length := by omega
      have hT := hT8.below hbl (by omega)
      have hH := hH8.below hbl (by have := hH8.lt; omega)
      have hX := hX8.below hbl (by have := hX8.lt; omega)
      have hbw := hbw8.trans (hbl.mono hwB)
      have cX := hX.cell 0
      have hrr := hr.below hbw
      have hmf : ∀ (fn : Fn) (first cap : Array Value) (w : World), (Instr.makeFunc fn first cap).run Try.prog w = .ok (.func fn first cap) w := fun _ _ _ _ => rfl
      have hHh : BlkV 57 wr w.heap.size (h.map (Value.int .u8)) := by rw [← HHV.out]; exact hH
      have HCM := hid (conMade #[.pointer (some ⟨w.heap.size + 1, 0, none⟩), .pointer (some ⟨w.heap.size, 0, none⟩)] (hit h x) ao cap l.length l wr rfl hrr (by omega) HOK.out (fun i hi w' hw' => made1 h x (l.getD i nil) hhl (HOK.out _ (getD_mem l i hi)) _ _ w' ((hw'.cell (p := ⟨w.heap.size + 1, 0, none⟩) hX.lt).trans cX) (hHh.below hw' hH.lt)))
      obtain ⟨c, Hc⟩ : ∃ c, Hid (c = l.any (hit h x)) := ⟨_, rfl⟩
      obtain ⟨d, Hd⟩ : ∃ d, Hid (d = inB x 1 256) := ⟨_, rfl⟩
      rw [← Hc.out] at HCM HAE
      rw [← Hd.out] at HAE
      have HIN : Hid (∀ w, Calls Try.prog 16 #[.int .i64 x, .int .i64 1, .int .i64 256] w fun e w' => e = .returned (.bool d) ∧ w = w') := fun w => by rw [Hd.out]; exact In_any x 1 256 w
      have HW : Hid (firstE2 (whenE (!d) 4) (whenE c 8) = A) := by show _ = _; rw [HAE.out]; cases d <;> cases c <;> rfl
      by_cases hA0 : A = 0
      · have hAE := hid (show addE m l h x = 0 by rw [← HA.out]; exact hA0)
        have hA0' : (A != 0) = false := by simp [hA0]
        have hA0'' : (A == 0) = true := by simp [hA0]
        obtain ⟨t, Ht⟩ : ∃ t, Hid (t = shTo h x (fun o => valAt (l.take m) o x) 32) := ⟨_, rfl⟩
        have hSt : S = t.cs := by rw [HS.out, Ht.out]; unfold addS; rw [if_pos hAE.out, Int.toNat_natCast]
        have hxin : 1 ≤ x ∧ x ≤ 256 := by
          have h2 := HAE.out
          rw [hA0] at h2
          cases hd : d with
          | false => rw [hd] at h2; simp at h2
          | true => have h3 := Hd.out; rw [hd] at h3; simpa [inB] using h3.symm
        have htok : t.Ok := by rw [Ht.out]; exact shTo_ok hhl hho hxb (fun o => ⟨(valAt_range _ _ _).1, Int.le_trans (valAt_range _ _ _).2 (by decide)⟩) (by decide)
        have htx : t.x = x := by rw [Ht.out]; rfl
        have hth : t.h = h := by rw [Ht.out]; rfl
        have HLB : Hid (true = liesB (l.take m) t) := by rw [Ht.out]; exact (liesB_add _ _ _).symm
        have HSt := hid hSt
        have heqH := fun w => run_equalIn_ints (P := Try.prog) w 9998 57 5 16 .u8 Try.underlying57 Try.underlying5 (fun w => by kernel_rfl) h h hhl hhl
        rw [← HHV.out, show (h == h) = true by simp] at heqH
        have HTH : Hid (∀ w, BlkV 61 w N S → At w ⟨N, 0, none⟩ HV) := fun w hB => by rw [hSt] at hB; have := at_h htok hB; rwa [hth, ← HHV.out] at this
        have HTX : Hid (∀ w, BlkV 61 w N S → w.cell? ⟨N, 16, none⟩ = some (.int .i64 x)) := fun w hB => by rw [hB.cell 16, hSt, cs_x t htok, htx]
        have hmlI : (m : Int) ≤ (l.length : Int) := by omega
        have hm0 : (0 : Int) ≤ (m : Int) := by omega
        have hmcap : m ≤ cap := by omega
        obtain ⟨b, off, rfl, _⟩ := hr.at (i := 0) (by omega)
        clear hA0 hSt
        go_wp2_with (first | (go_at_call 16; refine (HIN.out _).mono ?_; rintro e w1 ⟨rfl, rfl⟩) | (go_at_call 21; refine (When_any _ _ _).mono ?_; rintro e w1 ⟨rfl, rfl⟩) | (go_at_call 58; refine HCM.out.mono ?_; rintro e w9 ⟨rfl, hb9⟩; have hT9 := hT.below hb9 hT.lt; have hb10 : Below wr.heap.size wr (w9.alloc (.cells #[.int .i64 (whenE (!d) 4), .int .i64 (whenE c 8)] 27)) := hb9.alloc hb9.size _; have hT10 := hT.below hb10 hT.lt; have hH10 := hH.below hb10 hH.lt; have hX10 := hX.below hb10 hX.lt; have aT := hT10.at0) | (go_at_call 23; refine (First_two _ _ _ _ rfl).mono ?_; rw [HW.out]; rintro e w1 ⟨rfl, rfl⟩))
        generalize HW10 : w9.alloc (.cells #[.int .i64 (whenE (!d) 4), .int .i64 (whenE c 8)] 27) = wF at *
        have aH1 : At wF.drew ⟨N, 0, none⟩ HV := HTH.out wF hT10
        have aH2 : At wF.drew ⟨w.heap.size, 0, none⟩ HV := hH10.at0
        have cX1 := HTX.out wF hT10
        have cX2 := hX10.cell 0
        have aT2 : At wF.drew ⟨N, 0, none⟩ S := aT
        clear aT HW10
        refine wp_region_still_tail 19 (by kernel_rfl) (by kernel_rfl) ?_
        simp only [List.take_succ_cons, List.take_zero, List.drop_succ_cons, List.drop_zero]
        change wpStill _ _ wF.drew (fun a' => wpList _ _ _ _ a' wF.drew) _ _
        iterate 4 still_step
        refine still_load (by kernel_rfl) 57 _ rfl ⟨N, 0, none⟩ rfl 16 HV HHL.out aggID aH1 ?_
        refine still_load (by kernel_rfl) 57 _ rfl ⟨w.heap.size, 0, none⟩ rfl 16 HV HHL.out aggID aH2 ?_
        iterate 12 still_step
        refine still_load (by kernel_rfl) 61 _ rfl ⟨N, 0, none⟩ rfl 49 S HSL.out aggS aT2 ?_
        refine wpStill_nil ?_
        have hbF : Below w.heap.size w wF.drew := (hbw.trans (hb10.mono hbw.size)).drew
        have hrF := (hr.below hbF).take m
        go_wp2_with (first | (go_at_call 36; refine (Lies_w _ cap m (l.take m) t wF.drew (by rw [List.length_take]; omega) hrF (fun s hs => HOK.out s (List.mem_of_mem_take hs)) hgt (by rw [List.length_take]; omega) htok (by omega) S true HSt HLB).mono ?_; rintro e wL ⟨rfl, hbL⟩))
        go_ret
        exact ⟨rfl, hbF.trans (hbL.mono hbF.size)⟩
      · have hA0' : (A != 0) = true := by simp [hA0]
        have hSt : S = sh0.cs := by rw [HS.out]; unfold addS; rw [if_neg (by rw [← HA.out]; exact hA0)]
        have hok0 : sh0.Ok := by rw [← secTo_zero []]; exact secTo_ok [] (fun c hc => by cases hc) 0 (by omega)
        have heq := hid (fun w => by have := run_eq_share w sh0 sh0 hok0 hok0; rwa [eqS_refl, ← hSt] at this)
        have HBU : Hid ((Try.prog.built 61 []) = some S.toArray) := by rw [hSt]; exact builtS
        clear hA0 hSt
        go_wp2_with (first | (go_at_call 16; refine (HIN.out _).mono ?_; rintro e w1 ⟨rfl, rfl⟩) | (go_at_call 21; refine (When_any _ _ _).mono ?_; rintro e w1 ⟨rfl, rfl⟩) | (go_at_call 58; refine HCM.out.mono ?_; rintro e w9 ⟨rfl, hb9⟩; have hT9 := hT.below hb9 hT.lt; have hb10 : Below wr.heap.size wr (w9.alloc (.cells #[.int .i64 (whenE (!d) 4), .int .i64 (whenE c 8)] 27)) := hb9.alloc hb9.size _; have hT10 := hT.below hb10 hT.lt; have hH10 := hH.below hb10 hH.lt; have hX10 := hX.below hb10 hX.lt; have aT := hT10.at0) | (go_at_call 23; refine (First_two _ _ _ _ rfl).mono ?_; rw [HW.out]; rintro e w1 ⟨rfl, rfl⟩) | (refine wl_load rfl 61 _ rfl ⟨N, 0, none⟩ rfl S (by rw [HSL.out]; exact aggS) aT ?_; clear aT) | (refine wl_build0 rfl 61 rfl S HBU.out ?_) | (refine wl_eqD 171 rfl (by kernel_rfl) 61 _ _ _ rfl S.toArray S.toArray rfl rfl true (heq.out _) (by kernel_rfl) ?_))
        go_ret
        exact ⟨rfl, hbw.trans (hb10.mono hbw.size)⟩
end Go.Proofs.Ytbljihhelladbaa.shr
