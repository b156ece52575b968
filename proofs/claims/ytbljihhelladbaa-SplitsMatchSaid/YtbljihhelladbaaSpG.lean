/-
  The law SplitsMatch, walked for right holders. Conditions: holders of 16 octets, a secret and a seed of octets, picks of the type's range.
-/
import Derived.Test.YtbljihhelladbaaSpF
import Derived.Test.YtbljihhelladbaaMdAB
namespace Go.Proofs.Ytbljihhelladbaa.shr
open Go.RowKit Go.Proofs.Ytbljihhelladbaa.sh Go.Proofs.Ytbljihhelladbaa.Fld Go.Proofs.Ytbljihhelladbaa.cm
set_option linter.unusedSimpArgs false
set_option linter.unusedVariables false
set_option pp.maxSteps 6000

theorem ownsRow_cap {w : World} {base n c size : Nat} {e : TypeId} {ao : Option Addr} {xs : List Value} (h : w.ownsRow base e size (.slice ao n c) n xs) : n ≤ c ∧ c ≤ maxLen := by
  rcases h.2 with ⟨h, rfl⟩ | ⟨g, cap, cur, h, _, _, h3, h4, _⟩
  · cases h; exact ⟨Nat.le_refl _, by decide⟩
  · cases h; exact ⟨h3, h4⟩

theorem Combine_w (need : Int) (ao : Option Addr) (cap n : Nat) (l : List Sh) (w : World) (hn' : n = l.length) (hr : RowS w ao l) (hok : ∀ s ∈ l, s.Ok) (hn : n ≤ 9223372036854775807) (hcap : n ≤ cap) (hmax : cap ≤ maxLen) (CK : List Value) (CE : Int) (h : Hid (CK = (combineK need l).map (Value.int .u8))) (k : Hid (CE = combineE need l)) : Calls Try.prog 31 #[.int .i64 need, .slice ao n cap] w fun e w' => e = .returned (.tuple #[.agg CK.toArray, .int .i64 CE]) ∧ Below w.heap.size w w' := by
  subst hn'
  rw [h.out, k.out]; exact Combine_any need ao cap l w hr hok hn hcap hmax
theorem Agree_w (need : Int) (ao : Option Addr) (cap n : Nat) (l : List Sh) (w : World) (hn' : n = l.length) (hr : RowS w ao l) (hok : ∀ s ∈ l, s.Ok) (hn : n ≤ 9223372036854775807) (hcap : n ≤ cap) (hmax : cap ≤ maxLen) (AB : Bool) (E : Int) (h : Hid (AB = agreeR need l)) (k : Hid (E = sharesE false need l)) : Calls Try.prog 32 #[.int .i64 need, .slice ao n cap] w fun e w' => e = .returned (.tuple #[.bool AB, .int .i64 E]) ∧ Below w.heap.size w w' := by
  subst hn'
  rw [h.out, k.out]; exact Agree_any need ao cap l w hr hok hn hcap hmax

set_option maxRecDepth 100000 in
set_option maxHeartbeats 4000000 in
theorem splits_ok (secret : List Int) (m : Nat) (ao : Option Addr) (cap : Nat) (l : List (List Int)) (seed : List Int) (ap : Option Addr) (capp : Nat) (p : List Int) (w : World) (hr : RowH w ao l) (hok : ∀ s ∈ l, IdOk s) (hc : secret.length = 32) (hco : st.Octs secret) (hs : seed.length = 32) (hso : st.Octs seed) (hp : RowI .i64 w ap p) (hpn : p.length ≤ 9223372036854775807) (hpb : ∀ v ∈ p, -9223372036854775808 ≤ v ∧ v ≤ 9223372036854775807) (hE : holdE m l = 0) :
    Calls Try.prog 9 #[.agg (secret.map (Value.int .u8)).toArray, .int .i64 m, .slice ao l.length cap, .agg (seed.map (Value.int .u8)).toArray, .slice ap p.length capp] w fun e w' => e = .returned (.bool true) ∧ Below w.heap.size w w' := by
  have hh : headE (m : Int) l = 0 := by
    unfold holdE at hE
    split at hE
    · assumption
    · exact hE
  have hord : ordTo l l.length = true := by
    unfold holdE at hE
    rw [if_pos hh] at hE
    cases hb : ordTo l l.length with
    | true => rfl
    | false => rw [hb] at hE; exact absurd hE (by decide)
  obtain ⟨m', hmm, hm1, hml, hl32⟩ := headE_zero hh
  obtain rfl : m = m' := by omega
  have HOK := hid hok
  have HPB := hid hpb
  have HE0 : Hid ((0 : Int) = holdE m l) := hE.symm
  have HEE := hid hE
  have HO := hid (fun w hr => SplitOf_any secret seed m ao cap l w hr hok hc hco hs hso hm1 (by omega) hl32)
  obtain ⟨f, HF⟩ : ∃ f, Hid (f = polyS secret m seed) := ⟨_, rfl⟩
  have HLO : Hid (∀ s ∈ onAll f (plcAll l), s.Ok) := onAll_ok f (plcAll_ok hok hl32)
  have HLL : Hid ((onAll f (plcAll l)).length = l.length) := by show _ = _; rw [onAll_length, plcAll_length]
  have HFL : Hid (∀ o, (f o).length ≤ m) := fun o => by rw [HF.out]; exact polyS_len secret hm1 seed o
  have hln : 0 < l.length := by omega
  obtain ⟨SV, HSV⟩ : ∃ K, Hid (K = secret.map (Value.int .u8)) := ⟨_, rfl⟩
  have HSL : Hid (SV.length = 32) := by show _ = _; rw [HSV.out, List.length_map]; exact hc
  obtain ⟨KV, HKV⟩ : ∃ K, Hid (K = seed.map (Value.int .u8)) := ⟨_, rfl⟩
  have HKL : Hid (KV.length = 32) := by show _ = _; rw [HKV.out, List.length_map]; exact hs
  rw [← HSV.out, ← HKV.out, ← HF.out] at HO
  rw [← HSV.out, ← HKV.out]
  have hb0 : Below w.heap.size w ((w.alloc (.cells SV.toArray 23)).alloc (.cells KV.toArray 23)) := ((Below.refl _ _).alloc (Nat.le_refl _) _).alloc (by simp) _
  have hS0 : BlkV 23 ((w.alloc (.cells SV.toArray 23)).alloc (.cells KV.toArray 23)) w.heap.size SV := (BlkV.new _ _ _ rfl).alloc _
  have hK0 : BlkV 23 ((w.alloc (.cells SV.toArray 23)).alloc (.cells KV.toArray 23)) (w.heap.size + 1) KV := BlkV.new _ _ _ (by simp)
  have aS0 := hS0.at0
  have aK0 := hK0.at0
  clear hE hok hpb hmm hh
  go_enter Try.func9, Try.ntmps9
  go_wp2_with (first | (refine wl_load rfl 23 _ rfl ⟨w.heap.size, 0, none⟩ rfl SV (by rw [HSL.out]; exact aggKey) aS0 ?_; clear aS0) | (refine wl_load rfl 23 _ rfl ⟨w.heap.size + 1, 0, none⟩ rfl KV (by rw [HKL.out]; exact aggKey) aK0 ?_; clear aK0) | (go_at_call 60; refine (Split_good secret seed (m : Int) ao cap l _ (hr.below hb0) HOK.out hc hco hs hso m rfl HEE.out SV KV HSV HKV).mono ?_; rintro e w1 ⟨gz, cz, rfl, hgz, hcz, hZ1, hb1⟩; rw [← HF.out] at hZ1; have hbw1 := hb0.trans (hb1.mono hb0.size); have hS1 := hS0.below hb1 hS0.lt; have hK1 := hK0.below hb1 hK0.lt; clear hb0 hb1 hS0 hK0) | (go_at_call 61; refine (HoldersError_v (m : Int) ao cap l _ (hr.below hbw1) HOK.out (by omega) 0 HE0).mono ?_; rintro e w2 ⟨rfl, hb2⟩; have hbw2 := hbw1.trans (hb2.mono hbw1.size); have hS2 := hS1.below hb2 hS1.lt; have hK2 := hK1.below hb2 hK1.lt; have hZ2 := hZ1.below hb2 hZ1.lt; clear hbw1 hb2 hS1 hK1 hZ1))
  refine (shares_any w2).mono ?_
  rintro e w3 ⟨rfl, hb3⟩
  have hbw3 := hbw2.trans (hb3.mono hbw2.size)
  have hS3 := hS2.below hb3 hS2.lt
  have hK3 := hK2.below hb3 hK2.lt
  have hZ3 := hZ2.below hb3 hZ2.lt
  have aS3 := hS3.at0
  have aK3 := hK3.at0
  clear hbw2 hb3 hS2 hK2 hZ2
  go_wp2_with (first | (refine wl_loadG (by kernel_rfl) 23 _ rfl ⟨w.heap.size, 0, none⟩ rfl 32 SV HSL.out aggKey aS3 ?_; clear aS3) | (refine wl_loadG (by kernel_rfl) 23 _ rfl ⟨w.heap.size + 1, 0, none⟩ rfl 32 KV HKL.out aggKey aK3 ?_; clear aK3) | (go_at_call 62; refine (HO.out _ (hr.below hbw3)).mono ?_; rintro e w4 ⟨ax, cx, rfl, hcx, hO4, hb4⟩; have hbw4 := hbw3.trans (hb4.mono hbw3.size); have hS4 := hS3.below hb4 hS3.lt; have hZ4 := hZ3.below hb4 hZ3.lt; clear hbw3 hb4 hS3 hK3 hZ3) | (go_at_call 57; refine (equal_shares _ _ _ _ l.length (onAll f (plcAll l)) w4 HLL.out.symm (RowS.of_flat hZ4.row HLO.out) hO4 HLO.out (by rw [HLL.out]; omega)).mono ?_; rintro e w5 ⟨rfl, hb5⟩; have hbw5 := hbw4.trans (hb5.mono hbw4.size); have hS5 := hS4.below hb5 hS4.lt; have hZ5 := hZ4.below hb5 hZ4.lt; clear hbw4 hb5 hS4 hZ4 hO4))
  have hZr : RowS w5 (some ⟨gz, 0, none⟩) (onAll f (plcAll l)) := RowS.of_flat hZ5.row HLO.out
  have hp5 := hp.below hbw5
  obtain ⟨B, HB⟩ : ∃ B, Hid (w5.heap.size = B) := ⟨_, rfl⟩
  have hgB : gz < B := by rw [← HB.out]; exact hZ5.lt
  have hwB : w.heap.size < B := by rw [← HB.out]; exact hS5.lt
  have HSO := hid (fun i (hi : i < l.length) => onSh_ok f (plc_ok HOK.out hl32 hi))
  clear hZ5
  go_loopw [14, 64] (fun o i wr => ∃ (k : Nat) (I : List Nat) (ay : Option Addr) (cy : Nat), k ≤ p.length ∧ i = .int .i64 k ∧ Hid (I = pickTo l.length p k) ∧ o = .slice ay I.length cy ∧ wr.ownsRow B 61 49 (.slice ay I.length cy) I.length (flatS (I.map (shI f l))) ∧ Below B w5 wr) (fun _ i _ => p.length - (intOf i).toNat)
  case atStart => exact ⟨0, [], none, 0, Nat.zero_le _, rfl, rfl, rfl, World.ownsRow_nil _ _ _ _, Below.refl _ _⟩
  case round =>
    obtain ⟨k, I, ay, cy, hk, rfl, HI, rfl, hO, hbl⟩ := hrel
    have hIlt : Hid (∀ i ∈ I, i < l.length) := by rw [HI.out]; exact pickTo_lt hln p k
    have hInd : Hid I.Nodup := by rw [HI.out]; exact pickTo_nodup _ _ _
    have hIl : I.length ≤ l.length := nodup_le l.length I hInd.out hIlt.out
    have HIO : Hid (∀ s ∈ I.map (shI f l), s.Ok) := fun s hs => by
      obtain ⟨i, hi, rfl⟩ := List.mem_map.1 hs
      exact HSO.out i (hIlt.out i hi)
    obtain ⟨hIc, hIm⟩ := ownsRow_cap hO
    have hbw : Below w.heap.size w wr := hbw5.trans (hbl.mono (by omega))
    obtain ⟨ay', cy', hv, _, hV⟩ := Mine.row (Or.inl hO)
    cases hv
    have hIR : RowS wr ay (I.map (shI f l)) := RowS.of_flat hV HIO.out
    by_cases h0 : k < p.length
    · have hkI : (k : Int) < (p.length : Int) := by omega
      have hkI0 : (0 : Int) ≤ (k : Int) := by omega
      have hbl5 : Below w5.heap.size w5 wr := by rw [HB.out]; exact hbl
      obtain ⟨bp, op, v, rfl, hbp, HV, cV⟩ := (hp5.below hbl5).elem (i := k) h0
      have hvb : -9223372036854775808 ≤ v ∧ v ≤ 9223372036854775807 := by rw [HV.out, getD_lt' p 0 h0]; exact HPB.out _ (List.getElem_mem _)
      obtain ⟨q, HQ⟩ : ∃ q, Hid (q = pickOf l.length v) := ⟨_, rfl⟩
      have hql : q < l.length := by rw [HQ.out]; exact pickOf_lt hln v
      obtain ⟨b, off, s, er, hb, HS, hat⟩ := (hZr.below hbl5).elem (i := q) (by rw [HLL.out]; exact hql)
      obtain ⟨rfl, rfl⟩ : gz = b ∧ 0 = off := by simpa using er
      have hss : s = shI f l q := by rw [HS.out]; exact shI_get f l hql
      have hs : s.Ok := by rw [hss]; exact HSO.out q hql
      have HSS := hid hss
      have HCL := hid hs.csl
      have c1 := cs_one s
      rw [Nat.zero_add] at hat
      obtain ⟨M, HM⟩ : ∃ M, Hid (wr.heap.size = M) := ⟨_, rfl⟩
      have hBM : B ≤ M := by rw [← HM.out]; exact Nat.le_trans (Nat.le_of_eq HB.out.symm) hbl5.size
      have hqI : ((v % 18446744073709551616) % (l.length : Int)) = (q : Int) := by
        rw [HQ.out]; unfold pickOf
        have h2 := Int.emod_nonneg (v % 18446744073709551616) (show (l.length : Int) ≠ 0 by omega)
        omega
      obtain ⟨u, Hu⟩ : ∃ u, Hid (u = v % 18446744073709551616) := ⟨_, rfl⟩
      have hu : IntKind.u64.wrap v = u := by rw [Hu.out]; rfl
      have hub : 0 ≤ u := by rw [Hu.out]; omega
      have hut : u.tmod (l.length : Int) = (q : Int) := by rw [Int.tmod_eq_emod_of_nonneg hub, Hu.out]; exact hqI
      have hqw : IntKind.i64.wrap (q : Int) = (q : Int) := IntWalk.i64_in _ (by omega)
      have hql1 : (q : Int) < (l.length : Int) := by omega
      have hql0 : (0 : Int) ≤ (q : Int) := by omega
      have hlu : IntKind.u64.wrap (l.length : Int) = (l.length : Int) := by show (l.length : Int) % 18446744073709551616 = _; omega
      clear er hss
      obtain ⟨ct, Hct⟩ : ∃ c, Hid (c = I.contains q) := ⟨_, rfl⟩
      have HCT : Hid (ct = (I.map (shI f l)).any (eqS s)) := by show _ = _; rw [HSS.out, any_pick, Hct.out]
      have HPT : Hid (pickTo l.length p (k + 1) = if ct then I else I ++ [q]) := by
        show (if (pickTo l.length p k).contains (pickOf l.length (p.getD k 0)) then pickTo l.length p k else pickTo l.length p k ++ [pickOf l.length (p.getD k 0)]) = _
        rw [← HI.out, ← HV.out, ← HQ.out, Hct.out]
      obtain ⟨SC, HSC⟩ : ∃ c, Hid (c = s.cs) := ⟨_, rfl⟩
      rw [← HSC.out] at HCL c1 hat
      cases ct
      · have HPF : Hid (pickTo l.length p (k + 1) = I ++ [q]) := HPT.out
        go_wp2_with (first | (refine wl_load rfl 61 _ rfl ⟨gz, q * 49, none⟩ rfl SC (by rw [HCL.out]; exact aggS) hat ?_; clear hat) | (refine wl_allocV rfl 61 rfl sh0.cs sh0_zero M HM.out ?_; intro wA hA hbA hsA) | (refine wl_storeV rfl 61 _ _ rfl 61 M rfl SC rfl 49 aggS HCL.out sh0.cs hA sh0_len c1 ?_; intro wC hC hbC hsC; have hbC' := hbA.trans hbC; have aC := hC.at0; have hCR := hIR.below (by rw [HM.out]; exact hbC'); have hCO := ownsRow_below hO M HM.out hbC'; clear hA hbA hbC hsA) | (refine wl_load rfl 61 _ rfl ⟨M, 0, none⟩ rfl SC (by rw [HCL.out]; exact aggS) aC ?_; clear aC) | (go_at_call 63; refine (Contains_sh _ _ I.length (I.map (shI f l)) s wC (by rw [List.length_map]) hCR HIO.out hs (by rw [List.length_map]; omega) SC HSC false HCT).mono ?_; rintro e wD ⟨rfl, hbD⟩; have hDO := ownsRow_belowAll hCO hbD; have aD := (hC.below hbD hC.lt).at0; obtain ⟨G, HG⟩ : ∃ G, Hid (wD.heap.size = G) := ⟨_, rfl⟩; have hbD' := hbC'.trans (hbD.mono (Nat.le_of_lt hC.lt)); have hMG : M ≤ G := (by rw [← HG.out, ← HM.out]; exact hbD'.size)) | (refine wl_load rfl 61 _ rfl ⟨M, 0, none⟩ rfl SC (by rw [HCL.out]; exact aggS) aD ?_; clear aD) | (refine wl_slice1 rfl 47 61 _ rfl Try.underlying47 49 sh0.cs (by kernel_rfl) sh0_len (by decide) (by decide) SC rfl HCL.out G HG.out ?_; intro wG hG hbG hsG; have hOG := ownsRow_below hDO G HG.out hbG; rw [HSC.out] at hG) | (at_builtin; refine wl_appendSh rfl _ _ rfl B (.slice ay I.length cy) I.length (I.map (shI f l)) rfl (Or.inl hOG) (some ⟨G, 0, none⟩) 1 1 rfl (fun h => by cases h) [s] rfl (RowS.of_blk hG) (fun t ht => by rw [List.mem_singleton.1 ht]; exact hs) HIO.out (by omega) (by rw [hsG]; omega) (I.length + 1) rfl ?_; intro aoA capA wE rowA hcapA hMA hVA hgA hrowA))
        have hbE : Below B w5 wE := (hbl.trans ((hbD'.trans (hbG.mono hMG)).mono hBM)).grown hgA (by rw [hsG]; omega) (fun k hk => (hrowA k hk).1)
        go_roundw
        case rel =>
          refine ⟨k + 1, I ++ [q], aoA, capA, by omega, by go_num, HPF.out.symm, by rw [List.length_append]; rfl, ?_, hbE⟩
          have hm := st.own_of_mine hMA (by omega)
          rw [List.length_append, List.map_append, List.map_singleton, ← HSS.out]
          exact hm
        case measure => simp [intOf] <;> omega
      · have HPF : Hid (pickTo l.length p (k + 1) = I) := HPT.out
        go_wp2_with (first | (refine wl_load rfl 61 _ rfl ⟨gz, q * 49, none⟩ rfl SC (by rw [HCL.out]; exact aggS) hat ?_; clear hat) | (refine wl_allocV rfl 61 rfl sh0.cs sh0_zero M HM.out ?_; intro wA hA hbA hsA) | (refine wl_storeV rfl 61 _ _ rfl 61 M rfl SC rfl 49 aggS HCL.out sh0.cs hA sh0_len c1 ?_; intro wC hC hbC hsC; have hbC' := hbA.trans hbC; have aC := hC.at0; have hCR := hIR.below (by rw [HM.out]; exact hbC'); have hCO := ownsRow_below hO M HM.out hbC'; clear hA hbA hbC hsA) | (refine wl_load rfl 61 _ rfl ⟨M, 0, none⟩ rfl SC (by rw [HCL.out]; exact aggS) aC ?_; clear aC) | (go_at_call 63; refine (Contains_sh _ _ I.length (I.map (shI f l)) s wC (by rw [List.length_map]) hCR HIO.out hs (by rw [List.length_map]; omega) SC HSC true HCT).mono ?_; rintro e wD ⟨rfl, hbD⟩; have hDO := ownsRow_belowAll hCO hbD; have hbD' := hbC'.trans (hbD.mono (Nat.le_of_lt hC.lt))))
        go_roundw
        case rel => exact ⟨k + 1, I, ay, cy, by omega, by go_num, HPF.out.symm, rfl, hDO, hbl.trans (hbD'.mono hBM)⟩
        case measure => simp [intOf] <;> omega
    · obtain rfl : k = p.length := by omega
      have hSr := hS5.below hbl hwB
      have hAE : eachE (I.map (shI f l)) = 0 := picks_each f l hl32 hord I hInd.out hIlt.out
      have hAl : (I.map (shI f l)).length = I.length := List.length_map _
      have hgd := good_of _ HIO.out hAE
      obtain ⟨N, HN⟩ : ∃ N, Hid (wr.heap.size = N) := ⟨_, rfl⟩
      have hinm : inB (m : Int) 1 32 = true := by simp [inB]; omega
      by_cases hIm2 : I.length < m
      · have hE18 : sharesE false m (I.map (shI f l)) = 18 := by
          unfold sharesE
          rw [if_neg (by rw [hinm]; decide), if_pos (by rw [hAl]; simp; omega)]
        obtain ⟨ZK, HZK⟩ : ∃ Z, Hid (Z = zeros32.map (Value.int .u8)) := ⟨_, rfl⟩
        have HBU : Hid ((Try.prog.built 23 []) = some ZK.toArray) := by rw [HZK.out]; exact (by kernel_rfl : (Try.prog.built 23 []) = some (zeros32.map (Value.int .u8)).toArray)
        have HZ0 : Hid ((Try.prog.info? 23).map (·.zero) = some (some (.agg ZK.toArray))) := by rw [HZK.out]; exact zeroKey
        have HZL : Hid (ZK.length = 32) := by rw [HZK.out]; rfl
        have hZ1 : ∀ u ∈ ZK, u.oneCell' = true := by rw [HZK.out]; exact ints_one _ _
        have HCK : Hid (ZK = (combineK m (I.map (shI f l))).map (Value.int .u8)) := by show _ = _; unfold combineK; rw [if_neg (by rw [hE18]; decide), HZK.out]; rfl
        have HCE : Hid ((18 : Int) = combineE m (I.map (shI f l))) := by show _ = _; unfold combineE; rw [if_neg (by rw [hE18]; decide), hE18]
        have heq : Hid (∀ w, (Op.equalIn 10000 23 (.agg ZK.toArray) (.agg ZK.toArray)).run Try.prog w = .ok true w) := fun w => by
          have := run_equalIn_ints (P := Try.prog) w 9998 23 5 32 .u8 Try.underlying23 Try.underlying5 (fun w => by kernel_rfl) zeros32 zeros32 rfl rfl
          rw [← HZK.out] at this
          rwa [show (zeros32 == zeros32) = true by simp] at this
        have hIm3 : (I.length : Int) < (m : Int) := by omega
        clear hE18 hAE
        go_wp2_with (first | (go_at_call 31; refine (Combine_w (m : Int) ay cy I.length (I.map (shI f l)) wr hAl.symm hIR HIO.out (by omega) hIc hIm ZK 18 HCK HCE).mono ?_; rintro e w6 ⟨rfl, hb6⟩; obtain ⟨G, HG⟩ : ∃ G, Hid (w6.heap.size = G) := ⟨_, rfl⟩; have hbw6 := hbw.trans (hb6.mono hbw.size)) | (refine wl_allocV rfl 23 rfl ZK HZ0.out G HG.out ?_; intro wA hA hbA hsA) | (refine wl_storeV rfl 23 _ _ rfl 23 G rfl ZK rfl 32 aggKey HZL.out ZK hA HZL.out hZ1 ?_; intro wC hC hbC hsC; have aC := hC.at0; have hbC' := hbA.trans hbC; clear hA hbA hbC hsA) | (refine wl_load rfl 23 _ rfl ⟨G, 0, none⟩ rfl ZK (by rw [HZL.out]; exact aggKey) aC ?_; clear aC) | (refine wl_build0 rfl 23 rfl ZK HBU.out ?_) | (refine wl_eqE 99 rfl (by kernel_rfl) 23 _ _ _ rfl ZK.toArray ZK.toArray rfl rfl true (heq.out _) (by kernel_rfl) ?_))
        go_ret
        exact ⟨rfl, hbw6.trans (hbC'.mono (by rw [← HG.out]; exact hbw6.size))⟩
      · have hIm3 : ¬ (I.length : Int) < (m : Int) := by omega
        have hE0 : sharesE false m (I.map (shI f l)) = 0 := by
          unfold sharesE
          rw [if_neg (by rw [hinm]; decide), if_neg (by rw [hAl]; simp; omega), if_neg (by rw [hAl]; omega), hAE]
        have hgt := hgd.take m
        have hps := by
          have h := hgt
          rw [← List.map_take, HF.out] at h
          exact picks_secret secret seed l m hm1 hc hco (I.take m) (by rw [List.length_take]; omega) h
        rw [← HF.out, List.map_take] at hps
        have HCK : Hid (SV = (combineK m (I.map (shI f l))).map (Value.int .u8)) := by show _ = _; unfold combineK; rw [if_pos hE0, Int.toNat_natCast, hps.2, HSV.out]
        have HCE : Hid ((0 : Int) = combineE m (I.map (shI f l))) := by show _ = _; unfold combineE secretE; rw [if_pos hE0, Int.toNat_natCast, hps.1]; rfl
        have HAB : Hid (true = agreeR m (I.map (shI f l))) := by show _ = _; unfold agreeR; rw [if_pos hE0, Int.toNat_natCast]; exact (picks_agree f l m HFL.out I (by omega) hgt).symm
        have HE00 : Hid ((0 : Int) = sharesE false m (I.map (shI f l))) := hE0.symm
        have hS1 : ∀ u ∈ SV, u.oneCell' = true := by rw [HSV.out]; exact ints_one _ _
        have heq : Hid (∀ w, (Op.equalIn 10000 23 (.agg SV.toArray) (.agg SV.toArray)).run Try.prog w = .ok true w) := fun w => by
          have := run_equalIn_ints (P := Try.prog) w 9998 23 5 32 .u8 Try.underlying23 Try.underlying5 (fun w => by kernel_rfl) secret secret hc hc
          rw [← HSV.out] at this
          rwa [show (secret == secret) = true by simp] at this
        have hZL : zero32.length = 32 := rfl
        clear hE0 hAE hps
        go_wp2_with (first | (go_at_call 31; refine (Combine_w (m : Int) ay cy I.length (I.map (shI f l)) wr hAl.symm hIR HIO.out (by omega) hIc hIm SV 0 HCK HCE).mono ?_; rintro e w6 ⟨rfl, hb6⟩; obtain ⟨G, HG⟩ : ∃ G, Hid (w6.heap.size = G) := ⟨_, rfl⟩; have hbw6 := hbw.trans (hb6.mono hbw.size); have hI6 := hIR.below hb6; have hS6 := hSr.below hb6 hSr.lt) | (refine wl_allocV rfl 23 rfl zero32 zeroKey G HG.out ?_; intro wA hA hbA hsA) | (refine wl_storeV rfl 23 _ _ rfl 23 G rfl SV rfl 32 aggKey HSL.out zero32 hA hZL hS1 ?_; intro wC hC hbC hsC; have hbC' := hbA.trans hbC; have hI7 := hI6.below (by rw [HG.out]; exact hbC'); have hS7 := hS6.below hbC' (by rw [← HG.out]; exact hS6.lt); have hbw7 := hbw6.trans (hbC'.mono (by rw [← HG.out]; exact hbw6.size)); clear hA hbA hbC hsA hS6 hI6) | (go_at_call 32; refine (Agree_w (m : Int) ay cy I.length (I.map (shI f l)) wC hAl.symm hI7 HIO.out (by omega) hIc hIm true 0 HAB HE00).mono ?_; rintro e w8 ⟨rfl, hb8⟩; have aC := (hC.below hb8 hC.lt).at0; have aS := (hS7.below hb8 hS7.lt).at0; have hbw8 := hbw7.trans (hb8.mono hbw7.size)) | (refine wl_loadG (by kernel_rfl) 23 _ rfl ⟨G, 0, none⟩ rfl 32 SV HSL.out aggKey aC ?_; clear aC) | (refine wl_loadG (by kernel_rfl) 23 _ rfl ⟨w.heap.size, 0, none⟩ rfl 32 SV HSL.out aggKey aS ?_; clear aS) | (refine wl_eqE 115 rfl (by kernel_rfl) 23 _ _ _ rfl SV.toArray SV.toArray rfl rfl true (heq.out _) (by kernel_rfl) ?_))
        go_ret
        exact ⟨rfl, hbw8⟩
end Go.Proofs.Ytbljihhelladbaa.shr
