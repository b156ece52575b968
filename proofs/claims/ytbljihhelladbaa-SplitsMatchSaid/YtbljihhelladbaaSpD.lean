/-
  Contracts of keyref2.SplitOf and of slices.Index and Contains at shares. Conditions: holders of 16 octets, a secret and a seed of octets; shares of the type's form.
-/
import Derived.Test.YtbljihhelladbaaSpC
import Derived.Test.YtbljihhelladbaaEqS
namespace Go.Proofs.Ytbljihhelladbaa.shr
open Go.RowKit Go.Proofs.Ytbljihhelladbaa.sh Go.Proofs.Ytbljihhelladbaa.Fld Go.Proofs.Ytbljihhelladbaa.cm
set_option linter.unusedSimpArgs false
set_option linter.unusedVariables false
set_option pp.maxSteps 6000

theorem onAll_plc (f : Nat → List Int) (l : List (List Int)) (k : Nat) (hk : k < l.length) : (onAll f (plcAll l)).take (k + 1) = (onAll f (plcAll l)).take k ++ [onSh f (plc l k)] := by
  have h1 : k < (onAll f (plcAll l)).length := by rw [onAll_length, plcAll_length]; exact hk
  rw [List.take_succ_eq_append_getElem h1]
  congr 2
  simp [onAll, plcAll]

set_option maxRecDepth 100000 in
set_option maxHeartbeats 1000000 in
theorem SplitOf_any (secret seed : List Int) (m : Nat) (ao : Option Addr) (cap : Nat) (l : List (List Int)) (w : World) (hr : RowH w ao l) (hok : ∀ s ∈ l, IdOk s) (hc : secret.length = 32) (hco : st.Octs secret) (hs : seed.length = 32) (hso : st.Octs seed) (hm1 : 1 ≤ m) (hm : m ≤ 32) (hl32 : l.length ≤ 32) :
    Calls Try.prog 62 #[.agg (secret.map (Value.int .u8)).toArray, .int .i64 m, .slice ao l.length cap, .agg (seed.map (Value.int .u8)).toArray] w fun e w' => ∃ ao' cap', e = .returned (.slice ao' l.length cap') ∧ l.length ≤ cap' ∧ RowS w' ao' (onAll (polyS secret m seed) (plcAll l)) ∧ Below w.heap.size w w' := by
  have HOK := hid hok
  clear hok
  obtain ⟨Z, HZ⟩ : ∃ Z, Hid (Z = noSlices) := ⟨_, rfl⟩
  have HZ0 := hid zeroP
  rw [← HZ.out] at HZ0
  have HZL : Hid (Z.length = 32) := by rw [HZ.out]; rfl
  have HP := hid (fun w => polysS secret seed m w hc hco hs hso hm1 hm)
  obtain ⟨SV, HSV⟩ : ∃ K, Hid (K = secret.map (Value.int .u8)) := ⟨_, rfl⟩
  have HSL : Hid (SV.length = 32) := by show _ = _; rw [HSV.out, List.length_map]; exact hc
  obtain ⟨KV, HKV⟩ : ∃ K, Hid (K = seed.map (Value.int .u8)) := ⟨_, rfl⟩
  have HKL : Hid (KV.length = 32) := by show _ = _; rw [HKV.out, List.length_map]; exact hs
  rw [← HSV.out, ← HKV.out] at HP
  rw [← HKV.out, ← HSV.out]
  obtain ⟨f, HF⟩ : ∃ f, Hid (f = polyS secret m seed) := ⟨_, rfl⟩
  rw [← HF.out] at HP ⊢
  have HFr : Hid (∀ o, Rng (f o)) := fun o => by rw [HF.out]; exact polyS_rng hco m seed o
  have HFl : Hid (∀ o, (f o).length ≤ 32) := fun o => by rw [HF.out]; exact Nat.le_trans (polyS_len secret hm1 seed o) hm
  have hb0 : Below w.heap.size w ((w.alloc (.cells SV.toArray 23)).alloc (.cells KV.toArray 23)) := ((Below.refl _ _).alloc (Nat.le_refl _) _).alloc (by simp) _
  have hS0 : BlkV 23 ((w.alloc (.cells SV.toArray 23)).alloc (.cells KV.toArray 23)) w.heap.size SV := (BlkV.new _ _ _ rfl).alloc _
  have hK0 : BlkV 23 ((w.alloc (.cells SV.toArray 23)).alloc (.cells KV.toArray 23)) (w.heap.size + 1) KV := BlkV.new _ _ _ (by simp)
  have aS0 := hS0.at0
  have aK0 := hK0.at0
  have HLO : Hid (∀ s ∈ plcAll l, s.Ok) := plcAll_ok HOK.out hl32
  go_enter Try.func62, Try.ntmps62
  go_wp2_with (first | (refine wl_load rfl 23 _ rfl ⟨w.heap.size, 0, none⟩ rfl SV (by rw [HSL.out]; exact aggKey) aS0 ?_; clear aS0) | (refine wl_load rfl 23 _ rfl ⟨w.heap.size + 1, 0, none⟩ rfl KV (by rw [HKL.out]; exact aggKey) aK0 ?_; clear aK0) | (go_at_call 118; refine (HP.out _).mono ?_; rintro e w1 ⟨ps, rfl, hP, hb1⟩; obtain ⟨N, HN⟩ : ∃ N, Hid (w1.heap.size = N) := ⟨_, rfl⟩; have HPL := hid hP.len) | (refine wl_allocV rfl 139 rfl Z HZ0.out N HN.out ?_; intro wA hA hbA hsA) | (refine wl_storeV rfl 139 _ _ rfl 139 N rfl ps rfl 32 aggP HPL.out Z hA HZL.out hP.one ?_; intro wS hS hbS hsS))
  have hbw1 : Below w1.heap.size w1 wS := by rw [HN.out]; exact hbA.trans hbS
  have hPS := hP.below hbw1
  have hbw : Below w.heap.size w wS := (hb0.trans (hb1.mono hb0.size)).trans (hbw1.mono (Nat.le_trans hb0.size hb1.size))
  have hrS := hr.below hbw
  obtain ⟨B, HB⟩ : ∃ B, Hid (wS.heap.size = B) := ⟨_, rfl⟩
  have hNB : N < B := by rw [← HB.out]; exact hS.lt
  clear hA hbA hsA hbS hsS hb0 hK0 hS0 hb1 hP hbw1
  go_loopw [10, 21] (fun o i wr => ∃ (k : Nat) (ax : Option Addr) (cx : Nat), k ≤ l.length ∧ i = .int .i64 k ∧ o = .slice ax k cx ∧ wr.ownsRow B 61 49 (.slice ax k cx) k (flatS ((onAll f (plcAll l)).take k)) ∧ Below B wS wr) (fun _ i _ => l.length - (intOf i).toNat)
  case atStart => exact ⟨0, none, 0, Nat.zero_le _, rfl, rfl, World.ownsRow_nil _ _ _ _, Below.refl _ _⟩
  case round =>
    obtain ⟨k, ax, cx, hk, rfl, rfl, hO, hbl⟩ := hrel
    by_cases h0 : k < l.length
    · have hkI : (k : Int) < (l.length : Int) := by omega
      have hkI0 : (0 : Int) ≤ (k : Int) := by omega
      have hkd : decide ((k : Int) < (l.length : Int)) = true := by simp; omega
      rw [HB.out.symm] at hbl
      obtain ⟨b, off, rfl, hb, hat0⟩ := (hrS.below hbl).at (by intro e; rw [e] at h0; simp at h0)
      have hat := hat0 k h0
      have hidk : IdOk (l.getD k []) := by rw [getD_lt' l [] h0]; exact HOK.out _ (List.getElem_mem _)
      obtain ⟨HVk, HHV⟩ : ∃ V, Hid (V = (l.getD k []).map (Value.int .u8)) := ⟨_, rfl⟩
      have HHL : Hid (HVk.length = 16) := by show _ = _; rw [HHV.out, List.length_map]; exact hidk.1
      have hH1 : ∀ u ∈ HVk, u.oneCell' = true := by rw [HHV.out]; exact ints_one _ _
      rw [← HHV.out] at hat
      obtain ⟨M, HM⟩ : ∃ M, Hid (wr.heap.size = M) := ⟨_, rfl⟩
      have hBM : B ≤ M := by rw [← HB.out, ← HM.out]; exact hbl.size
      have hwk : IntKind.i64.wrap ((k : Int) + 1) = (k : Int) + 1 := IntWalk.i64_in _ (by omega)
      obtain ⟨s, HS⟩ : ∃ s, Hid (s = plc l k) := ⟨_, rfl⟩
      have hs : s.Ok := by rw [HS.out]; exact plc_ok HOK.out hl32 h0
      have hsx : s.x = (k : Int) + 1 := by rw [HS.out]; rfl
      have hsh : s.h = l.getD k [] := by rw [HS.out]; rfl
      obtain ⟨V, HV⟩ : ∃ V : Nat → Int, Hid (V = fun o => ev (f o) s.x % 257) := ⟨_, rfl⟩
      have HBT : Hid (Try.prog.built 61 [(0, .agg HVk.toArray), (1, .int .i64 ((k : Int) + 1))] = some (shTo s.h s.x V 0).cs.toArray) := by rw [HHV.out, hsh, hsx]; exact built_sh hidk.1 _ _
      have HTL := hid ((shTo_ok (V := V) (k := 0) hs.hl hs.hb hs.xb (fun o => by rw [HV.out]; have := ev_bd (f o) s.x; simp only []; omega) (by omega)).csl)
      have HT1 := hid (cs_one (shTo s.h s.x V 0))
      have HSX := hid hsx
      have HLI : hkI = hkI := rfl
      clear hat0 hsx hsh HLI
      go_wp2_with (first | (refine wl_load rfl 57 _ rfl ⟨b, off + k * 16, none⟩ rfl HVk (by rw [HHL.out]; exact aggID) hat ?_; clear hat) | (refine wl_allocV rfl 57 rfl zero16 zeroID M HM.out ?_; intro wA hA hbA hsA) | (refine wl_storeV rfl 57 _ _ rfl 57 M rfl HVk rfl 16 aggID HHL.out zero16 hA (by decide) hH1 ?_; intro wC hC hbC hsC; have aC := hC.at0; have hbC' := hbA.trans hbC; have hsC' : wC.heap.size = M + 1 := (by omega); clear hA hbA hbC hsA hsC) | (refine wl_load rfl 57 _ rfl ⟨M, 0, none⟩ rfl HVk (by rw [HHL.out]; exact aggID) aC ?_; clear aC) | (refine wl_build2 rfl 61 0 1 _ _ rfl _ _ rfl rfl (shTo s.h s.x V 0).cs HBT.out ?_) | (refine wl_allocV rfl 61 rfl sh0.cs sh0_zero (M + 1) hsC' ?_; intro wD hD hbD hsD; clear hsC') | (refine wl_storeV rfl 61 _ _ rfl 61 (M + 1) rfl (shTo s.h s.x V 0).cs rfl 49 aggS HTL.out sh0.cs hD sh0_len HT1.out ?_; intro wE hE hbE hsE; have hbE' := hbD.trans hbE; have hsE' : wE.heap.size = M + 2 := (by omega); clear hD hbD hbE hsD hsE))
      have hbE2 : Below M wr wE := hbC'.trans (hbE'.mono (by omega))
      have hOE := ownsRow_below hO M HM.out hbE2
      have hOl : ∀ g, (Value.slice ax k cx).ownBlock = some g → g < M := fun g hg => by rw [← HM.out]; exact ownsRow_lt hO g hg
      have hblE : Below B wS wE := by rw [HB.out] at hbl; exact hbl.trans (hbE2.mono hBM)
      clear hC hbC' hbE' hO hbE2 hbl
      go_loopw [30] (fun i wx => ∃ j : Nat, j ≤ 32 ∧ i = .int .i64 j ∧ BlkV 61 wx (M + 1) (shTo s.h s.x V j).cs ∧ Below (M + 1) wE wx) (fun i _ => 32 - (intOf i).toNat)
      case atStart => exact ⟨0, by omega, rfl, hE, Below.refl _ _⟩
      case round =>
        clear hE
        obtain ⟨j, hj, rfl, hT, hbx⟩ := hrel
        by_cases h1 : j < 32
        · have hjI : (j : Int) < 32 := by omega
          have hjI0 : (0 : Int) ≤ (j : Int) := by omega
          obtain ⟨pa, pc, hpk, hrow0⟩ := hPS.at_ j h1
          have hbSx : Below B wS wr := hblE.trans (hbx.mono (by omega))
          have hrow := hid (hrow0.below (by rw [HB.out]; exact hbSx))
          have cP := (hS.below hbSx hNB).cell j
          rw [hpk] at cP
          have cT := hT.cell (17 + j)
          rw [shTo_get s.x V hs.hl hj h1] at cT
          have fT := hT.frozen (17 + j)
          obtain ⟨v, Hv⟩ : ∃ v, Hid (v = V j) := ⟨_, rfl⟩
          have hvv : ev (f j) ((k : Int) + 1) % 257 = v := by rw [Hv.out, HV.out, ← HSX.out]
          have hvb := ev_bd (f j) ((k : Int) + 1)
          rw [hvv] at hvb
          have hvw : IntKind.u16.wrap v = v := IntWalk.u16_in _ (by omega)
          have hcall := hid (fun w hr => ValueOf_n pa pc (f j) ((k : Int) + 1) w rfl hr (HFr.out j) (by omega) (by have := HFl.out j; omega) v hvv)
          clear hvv hpk hrow0
          go_wp2_with (go_at_call 24; refine (hcall.out _ hrow.out).mono ?_; rintro e w1 ⟨rfl, rfl⟩)
          go_roundw
          case rel => exact ⟨j + 1, by omega, by go_num, by rw [← shTo_set s.x V hs.hl h1, ← Hv.out]; exact hT.set (17 + j) _, hbx.setCell (by simp) _⟩
          case measure => simp [intOf] <;> omega
        · obtain rfl : j = 32 := by omega
          have hZ : shTo s.h s.x V 32 = onSh f s := by rw [HV.out]; rfl
          rw [hZ] at hT
          have hzok := onSh_ok f hs
          obtain ⟨z, Hz⟩ : ∃ z, Hid (z = onSh f s) := ⟨_, rfl⟩
          rw [← Hz.out] at hT hzok
          have HZC := hid hzok.csl
          obtain ⟨Q, HQ⟩ : ∃ Q, Hid (wr.heap.size = Q) := ⟨_, rfl⟩
          have hMQ : M + 2 ≤ Q := by rw [← HQ.out, ← hsE']; exact hbx.size
          have hOr := owns_belowB hOE hbx (fun g hg => Nat.lt_succ_of_lt (hOl g hg))
          have hbSr : Below B wS wr := hblE.trans (hbx.mono (by omega))
          have haT := hT.at0
          have HOA := hid (onAll_plc f l k h0)
          rw [← HS.out, ← Hz.out] at HOA
          have hok1 : ∀ t ∈ (onAll f (plcAll l)).take k, t.Ok := fun t ht => onAll_ok f HLO.out t (List.mem_of_mem_take ht)
          go_wp2_with (first | (refine wl_load rfl 61 _ rfl ⟨M + 1, 0, none⟩ rfl z.cs (by rw [HZC.out]; exact aggS) haT ?_; clear haT) | (refine wl_slice1 rfl 47 61 _ rfl Try.underlying47 49 sh0.cs (by kernel_rfl) sh0_len (by decide) (by decide) z.cs rfl HZC.out Q HQ.out ?_; intro wG hG hbG hsG; have hOG := ownsRow_below hOr Q HQ.out hbG) | (at_builtin; refine wl_appendSh rfl _ _ rfl B (.slice ax k cx) k ((onAll f (plcAll l)).take k) rfl (Or.inl hOG) (some ⟨Q, 0, none⟩) 1 1 rfl (fun h => by cases h) [z] rfl (RowS.of_blk hG) (fun t ht => by rw [List.mem_singleton.1 ht]; exact hzok) hok1 (by omega) (by omega) (k + 1) rfl ?_; intro aoA capA wA rowA hcapA hMA hVA hgA hrowA))
          have hbA : Below B wS wA := (hbSr.trans (hbG.mono (by omega))).grown hgA (by omega) (fun k hk => (hrowA k hk).1)
          go_roundw
          case rel =>
            refine ⟨k + 1, aoA, capA, by omega, by go_num, rfl, ?_, hbA⟩
            rw [HOA.out]
            exact st.own_of_mine hMA (by omega)
          case measure => simp [intOf] <;> omega
    · obtain rfl : k = l.length := by omega
      rw [List.take_of_length_le (by rw [onAll_length, plcAll_length]; exact Nat.le_refl _)] at hO
      obtain ⟨ao', cap', hv, hcap, hV⟩ := Mine.row (Or.inl hO)
      cases hv
      go_wp2
      go_ret
      exact ⟨ax, cx, rfl, hcap, RowS.of_flat hV (onAll_ok f HLO.out), hbw.trans (hbl.mono (by rw [← HB.out]; exact hbw.size))⟩

theorem wl_eqE {P : Program} {w : World} {ops : Array Oper} {rest : List Oper} {o : Oper} {a : Act} {Q : Exit → Act → World → Prop} (d : Nat) (hd : o.dst = some d) (hgd : Region.wanted o (yielded ops a.tmps) = true) (ty ty2 : TypeId) (x y : Operand) (ho : o.op = .binOp .eql ty x y ty2)
    (A B : Array Value) (hx : a.eval x = .agg A) (hy : a.eval y = .agg B) (b : Bool) (he : (Op.equalIn 10000 ty (.agg A) (.agg B)).run P w = .ok b w) (hm : P.eqGuardType P.depth ty = false) (h : wpList P ops Q rest (a.put o.dst (.bool b)) w) : wpList P ops Q (o :: rest) a w := by
  refine wpList_step fun K hK' => ?_
  rw [if_pos hgd]
  unfold Oper.wp
  simp [execOp, ho, hx, hy, run_eqGuard_agg, run_eql_struct, hm, he, Result.andThen]
  exact hK' _ _ h

set_option maxRecDepth 100000 in
theorem Contains_sh (ao : Option Addr) (cap n : Nat) (l : List Sh) (s : Sh) (w : World) (hn' : n = l.length) (hr : RowS w ao l) (hok : ∀ s ∈ l, s.Ok) (hs : s.Ok) (hn : l.length ≤ 4611686018427387904) (S : List Value) (HS : Hid (S = s.cs)) (r : Bool) (Hr : Hid (r = l.any (eqS s))) :
    Calls Try.prog 63 #[.slice ao n cap, .agg S.toArray] w fun e w' => e = .returned (.bool r) ∧ Below w.heap.size w w' := by
  subst hn'
  have HOK := hid hok
  have HSL : Hid (S.length = 49) := by show _ = _; rw [HS.out]; exact hs.csl
  have HIX : Hid (∀ w, RowS w ao l → Calls Try.prog 122 #[.slice ao l.length cap, .agg S.toArray] w fun e w' => e = .returned (.int .i64 (slInt.findI (eqS s) l 0)) ∧ Below w.heap.size w w') := fun w hr => by
    have hb0 : Below w.heap.size w (w.alloc (.cells S.toArray 61)) := (Below.refl _ _).alloc (Nat.le_refl _) _
    have hS0 : BlkV 61 (w.alloc (.cells S.toArray 61)) w.heap.size S := BlkV.new _ _ _ rfl
    go_enter Try.func122, Try.ntmps122
    go_wp2
    go_loopw [8] (fun i wr => ∃ k : Nat, k ≤ l.length ∧ i = .int .i64 k ∧ Hid (slInt.findI (eqS s) (l.drop k) k = slInt.findI (eqS s) l 0) ∧ BlkV 61 wr w.heap.size S ∧ Below w.heap.size w wr) (fun i _ => l.length - (intOf i).toNat)
    case atStart => exact ⟨0, Nat.zero_le _, rfl, rfl, hS0, hb0⟩
    case round =>
      clear hS0 hb0
      obtain ⟨k, hk, rfl, HA, hB, hbl⟩ := hrel
      by_cases h0 : k < l.length
      · have hkI : (k : Int) < (l.length : Int) := by omega
        have hkI0 : (0 : Int) ≤ (k : Int) := by omega
        obtain ⟨b, off, t, rfl, hb, HT, hat⟩ := (hr.below hbl).elem (i := k) h0
        have ht : t.Ok := by rw [HT.out]; exact HOK.out _ (getD_mem l k h0)
        have HD := slInt.findI_drop (eqS s) l nil k h0
        rw [← HT.out, HA.out] at HD
        replace HD := hid HD
        have HTL := hid ht.csl
        obtain ⟨c, Hc⟩ : ∃ c, Hid (c = eqS s t) := ⟨_, rfl⟩
        have heq : Hid (∀ w, (Op.equalIn 10000 61 (.agg S.toArray) (.agg t.cs.toArray)).run Try.prog w = .ok c w) := fun w => by rw [HS.out, Hc.out]; exact run_eq_share w s t hs ht
        have a1 : At wr.drew ⟨w.heap.size, 0, none⟩ S := hB.at0
        have a2 : At wr.drew ⟨b, off + k * 49, none⟩ t.cs := hat
        clear hat
        cases c
        · have HN : Hid (eqS s t = false) := Hc.out.symm
          go_wp2_with fail
          refine wp_region_still_tail 5 (by kernel_rfl) (by kernel_rfl) ?_
          simp only [List.take_succ_cons, List.take_zero, List.drop_succ_cons, List.drop_zero]
          change wpStill _ _ wr.drew (fun a' => wpList _ _ _ _ a' wr.drew) _ _
          refine still_load (by kernel_rfl) 61 _ rfl ⟨w.heap.size, 0, none⟩ rfl 49 S HSL.out aggS a1 ?_
          iterate 3 still_step
          refine still_load (by kernel_rfl) 61 _ rfl ⟨b, off + k * 49, none⟩ rfl 49 t.cs HTL.out aggS a2 ?_
          refine wpStill_nil ?_
          go_wp2_with (refine wl_eqE 16 rfl (by kernel_rfl) 61 _ _ _ rfl S.toArray t.cs.toArray rfl rfl false (heq.out _) (by kernel_rfl) ?_)
          go_roundw
          case rel => exact ⟨k + 1, by omega, by go_num, by show _ = _; rw [HD.out, if_neg (by rw [HN.out]; simp)], hB.drew, hbl.drew⟩
          case measure => simp [intOf] <;> omega
        · have HN : Hid (eqS s t = true) := Hc.out.symm
          go_wp2_with fail
          refine wp_region_still_tail 5 (by kernel_rfl) (by kernel_rfl) ?_
          simp only [List.take_succ_cons, List.take_zero, List.drop_succ_cons, List.drop_zero]
          change wpStill _ _ wr.drew (fun a' => wpList _ _ _ _ a' wr.drew) _ _
          refine still_load (by kernel_rfl) 61 _ rfl ⟨w.heap.size, 0, none⟩ rfl 49 S HSL.out aggS a1 ?_
          iterate 3 still_step
          refine still_load (by kernel_rfl) 61 _ rfl ⟨b, off + k * 49, none⟩ rfl 49 t.cs HTL.out aggS a2 ?_
          refine wpStill_nil ?_
          go_wp2_with (refine wl_eqE 16 rfl (by kernel_rfl) 61 _ _ _ rfl S.toArray t.cs.toArray rfl rfl true (heq.out _) (by kernel_rfl) ?_)
          go_ret
          exact ⟨rv (ri (by rw [HD.out, if_pos HN.out])), hbl.drew⟩
      · go_wp2
        go_ret
        exact ⟨rv (ri (by rw [← HA.out, List.drop_eq_nil_of_le (by omega)]; rfl)), hbl⟩
  have HFA := hid (slInt.findI_any (eqS s) l 0)
  obtain ⟨F, HF⟩ : ∃ F, Hid (F = slInt.findI (eqS s) l 0) := ⟨_, rfl⟩
  have hb0 : Below w.heap.size w (w.alloc (.cells S.toArray 61)) := (Below.refl _ _).alloc (Nat.le_refl _) _
  have hS0 : BlkV 61 (w.alloc (.cells S.toArray 61)) w.heap.size S := BlkV.new _ _ _ rfl
  have aS := hS0.at0
  rw [← HF.out] at HIX HFA
  clear hok
  go_enter Try.func63, Try.ntmps63
  go_wp2_with (first | (refine wl_load rfl 61 _ rfl ⟨w.heap.size, 0, none⟩ rfl S (by rw [HSL.out]; exact aggS) aS ?_; clear aS) | (go_at_call 122; refine (HIX.out _ (hr.below hb0)).mono ?_; rintro e w1 ⟨rfl, hb1⟩))
  go_ret
  exact ⟨rv (rb (by rw [Hr.out, ← HFA.out])), hb0.trans (hb1.mono hb0.size)⟩
end Go.Proofs.Ytbljihhelladbaa.shr
