/-
  The law TopShares, walked where the numbers are in their bounds. Conditions: 1 to 7 holders, a need of at most so many; keys of octets.
-/
import Derived.Test.YtbjmadcbhkeenaaSToE
import Derived.Test.YtbjmadcbhkeenaaSHld
import Derived.Deep.CutRange
namespace Go.Proofs.Ytbjmadcbhkeenaa.gs
open Go.RowKit Go.Proofs.Ytbjmadcbhkeenaa.Fld Go.Proofs.Ytbjmadcbhkeenaa.sh Go.Proofs.Ytbjmadcbhkeenaa.shr Go.Proofs.Ytbjmadcbhkeenaa.cm Go.Proofs.Ytbjmadcbhkeenaa.wr
open Go.Proofs.Ytbjmadcbhkeenaa.ck (yieldsIf_sliceH)
set_option linter.unusedSimpArgs false
set_option linter.unusedVariables false
set_option pp.maxSteps 6000
theorem suc8 (k : Nat) (h : (k : Int) < 7) : IntKind.u8.wrap ((k : Int) + 1) = (k : Int) + 1 := by unfold IntKind.wrap; simp [IntKind.signed, IntKind.bits]; omega
theorem yieldsIf_sliceO {P : Program} {ops : Array Oper} {S : World → Prop} {op : Oper} {a : Act} (hw : Region.wanted op (yielded ops a.tmps) = true) (t : TypeId) (x z : Operand) (ho : op.op = .slice t x (some z) none none)
    (b off n c l s N C o' : Nat) (hx : a.eval x = .slice (some ⟨b, off, none⟩) n c) (hi : Int) (hz : a.eval z = .int .i64 hi) (hhi : hi = (l : Int)) (ht : P.underlying t = some (.slice (P.elem t))) (hs : ∀ w, (sizeOf (P.elem t)).run P w = .ok s w) (hl : l ≤ n) (hN : N = n - l) (hC : C = c - l) (hO : o' = if c = l then off else off + l * s) : YieldsIf P ops S op (.slice (some ⟨b, o', none⟩) N C) a :=
  .inl ⟨hw, fun w _ => by
    subst hhi hN hC hO
    have hrun := run_slice_l (P := P) w t (some ⟨b, off, none⟩) n c ht .i64 (l : Int) (by omega) (by omega)
    rw [hs] at hrun
    simp only [Result.andThen_ok, Int.toNat_natCast, sliced] at hrun
    have hao : (if c = l then (some ⟨b, off, none⟩ : Option Addr) else (some ⟨b, off, none⟩ : Option Addr).map (·.add (l * s))) = some ⟨b, if c = l then off else off + l * s, none⟩ := by
      by_cases h : c = l
      · rw [if_pos h, if_pos h]
      · rw [if_neg h, if_neg h, Option.map_some]
        congr 1
        unfold Addr.add; split <;> simp_all
    rw [hao] at hrun
    unfold execOp
    simp only [ho, hx, Option.map_some, Option.map_none, hz, run_sliceAt_slice (P := P) w _ _ _ _ _ ht, hrun, Sem.run_bind, Result.andThen_ok, Sem.run_pure]⟩
theorem elSh : Try.prog.underlying 29 = some (.slice (Try.prog.elem 29)) := by kernel_rfl
theorem szSh (w : World) : (sizeOf (Try.prog.elem 29)).run Try.prog w = .ok 49 w := by kernel_rfl
theorem owns_ne {w : World} {base g size n : Nat} {e t : TypeId} {v : Value} {xs cs : List Value} (h : w.ownsRow base e size v n xs) (hb : BlkV t w g cs) (hne : e ≠ t) : v.ownBlock ≠ some g := by
  rcases h.2 with ⟨h, _⟩ | ⟨g', cap, cur, hv, _, hh, _⟩
  · subst h; intro e; cases e
  · subst hv
    intro e
    obtain rfl := Option.some.inj e
    unfold BlkV at hb
    rw [hh] at hb
    injection hb with hb
    injection hb with _ h2
    exact hne h2
theorem step_appendT {P : Program} {ops : Array Oper} {o : Oper} {a : Act} {w : World} {K : Act → World → Prop} {Q : Exit → Act → World → Prop} {E : Prop} (hgd : o.guard = none) (s x : Operand) (t : TypeId)
    (ho : o.op = .call { callee := .builtin .append, args := #[s, x], argTypes := #[t, t] }) (e : TypeId) (z : Value) (size bytes : Nat) (ht : P.underlying t = some (.slice e)) (hi : Info P e z size bytes) (hzs : z.cells.size = size) (hsz : 0 < size)
    (base : Nat) (v : Value) (n : Nat) (xs : List Value) (hs : a.eval s = v) (hown : Mine w base e size v n xs) (ao : Option Addr) (m c : Nat) (hx : a.eval x = .slice ao m c) (hno : ao = none → c = 0) (news : List Value) (hl : news.length = m * size) (hrow : RowV w ao news) (h1 : ∀ u ∈ news, u.oneCell' = true)
    (b1 : n + m ≤ maxLen) (b2 : (n + m) * bytes ≤ 140737488355328) (hbase : base ≤ w.heap.size) (N : Nat) (hN : N = n + m)
    (hK : ∀ ao' cap' w', N ≤ cap' → RowV w' ao' (xs ++ news) → Below base w w' → w.heap.size ≤ w'.heap.size → (∀ T g cs, BlkV T w g cs → e ≠ T → BlkV T w' g cs) → K (a.put o.dst (.slice ao' N cap')) w') : if Region.wanted o (yielded ops a.tmps) = true then Oper.wp P o a w K Q else E := by
  rcases hown with hown | hno'
  · refine step_appendS hgd s x t ho e z size bytes ht hi hzs hsz base v n xs hs (Or.inl hown) ao m c hx hno news hl hrow h1 b1 b2 hbase N hN fun ao' cap' w' row hc hM hR hg hv => ?_
    refine hK ao' cap' w' hc hR ((Below.refl _ _).grown hg hbase (fun k hk => (hv k hk).1)) hg.size fun T g cs hT hne => hT.grown hg fun hr => ?_
    exact owns_ne hown hT hne (hv g hr).2
  · refine step_appendS hgd s x t ho e z size bytes ht hi hzs hsz w.heap.size v n xs hs (Or.inr hno') ao m c hx hno news hl hrow h1 b1 b2 (Nat.le_refl _) N hN fun ao' cap' w' row hc hM hR hg hv => ?_
    refine hK ao' cap' w' hc hR ((Below.refl _ _).grown hg hbase (fun k hk => Nat.le_trans hbase (hv k hk).1)) hg.size fun T g cs hT hne => hT.grown hg fun hr => ?_
    have := (hv g hr).1
    have := hT.lt
    omega
theorem flatS_app (a b : List Sh) : flatS (a ++ b) = flatS a ++ flatS b := by unfold flatS; rw [List.flatMap_append]
theorem flatS_sing (s : Sh) : flatS [s] = s.cs := by unfold flatS; simp
theorem remU (N : Nat) (v : Int) (h0 : 0 < N) (hN : N ≤ 32) : ∃ (u : Int) (p : Nat), IntKind.u64.wrap v = u ∧ 0 ≤ u ∧ p < N ∧ u.tmod (N : Int) = (p : Int) ∧ IntKind.i64.wrap (p : Int) = (p : Int) := by
  have h1 : 0 ≤ IntKind.u64.wrap v := by unfold IntKind.wrap; simp [IntKind.signed, IntKind.bits]; omega
  refine ⟨IntKind.u64.wrap v, ((IntKind.u64.wrap v) % (N : Int)).toNat, rfl, h1, ?_, ?_, ?_⟩
  · have h2 := Int.emod_nonneg (IntKind.u64.wrap v) (show (N : Int) ≠ 0 by omega)
    have h3 := Int.emod_lt_of_pos (IntKind.u64.wrap v) (show (0 : Int) < N by omega)
    omega
  · rw [Int.tmod_eq_emod_of_nonneg h1]
    have h2 := Int.emod_nonneg (IntKind.u64.wrap v) (show (N : Int) ≠ 0 by omega)
    omega
  · have h2 := Int.emod_nonneg (IntKind.u64.wrap v) (show (N : Int) ≠ 0 by omega)
    have h3 := Int.emod_lt_of_pos (IntKind.u64.wrap v) (show (0 : Int) < N by omega)
    exact IntWalk.i64_in _ (by omega)
theorem u256 (u : Int) (h : 0 ≤ u) : ∃ d : Int, 0 ≤ d ∧ d ≤ 255 ∧ u.tmod 256 = d ∧ IntKind.u16.wrap d = d := ⟨u % 256, by omega, by omega, Int.tmod_eq_emod_of_nonneg h, IntWalk.u16_in _ (by omega)⟩
set_option maxRecDepth 100000 in
set_option maxHeartbeats 4000000 in
theorem top_main (secret other seed again : List Int) (m N : Nat) (af ab : Option Addr) (cf nf cb nb : Nat) (fs ys : List Int) (w : World) (hsl : secret.length = 32) (hso : st.Octs secret) (hol : other.length = 32) (hoo : st.Octs other) (hkl : seed.length = 32) (hko : st.Octs seed) (hal : again.length = 32) (hao : st.Octs again) (hnf : nf = fs.length) (hF : RowI .i64 w af fs) (hnf2 : nf ≤ 9223372036854775807) (hnb : nb = ys.length) (hY : RowI .i64 w ab ys) (hnb2 : nb ≤ 9223372036854775807) (hm : 1 ≤ m) (hmN : m ≤ N) (hN : N ≤ 7) :
    Calls Try.prog 3 #[.agg (secret.map (Value.int .u8)).toArray, .agg (other.map (Value.int .u8)).toArray, .int .i64 m, .int .i64 N, .agg (seed.map (Value.int .u8)).toArray, .agg (again.map (Value.int .u8)).toArray, .slice af nf cf, .slice ab nb cb] w fun e w' => e = .returned (.bool true) ∧ Below w.heap.size w w' := by
  obtain ⟨SV, HSV⟩ : ∃ V, Hid (V = secret.map (Value.int .u8)) := ⟨_, rfl⟩
  have HSL : Hid (SV.length = 32) := hid (by rw [HSV.out, List.length_map]; exact hsl)
  obtain ⟨OV, HOV⟩ : ∃ V, Hid (V = other.map (Value.int .u8)) := ⟨_, rfl⟩
  have HOL : Hid (OV.length = 32) := hid (by rw [HOV.out, List.length_map]; exact hol)
  obtain ⟨KV, HKV⟩ : ∃ V, Hid (V = seed.map (Value.int .u8)) := ⟨_, rfl⟩
  have HKL : Hid (KV.length = 32) := hid (by rw [HKV.out, List.length_map]; exact hkl)
  obtain ⟨AV, HAV⟩ : ∃ V, Hid (V = again.map (Value.int .u8)) := ⟨_, rfl⟩
  have HAL : Hid (AV.length = 32) := hid (by rw [HAV.out, List.length_map]; exact hal)
  obtain ⟨B, HB⟩ : ∃ B, Hid (B = w.heap.size) := ⟨_, rfl⟩
  have hsz : w.heap.size = B := HB.out.symm
  obtain ⟨P, HPP⟩ : ∃ P, Hid (P = polyS secret m seed) := ⟨_, rfl⟩
  have HSAY : Hid (Says P m secret) := hid (by rw [HPP.out]; exact says_S hm hsl hso seed)
  obtain ⟨L, HLL⟩ : ∃ L, Hid (L = shs P N) := ⟨_, rfl⟩
  have HLAY : Hid (Lay N L) := hid (by rw [HLL.out]; exact shs_lay P N)
  have HONP : Hid (OnP P L) := hid (by rw [HLL.out]; exact shs_on P N)
  obtain ⟨R, HRR⟩ : ∃ R, Hid (R = renAll (polyZ m again) L) := ⟨_, rfl⟩
  obtain ⟨AC, HAC⟩ : ∃ V, Hid (V = (addS m L id100 200).cs) := ⟨_, rfl⟩
  have HACok := add_okS HSAY.out HLAY.out (by omega) hm hmN
  have HACl : Hid (AC.length = 49) := hid (by rw [HAC.out]; exact HACok.csl)
  have HAC1 : Hid (∀ u ∈ AC, u.oneCell' = true) := hid (by rw [HAC.out]; exact cs_one _)
  clear HACok
  have CSpl := fun (ao : Option Addr) (cap : Nat) (z : World) hr => hid (Split_N hm hmN hN secret seed ao cap z hr hsl hso hkl hko)
  have CFit := fun (g c : Nat) (z : World) hr hc k hk => hid (Fit_N hm hmN hN g c L HLAY.out other z hr hc hol hoo k hk)
  have CRen := fun (g c : Nat) (z : World) hr => hid (Renew_N hm hmN hN g c L HLAY.out again z hr hal hao)
  have CCr := fun (g c : Nat) (z : World) hr hc => hid (Ren_N hm hmN hN g c L P secret HSAY.out HLAY.out HONP.out again z hr hc)
  have CAdd := fun (g c : Nat) (z : World) hr hc => hid (Add_N hm hmN hN g c L HLAY.out z hr hc)
  have CCom := fun (ao : Option Addr) (c : Nat) (z : World) hr hc => hid (Com_N hm hmN hN ao c L P secret HSAY.out HLAY.out HONP.out z hr hc)
  have CClD := fun (g off c n : Nat) (z : World) hr hn ho => hid (CloneS_drop hm hmN hN g off c n L HLAY.out z hr hn ho)
  have CClN := fun (g c : Nat) (z : World) hr => hid (CloneS_N hm hmN hN g c L HLAY.out z hr)
  have CMen := fun (g c : Nat) (b : List Sh) (ks : List Nat) (z : World) HB hks hr => hid (Mend_N hm hmN hN g c b ks P secret HSAY.out HB hks z hr)
  rw [← HPP.out, ← HLL.out, ← HSV.out, ← HKV.out] at CSpl
  rw [← HOV.out] at CFit
  rw [← HAV.out, ← HRR.out] at CRen
  rw [← HSV.out, ← HRR.out] at CCr
  rw [← HAC.out] at CAdd
  obtain ⟨FD, HFD⟩ : ∃ V, Hid (V = flatS (L.drop 1)) := ⟨_, rfl⟩
  rw [flatS_app, flatS_sing, ← HFD.out, ← HAC.out] at CCom
  rw [← HFD.out] at CClD
  rw [← HSV.out] at CCom CMen
  rw [← HSV.out, ← HOV.out, ← HKV.out, ← HAV.out]
  obtain ⟨IV, HIV⟩ : ∃ V, Hid (V = id100.map (Value.int .u8)) := ⟨_, rfl⟩
  rw [← HIV.out] at CAdd
  have HIb : Hid (Try.prog.built 28 [(0, .int .u8 100)] = some IV.toArray) := hid (by rw [HIV.out]; kernel_rfl)
  obtain ⟨FL, HFL⟩ : ∃ V, Hid (V = flatS L) := ⟨_, rfl⟩
  obtain ⟨FR, HFR⟩ : ∃ V, Hid (V = flatS R) := ⟨_, rfl⟩
  rw [← HFL.out] at CSpl CFit CRen CAdd CClD CClN
  rw [← HFR.out] at CRen CCr
  obtain ⟨Z, HZ⟩ : ∃ Z, Hid (Z = zero32) := ⟨_, rfl⟩
  have HZ0 := hid shr.zeroKey
  rw [← HZ.out] at HZ0
  have hZl : Z.length = 32 := by rw [HZ.out]; rfl
  have HS1 : Hid (∀ u ∈ SV, u.oneCell' = true) := hid (by rw [HSV.out]; exact ints_one _ _)
  have HEQ : Hid (∀ w, (Op.equalIn 10000 23 (.agg SV.toArray) (.agg SV.toArray)).run Try.prog w = .ok true w) := hid (fun w => by
    have := run_equalIn_ints (P := Try.prog) w 9998 23 5 32 .u8 Try.underlying23 Try.underlying5 (fun w => by kernel_rfl) secret secret hsl hsl
    rw [← HSV.out, beq_self_eq_true] at this
    exact this)
  obtain ⟨W0, HW0⟩ : ∃ W0, Hid (W0 = (((w.alloc (.cells SV.toArray 23)).alloc (.cells OV.toArray 23)).alloc (.cells KV.toArray 23)).alloc (.cells AV.toArray 23)) := ⟨_, rfl⟩
  have hS0 : BlkV 23 W0 B SV := by rw [HW0.out]; exact (((BlkV.new _ _ _ hsz.symm).alloc _).alloc _).alloc _
  have hO0 : BlkV 23 W0 (B + 1) OV := by rw [HW0.out]; exact ((BlkV.new _ _ _ (by simp; omega)).alloc _).alloc _
  have hK0 : BlkV 23 W0 (B + 1 + 1) KV := by rw [HW0.out]; exact (BlkV.new _ _ _ (by simp; omega)).alloc _
  have hA0 : BlkV 23 W0 (B + 1 + 1 + 1) AV := by rw [HW0.out]; exact BlkV.new _ _ _ (by simp; omega)
  have bb0 : Below B w W0 := by rw [HW0.out, ← hsz]; exact (((((Below.refl _ _).alloc (Nat.le_refl _) _).alloc (by simp) _).alloc (by simp; omega) _).alloc (by simp; omega) _)
  have hs0 : W0.heap.size = B + 4 := by rw [HW0.out]; simp; omega
  have hn1 : ¬ ((N : Int) < 1) := by omega
  have hn7 : ¬ ((7 : Int) < (N : Int)) := by omega
  have hm1 : ¬ ((m : Int) < 1) := by omega
  have hmn : ¬ ((N : Int) < (m : Int)) := by omega
  have hd1 : decide ((N : Int) < 1) = false := decide_eq_false hn1
  have hd2 : decide ((7 : Int) < (N : Int)) = false := decide_eq_false hn7
  have hd3 : decide ((m : Int) < 1) = false := decide_eq_false hm1
  have hd4 : decide ((N : Int) < (m : Int)) = false := decide_eq_false hmn
  have HFN := hid hnf
  have HYN := hid hnb
  have HM := hid hm
  have HMN := hid hmN
  have HN7 := hid hN
  clear hnf hnb hsl hso hol hoo hkl hko hal hao hm hmN hN
  go_enter Try.func3, Try.ntmps3
  go_wp2_with (go_at_call 4; refine (landed_any _).mono ?_; rintro e w1 ⟨rfl, hb1⟩; rw [← HW0.out] at hb1)
  have hS1 := hS0.below hb1 hS0.lt
  have hO1 := hO0.below hb1 hO0.lt
  have hK1 := hK0.below hb1 hK0.lt
  have hA1 := hA0.below hb1 hA0.lt
  have bb1 : Below B w w1 := bb0.trans (hb1.mono (by omega))
  obtain ⟨B1, HB1⟩ : ∃ B1, Hid (B1 = w1.heap.size) := ⟨_, rfl⟩
  have hB1 : B + 4 ≤ B1 := by rw [HB1.out]; have := hb1.size; omega
  clear hS0 hO0 hK0 hA0 bb0 hb1 HW0 hs0
  go_loopw [17, 55] (fun o i wr => ∃ (k : Nat) (ao : Option Addr) (cy : Nat), k ≤ N ∧ i = .int .i64 k ∧ o = .slice ao k cy ∧ wr.ownsRow B1 28 16 (.slice ao k cy) k (flatN (List.range k)) ∧ Below B1 w1 wr) (fun _ i _ => N - (intOf i).toNat)
  case atStart => exact ⟨0, none, 0, Nat.zero_le _, rfl, rfl, World.ownsRow_nil _ _ _ _, Below.refl _ _⟩
  case round =>
    obtain ⟨k, ao, cy, hk, rfl, rfl, hO, hbl⟩ := hrel
    have hNr : B1 ≤ wr.heap.size := by rw [HB1.out]; exact hbl.size
    by_cases h0 : k < N
    · have hkI : (k : Int) < (N : Int) := by omega
      have hk7 : (k : Int) < 7 := by have := HN7.out; omega
      have hw2 := suc8 k hk7
      obtain ⟨CI, HCI⟩ : ∃ V, Hid (V = (idN k).map (Value.int .u8)) := ⟨_, rfl⟩
      have hCl : CI.length = 16 := by rw [HCI.out, List.length_map]; exact idN_length k
      have hC1 : ∀ u ∈ CI, u.oneCell' = true := by rw [HCI.out]; exact ints_one _ _
      have HBI : Hid (Try.prog.built 28 [(0, .int .u8 ((k : Int) + 1))] = some CI.toArray) := hid (by rw [HCI.out]; kernel_rfl)
      have HSN := hid (flatN_snoc (List.range k) k)
      rw [← List.range_succ, ← HCI.out] at HSN
      have HN8 := HN7.out
      go_wp2_with (first | (at_builtin; refine wl_push rfl _ _ 26 rfl 28 (.agg idZ.toArray) 16 16 Try.underlying26 infoI (by simp [idZ, Value.cells]) (by decide) B1 _ k _ rfl (owns_up hO (hbL.mono (Nat.le_refl _))) ⟨wr.heap.size, 0, none⟩ 1 1 rfl CI (by rw [hCl]) hL.at0 hC1 (by unfold maxLen; omega) (by omega) (by omega) (k + 1) rfl ?_; intro ao' cap' w3 hc3 hO3 hg3 hv3) | (refine wl_slice1 rfl 26 28 _ rfl Try.underlying26 16 idZ (by kernel_rfl) rfl (by decide) (by decide) CI rfl hCl wr.heap.size rfl ?_; intro w2 hL hbL hsL) | (refine wl_build1 rfl 28 0 _ rfl (.int .u8 ((k : Int) + 1)) rfl CI HBI.out ?_))
      rw [← HSN.out] at hO3
      have hb3 := (hbl.trans (hbL.mono hNr)).grown hg3 (by have := hbl.size; rw [← HB1.out] at this; omega) (fun j e => (hO.lt j e).1)
      go_roundw
      case rel => exact ⟨_, _, _, ⟨k + 1, by omega, by go_num, ao', cap', rfl, hO3, hb3⟩, rfl, rfl, rfl⟩
      case measure => simp [intOf] <;> omega
    · obtain rfl : k = N := by omega
      obtain ⟨gh, ch, hv, hgh, hch, hHr⟩ := RowB.of_owns hO (by have := HM.out; have := HMN.out; omega)
      cases hv
      have bbr : Below B w wr := bb1.trans (hbl.mono (by omega))
      have hSr := hS1.below hbl (by omega)
      have hOr := hO1.below hbl (by omega)
      have hKr := hK1.below hbl (by omega)
      have hAr := hA1.below hbl (by omega)
      clear hbl bb1 hS1 hO1 hK1 hA1 hO
      have aS := hSr.at0
      have aK := hKr.at0
      have hne : ¬ ((k : Int) ≠ (k : Int)) := fun h => h rfl
      go_wp2_with (first | (refine wl_load rfl 23 _ rfl ⟨B, 0, none⟩ rfl SV (by rw [HSL.out]; exact aggKey) aS ?_; clear aS) | (refine wl_load rfl 23 _ rfl ⟨B + 1 + 1, 0, none⟩ rfl KV (by rw [HKL.out]; exact aggKey) aK ?_; clear aK) | (go_at_call 5; refine (CSpl _ _ _ hHr.row).out.mono ?_; rintro e w4 ⟨gz, cz, rfl, hgz, hcz, hZ4, hb4⟩))
      have bb4 : Below B w w4 := bbr.trans (hb4.mono (by have := bbr.size; omega))
      have hS4 := hSr.below hb4 hSr.lt
      have hO4 := hOr.below hb4 hOr.lt
      have hA4 := hAr.below hb4 hAr.lt
      have hH4 := hHr.below hb4 hHr.lt
      clear hb4 hSr hOr hKr hAr hHr bbr
      obtain ⟨j, Hj⟩ : ∃ j : Nat, Hid (j = m - 1) := ⟨_, rfl⟩
      have hsub : IntKind.i64.wrap ((m : Int) - 1) = (j : Int) := by
        have h1 := HM.out; have h2 := HMN.out; have h3 := HN7.out
        rw [Hj.out, IntWalk.i64_in _ (by omega)]; omega
      have hjc : j ≤ cz := by rw [Hj.out]; have h2 := HMN.out; omega
      have huK := Try.underlying23
      have hiO : (Try.prog.info? 23).map (·.size) = some OV.length := by rw [HOL.out]; exact aggKey.2
      refine wp_region_held_drew (S := (fun w' => BlkV 23 w' (B + 1) OV)) (by kernel_rfl) hO4.drew (fun hHeld => ?_)
      refine tkP 0 rfl (by assumption) ⟨?_, ?_, ?_⟩
      rotate_left
      · intro w hSw; (try dsimp only at hSw); go_simp; (try with_reducible rfl)
      try simp only [Act.put, sArr, sZ, sS]
      refine tkP 1 rfl (by assumption) ⟨?_, ?_, ?_⟩
      rotate_left
      · intro w hSw; (try dsimp only at hSw); go_simp; (try with_reducible rfl)
      try simp only [Act.put, sArr, sZ, sS]
      refine tkP 2 rfl (by assumption) ⟨?_, ?_, ?_⟩
      rotate_left
      · intro w hSw; (try dsimp only at hSw); go_simp; (try with_reducible rfl)
      try simp only [Act.put, sArr, sZ, sS]
      refine tkP 3 rfl (by assumption) ⟨?_, ?_, ?_⟩
      rotate_left
      · intro w hSw; (try dsimp only at hSw); go_simp; (try with_reducible rfl)
      try simp only [Act.put, sArr, sZ, sS]
      refine tkR 4 rfl (yieldsIf_sliceH (by rfl) 29 _ _ rfl (some ⟨gz, 0, none⟩) k cz j 49 rfl (j : Int) rfl rfl elSh szSh hjc) (by assumption) ?_
      try simp only [Act.put, sArr, sZ, sS]
      refine tkR 5 rfl (yieldsIf_load_mid (by rfl) 23 _ rfl (B + 1) 0 rfl OV _ (fun w hS => at_range hS.at0) huK rfl hiO) (by assumption) ?_
      try simp only [Act.put, sArr, sZ, sS]
      refine wpAnyH_ready (rs := [6]) (by kernel_rfl) (by simp) (cons_l rfl (fun K' hK' => ?_) AllReadyH.nil)
      rw [if_pos (by rfl)]
      go_simp
      go_at_call 6
      refine (CFit gz cz _ hZ4.drew.row hcz j Hj.out).out.mono ?_
      rintro e w5 ⟨rfl, hb5⟩
      have hO5 := hO4.drew.below hb5 hO4.lt
      have hS5 := hS4.drew.below hb5 hS4.lt
      have hA5 := hA4.drew.below hb5 hA4.lt
      have hH5 := hH4.drew.below hb5 hH4.lt
      have hZ5 := hZ4.drew.below hb5 hZ4.lt
      have bb5 : Below B w w5 := bb4.drew.trans (hb5.mono (by have := bb4.size; show B ≤ w4.heap.size; omega))
      refine hK'.out _ _ hO5 (fun hHeld => ?_)
      clear hO4 hS4 hA4 hH4 hZ4 bb4 hb5
      clear hK' K'
      try simp only [Act.put, sArr, sZ, sS]
      refine tkP 7 rfl (by assumption) ⟨?_, ?_, ?_⟩
      rotate_left
      · intro w hSw; (try dsimp only at hSw); go_simp; (try with_reducible rfl)
      try simp only [Act.put, sArr, sZ, sS]
      refine tkP 8 rfl (by assumption) ⟨?_, ?_, ?_⟩
      rotate_left
      · intro w hSw; (try dsimp only at hSw); go_simp; (try with_reducible rfl)
      try simp only [Act.put, sArr, sZ, sS]
      refine tkP 9 rfl (by assumption) ⟨?_, ?_, ?_⟩
      rotate_left
      · intro w hSw; (try dsimp only at hSw); go_simp; (try with_reducible rfl)
      try simp only [Act.put, sArr, sZ, sS]
      refine tkP 10 rfl (by assumption) ⟨?_, ?_, ?_⟩
      rotate_left
      · intro w hSw; (try dsimp only at hSw); go_simp; (try with_reducible rfl)
      try simp only [Act.put, sArr, sZ, sS]
      refine tkP 11 rfl (by assumption) ⟨?_, ?_, ?_⟩
      rotate_left
      · intro w hSw; (try dsimp only at hSw); go_simp; (try with_reducible rfl)
      try simp only [Act.put, sArr, sZ, sS]
      refine wpAnyH_done (by kernel_rfl) ?_ _
      clear hHeld hsub hO5 huK hiO hjc
      have aA5 := hA5.at0
      go_wp2_with (first | (refine wl_storeV rfl 41 _ _ rfl 41 wa.heap.size rfl AC rfl 49 aggS HACl.out sh0.cs hXb sh0_len HAC1.out ?_; intro wc hXc hbc hsc; have hSc := hSb.below hbc hlb; have hHc := hHb.below hbc hlb'; have hZc := hZb.below hbc hlbz; have bbc : Below B w wc := bbb.trans (hbc.mono hzb); clear hbc hSb hHb hZb bbb hXb hlb hlb' hlbz hzb) | (refine wl_allocV rfl 41 rfl sh0.cs sh0_zero wa.heap.size rfl ?_; intro wb hXb hbb hsb; have hSb := hSa.below hbb hSa.lt; have hHb := hHa.below hbb hHa.lt; have hZb := hZa.below hbb hZa.lt; have bbb : Below B w wb := bba.trans (hbb.mono (by have := bba.size; omega)); have hlb := hSa.lt; have hlb' := hHa.lt; have hlbz := hZa.lt; have hzb : B ≤ wa.heap.size := (by have := bba.size; omega); clear hbb hSa hHa hZa bba) | (go_at_call 9; refine (CAdd _ _ _ hZ9.row hcz).out.mono ?_; rintro e wa ⟨rfl, hba⟩; have hSa := hS9.below hba hS9.lt; have hHa := hH9.below hba hH9.lt; have hZa := hZ9.below hba hZ9.lt; have bba : Below B w wa := bb9.trans (hba.mono (by have := bb9.size; omega)); clear hba hS9 hH9 hZ9 bb9 hT9) | (refine wl_neqD 120 rfl (by kernel_rfl) 23 _ _ _ rfl SV.toArray SV.toArray rfl rfl true (HEQ.out _) (by kernel_rfl) false rfl ?_) | (refine wl_loadG (by kernel_rfl) 23 _ rfl ⟨B, 0, none⟩ rfl 32 SV HSL.out aggKey aS9 ?_; clear aS9) | (refine wl_loadG (by kernel_rfl) 23 _ rfl ⟨w7.heap.size, 0, none⟩ rfl 32 SV HSL.out aggKey aT9 ?_; clear aT9) | (refine wl_storeV rfl 23 _ _ rfl 23 w7.heap.size rfl SV rfl 32 aggKey HSL.out Z hT8 hZl HS1.out ?_; intro w9 hT9 hb9 hs9; have hS9 := hS8.below hb9 hl8; have hH9 := hH8.below hb9 hl8'; have hZ9 := hZ8.below hb9 hl8z; have bb9 : Below B w w9 := bb8.trans (hb9.mono hz8); have aT9 := hT9.at0; have aS9 := hS9.at0; clear hb9 hS8 hH8 hZ8 bb8 hT8) | (refine wl_allocV rfl 23 rfl Z HZ0.out w7.heap.size rfl ?_; intro w8 hT8 hb8 hs8; have hS8 := hS7.below hb8 hS7.lt; have hH8 := hH7.below hb8 hH7.lt; have hZ8 := hZ7.below hb8 hZ7.lt; have bb8 : Below B w w8 := bb7.trans (hb8.mono (by have := bb7.size; omega)); have hl8 := hS7.lt; have hl8' := hH7.lt; have hl8z := hZ7.lt; have hz8 : B ≤ w7.heap.size := (by have := bb7.size; omega); clear hb8 hS7 hH7 hZ7 bb7) | (go_at_call 8; refine (CCr _ _ _ hR6.row hcr).out.mono ?_; rintro e w7 ⟨rfl, hb7⟩; have hS7 := hS6.below hb7 hS6.lt; have hH7 := hH6.below hb7 hH6.lt; have hZ7 := hZ6.below hb7 hZ6.lt; have bb7 : Below B w w7 := bb6.trans (hb7.mono (by have := bb6.size; omega)); clear hb7 hS6 hH6 hZ6 bb6 hR6) | (go_at_call 7; refine (CRen _ _ _ hZ5.row).out.mono ?_; rintro e w6 ⟨gr, cr, rfl, hgr, hcr, hR6, hb6⟩; have hS6 := hS5.below hb6 hS5.lt; have hH6 := hH5.below hb6 hH5.lt; have hZ6 := hZ5.below hb6 hZ5.lt; have bb6 : Below B w w6 := bb5.trans (hb6.mono (by have := bb5.size; omega)); clear hb6 hS5 hH5 hZ5 bb5 hA5 hgr) | (refine wl_load rfl 23 _ rfl ⟨B + 1 + 1 + 1, 0, none⟩ rfl AV (by rw [HAL.out]; exact aggKey) aA5 ?_; clear aA5) | (refine wl_build1 rfl 28 0 _ rfl (.int .u8 100) rfl IV HIb.out ?_))
      obtain ⟨G, HG⟩ : ∃ G, Hid (G = wc.heap.size) := ⟨_, rfl⟩
      have hGs : G ≤ wc.heap.size := by rw [HG.out]; exact Nat.le_refl _
      have hBG : B ≤ G := by rw [HG.out]; have := bbc.size; omega
      have hSG : B < G := by rw [HG.out]; exact hSc.lt
      have hHG : gh < G := by rw [HG.out]; exact hHc.lt
      have hZG : gz < G := by rw [HG.out]; exact hZc.lt
      have hXG : wa.heap.size < G := by rw [HG.out]; exact hXc.lt
      obtain ⟨gX, HgX⟩ : ∃ g, Hid (g = wa.heap.size) := ⟨_, rfl⟩
      rw [← HgX.out] at hXc hXG ⊢
      clear HG
      have huX := Try.underlying41
      have hiX : (Try.prog.info? 41).map (·.size) = some AC.length := by rw [HACl.out]; exact aggS.2
      obtain ⟨j1, Hj1⟩ : ∃ j1 : Nat, Hid (j1 = k - 1) := ⟨_, rfl⟩
      obtain ⟨o1, Ho1⟩ : ∃ o1 : Nat, Hid (o1 = if cz = 1 then 0 else 0 + 1 * 49) := ⟨if cz = 1 then 0 else 0 + 1 * 49, rfl⟩
      obtain ⟨c1, Hc1⟩ : ∃ c1 : Nat, Hid (c1 = cz - 1) := ⟨_, rfl⟩
      have hk1 : 1 ≤ k := by have := HM.out; have := HMN.out; omega
      have HO1 : Hid ((o1 = 49 ∧ 1 < k) ∨ j1 = 0) := hid (by
        rw [Ho1.out, Hj1.out]
        by_cases h1 : 1 < k
        · left; rw [if_neg (by omega)]; exact ⟨rfl, h1⟩
        · right; omega)
      have hj1 : j1 + 1 = k := by rw [Hj1.out]; omega
      have Hj1k := hid hj1
      have hj7 : j1 ≤ 7 := by rw [Hj1.out]; have := HN7.out; omega
      clear hj1
      go_cut [27, 28] from 129 to 139 (fun p e wx => ∃ gT, p = .pointer (some ⟨gT, 0, none⟩) ∧ e = .int .i64 0 ∧ BlkV 23 wx gT SV ∧ Below G wc wx)
      case first =>
        have hX0 : BlkV 41 wc.drew gX AC := hXc.drew
        have hG0 : Below G wc wc.drew := (Below.refl _ _).drew
        have hs0 : G ≤ wc.drew.heap.size := hGs
        have hZ := hZc
        refine wp_region_held_drew (S := (fun w' => BlkV 41 w' gX AC)) (by kernel_rfl) hX0 (fun hHeld => ?_)
        refine tkP 0 rfl (by assumption) ⟨?_, ?_, ?_⟩
        rotate_left
        · intro w hSw; (try dsimp only at hSw); go_simp; (try with_reducible rfl)
        try simp only [Act.put, sArr, sZ, sS]
        refine tkP 1 rfl (by assumption) ⟨?_, ?_, ?_⟩
        rotate_left
        · intro w hSw; (try dsimp only at hSw); go_simp; (try with_reducible rfl)
        try simp only [Act.put, sArr, sZ, sS]
        refine tkR 2 rfl (yieldsIf_sliceO (by rfl) 29 _ _ rfl gz 0 k cz 1 49 j1 c1 o1 rfl 1 rfl rfl elSh szSh hk1 Hj1.out Hc1.out Ho1.out) (by assumption) ?_
        try simp only [Act.put, sArr, sZ, sS]
        refine tkR 4 rfl (yieldsIf_load_mid (by rfl) 41 _ rfl gX 0 rfl AC _ (fun w hS => at_range hS.at0) huX rfl hiX) (by assumption) ?_
        try simp only [Act.put, sArr, sZ, sS]
        refine wpAnyH_ready (rs := [3, 5, 11]) (by kernel_rfl) (by simp) (cons_l rfl (fun K' hK' => ?_) (cons_l rfl (fun K' hK' => ?_) (cons_l rfl (fun K' hK' => ?_) AllReadyH.nil)))
        · rw [if_pos (by rfl)]
          go_simp
          go_at_call 10
          refine (CClD gz o1 c1 j1 wc.drew (RowB.row (hZ.below hG0 hZG)) Hj1.out HO1.out).out.mono ?_
          rintro e x1 ⟨v1, rfl, hM1', hbx⟩
          have hM1 := hM1'.mono hs0
          have hG1 : Below G wc x1 := hG0.trans (hbx.mono hs0)
          have hs1 : G ≤ x1.heap.size := Nat.le_trans hs0 hbx.size
          have hX1 := hX0.below hbx hX0.lt
          refine hK'.out _ _ hX1 (fun hHeld => ?_)
          clear hK' K'
          try simp only [Act.put, sArr, sZ, sS]
          refine wpAnyH_ready (rs := [5, 11]) (by kernel_rfl) (by simp) (cons_l rfl (fun K' hK' => ?_) (cons_l rfl (fun K' hK' => ?_) AllReadyH.nil))
          · obtain ⟨gL, HgL⟩ : ∃ g, Hid (g = x1.heap.size) := ⟨_, rfl⟩
            refine step_slice1 rfl 29 41 _ rfl Try.underlying29 49 sh0.cs (by kernel_rfl) sh0_len (by decide) (by decide) AC rfl HACl.out gL HgL.out.symm ?_
            intro x2 hL2 hbx hsx
            rw [HgL.out] at hbx
            clear hsx
            have hG2 : Below G wc x2 := hG1.trans (hbx.mono hs1)
            have hs2 : G ≤ x2.heap.size := Nat.le_trans hs1 hbx.size
            have hX2 := hX1.below hbx hX1.lt
            have hM2 := hM1.belowAll hbx
            refine hK'.out _ _ hX2 (fun hHeld => ?_)
            clear hK' K'
            try simp only [Act.put, sArr, sZ, sS]
            refine wpAnyH_ready (rs := [6, 11]) (by kernel_rfl) (by simp) (cons_l rfl (fun K' hK' => ?_) (cons_l rfl (fun K' hK' => ?_) AllReadyH.nil))
            · refine step_appendT rfl _ _ 29 rfl 41 (.agg sh0.cs.toArray) 49 88 Try.underlying29 infoS rfl (by decide) G v1 j1 FD rfl hM2 (some ⟨gL, 0, none⟩) 1 1 rfl (fun h => by cases h) AC (by rw [HACl.out]) (RowB.row (t := 41) ⟨AC, hL2, by rw [List.take_length]⟩) HAC1.out (by unfold maxLen; omega) (by omega) hs2 k Hj1k.out.symm ?_
              intro ao1 cap1 x3 hc1 hR3 hgb hgs hgT
              have hG3 : Below G wc x3 := hG2.trans hgb
              have hs3 : G ≤ x3.heap.size := Nat.le_trans hs2 hgs
              have hX3 := hX2.below hgb hXG
              refine hK'.out _ _ hX3 (fun hHeld => ?_)
              clear hK' K'
              try simp only [Act.put, sArr, sZ, sS]
              refine wpAnyH_ready (rs := [7, 11]) (by kernel_rfl) (by simp) (cons_l rfl (fun K' hK' => ?_) (cons_l rfl (fun K' hK' => ?_) AllReadyH.nil))
              · rw [if_pos (by rfl)]
                go_simp
                go_at_call 8
                refine (CCom ao1 cap1 x3 hR3 hc1).out.mono ?_
                rintro e x4 ⟨rfl, hbx⟩
                have hG4 : Below G wc x4 := hG3.trans (hbx.mono hs3)
                have hs4 : G ≤ x4.heap.size := Nat.le_trans hs3 hbx.size
                have hX4 := hX3.below hbx hX3.lt
                refine hK'.out _ _ hX4 (fun hHeld => ?_)
                clear hK' K'
                try simp only [Act.put, sArr, sZ, sS]
                refine tkP 8 rfl (by assumption) ⟨?_, ?_, ?_⟩
                rotate_left
                · intro w hSw; (try dsimp only at hSw); go_simp; (try with_reducible rfl)
                try simp only [Act.put, sArr, sZ, sS]
                refine tkP 9 rfl (by assumption) ⟨?_, ?_, ?_⟩
                rotate_left
                · intro w hSw; (try dsimp only at hSw); go_simp; (try with_reducible rfl)
                try simp only [Act.put, sArr, sZ, sS]
                refine tkP 10 rfl (by assumption) ⟨?_, ?_, ?_⟩
                rotate_left
                · intro w hSw; (try dsimp only at hSw); go_simp; (try with_reducible rfl)
                try simp only [Act.put, sArr, sZ, sS]
                refine wpAnyH_ready (rs := [11]) (by kernel_rfl) (by simp) (cons_l rfl (fun K' hK' => ?_) AllReadyH.nil)
                obtain ⟨gT, HgT⟩ : ∃ g, Hid (g = x4.heap.size) := ⟨_, rfl⟩
                refine step_allocV rfl 23 rfl Z HZ0.out gT HgT.out.symm ?_
                intro x5 hT5 hbx hsx
                rw [HgT.out] at hbx
                have hgT0 : G ≤ gT := by rw [HgT.out]; exact hs4
                clear hsx
                have hG5 : Below G wc x5 := hG4.trans (hbx.mono hs4)
                have hs5 : G ≤ x5.heap.size := Nat.le_trans hs4 hbx.size
                have hX5 := hX4.below hbx hX4.lt
                refine hK'.out _ _ hX5 (fun hHeld => ?_)
                clear hK' K'
                try simp only [Act.put, sArr, sZ, sS]
                refine wpAnyH_ready (rs := [12]) (by kernel_rfl) (by simp) (cons_l rfl (fun K' hK' => ?_) AllReadyH.nil)
                refine step_storeV rfl 23 _ _ rfl 23 (gT) rfl SV rfl 32 aggKey HSL.out Z hT5 hZl HS1.out ?_
                intro x6 hT6 hbx hsx
                have hG6 : Below G wc x6 := hG5.trans (hbx.mono hgT0)
                have hX6 := hX5.below hbx (Nat.lt_of_lt_of_le hXG hgT0)
                refine hK'.out _ _ hX6 (fun hHeld => ?_)
                clear hK' K'
                try simp only [Act.put, sArr, sZ, sS]
                refine tkP 13 rfl (by assumption) ⟨?_, ?_, ?_⟩
                rotate_left
                · intro w hSw; (try dsimp only at hSw); go_simp; (try with_reducible rfl)
                try simp only [Act.put, sArr, sZ, sS]
                refine wpAnyH_done (by kernel_rfl) ?_ _
                clear hHeld
                go_wp2_with fail
                go_meet
                exact ⟨_, rfl, rfl, hT6, hG6⟩
              · obtain ⟨gT, HgT⟩ : ∃ g, Hid (g = x3.heap.size) := ⟨_, rfl⟩
                refine step_allocV rfl 23 rfl Z HZ0.out gT HgT.out.symm ?_
                intro x4 hT4 hbx hsx
                rw [HgT.out] at hbx
                have hgT0 : G ≤ gT := by rw [HgT.out]; exact hs3
                clear hsx
                have hG4 : Below G wc x4 := hG3.trans (hbx.mono hs3)
                have hs4 : G ≤ x4.heap.size := Nat.le_trans hs3 hbx.size
                have hX4 := hX3.below hbx hX3.lt
                have hR4 := hR3.below hbx
                refine hK'.out _ _ hX4 (fun hHeld => ?_)
                clear hK' K'
                try simp only [Act.put, sArr, sZ, sS]
                refine wpAnyH_ready (rs := [7]) (by kernel_rfl) (by simp) (cons_l rfl (fun K' hK' => ?_) AllReadyH.nil)
                rw [if_pos (by rfl)]
                go_simp
                go_at_call 8
                refine (CCom ao1 cap1 x4 hR4 hc1).out.mono ?_
                rintro e x5 ⟨rfl, hbx⟩
                have hG5 : Below G wc x5 := hG4.trans (hbx.mono hs4)
                have hs5 : G ≤ x5.heap.size := Nat.le_trans hs4 hbx.size
                have hX5 := hX4.below hbx hX4.lt
                have hT5 := hT4.below hbx hT4.lt
                refine hK'.out _ _ hX5 (fun hHeld => ?_)
                clear hK' K'
                try simp only [Act.put, sArr, sZ, sS]
                refine tkP 8 rfl (by assumption) ⟨?_, ?_, ?_⟩
                rotate_left
                · intro w hSw; (try dsimp only at hSw); go_simp; (try with_reducible rfl)
                try simp only [Act.put, sArr, sZ, sS]
                refine tkP 9 rfl (by assumption) ⟨?_, ?_, ?_⟩
                rotate_left
                · intro w hSw; (try dsimp only at hSw); go_simp; (try with_reducible rfl)
                try simp only [Act.put, sArr, sZ, sS]
                refine tkP 10 rfl (by assumption) ⟨?_, ?_, ?_⟩
                rotate_left
                · intro w hSw; (try dsimp only at hSw); go_simp; (try with_reducible rfl)
                try simp only [Act.put, sArr, sZ, sS]
                refine wpAnyH_ready (rs := [12]) (by kernel_rfl) (by simp) (cons_l rfl (fun K' hK' => ?_) AllReadyH.nil)
                refine step_storeV rfl 23 _ _ rfl 23 (gT) rfl SV rfl 32 aggKey HSL.out Z hT5 hZl HS1.out ?_
                intro x6 hT6 hbx hsx
                have hG6 : Below G wc x6 := hG5.trans (hbx.mono hgT0)
                have hX6 := hX5.below hbx (Nat.lt_of_lt_of_le hXG hgT0)
                refine hK'.out _ _ hX6 (fun hHeld => ?_)
                clear hK' K'
                try simp only [Act.put, sArr, sZ, sS]
                refine tkP 13 rfl (by assumption) ⟨?_, ?_, ?_⟩
                rotate_left
                · intro w hSw; (try dsimp only at hSw); go_simp; (try with_reducible rfl)
                try simp only [Act.put, sArr, sZ, sS]
                refine wpAnyH_done (by kernel_rfl) ?_ _
                clear hHeld
                go_wp2_with fail
                go_meet
                exact ⟨_, rfl, rfl, hT6, hG6⟩
            · obtain ⟨gT, HgT⟩ : ∃ g, Hid (g = x2.heap.size) := ⟨_, rfl⟩
              refine step_allocV rfl 23 rfl Z HZ0.out gT HgT.out.symm ?_
              intro x3 hT3 hbx hsx
              rw [HgT.out] at hbx
              have hgT0 : G ≤ gT := by rw [HgT.out]; exact hs2
              clear hsx
              have hG3 : Below G wc x3 := hG2.trans (hbx.mono hs2)
              have hs3 : G ≤ x3.heap.size := Nat.le_trans hs2 hbx.size
              have hX3 := hX2.below hbx hX2.lt
              have hM3 := hM2.belowAll hbx
              have hL3 := hL2.below hbx hL2.lt
              refine hK'.out _ _ hX3 (fun hHeld => ?_)
              clear hK' K'
              try simp only [Act.put, sArr, sZ, sS]
              refine wpAnyH_ready (rs := [6]) (by kernel_rfl) (by simp) (cons_l rfl (fun K' hK' => ?_) AllReadyH.nil)
              refine step_appendT rfl _ _ 29 rfl 41 (.agg sh0.cs.toArray) 49 88 Try.underlying29 infoS rfl (by decide) G v1 j1 FD rfl hM3 (some ⟨gL, 0, none⟩) 1 1 rfl (fun h => by cases h) AC (by rw [HACl.out]) (RowB.row (t := 41) ⟨AC, hL3, by rw [List.take_length]⟩) HAC1.out (by unfold maxLen; omega) (by omega) hs3 k Hj1k.out.symm ?_
              intro ao1 cap1 x4 hc1 hR4 hgb hgs hgT
              have hG4 : Below G wc x4 := hG3.trans hgb
              have hs4 : G ≤ x4.heap.size := Nat.le_trans hs3 hgs
              have hX4 := hX3.below hgb hXG
              have hT4 := hgT _ _ _ hT3 (by decide)
              refine hK'.out _ _ hX4 (fun hHeld => ?_)
              clear hK' K'
              try simp only [Act.put, sArr, sZ, sS]
              refine wpAnyH_ready (rs := [7]) (by kernel_rfl) (by simp) (cons_l rfl (fun K' hK' => ?_) AllReadyH.nil)
              rw [if_pos (by rfl)]
              go_simp
              go_at_call 8
              refine (CCom ao1 cap1 x4 hR4 hc1).out.mono ?_
              rintro e x5 ⟨rfl, hbx⟩
              have hG5 : Below G wc x5 := hG4.trans (hbx.mono hs4)
              have hs5 : G ≤ x5.heap.size := Nat.le_trans hs4 hbx.size
              have hX5 := hX4.below hbx hX4.lt
              have hT5 := hT4.below hbx hT4.lt
              refine hK'.out _ _ hX5 (fun hHeld => ?_)
              clear hK' K'
              try simp only [Act.put, sArr, sZ, sS]
              refine tkP 8 rfl (by assumption) ⟨?_, ?_, ?_⟩
              rotate_left
              · intro w hSw; (try dsimp only at hSw); go_simp; (try with_reducible rfl)
              try simp only [Act.put, sArr, sZ, sS]
              refine tkP 9 rfl (by assumption) ⟨?_, ?_, ?_⟩
              rotate_left
              · intro w hSw; (try dsimp only at hSw); go_simp; (try with_reducible rfl)
              try simp only [Act.put, sArr, sZ, sS]
              refine tkP 10 rfl (by assumption) ⟨?_, ?_, ?_⟩
              rotate_left
              · intro w hSw; (try dsimp only at hSw); go_simp; (try with_reducible rfl)
              try simp only [Act.put, sArr, sZ, sS]
              refine wpAnyH_ready (rs := [12]) (by kernel_rfl) (by simp) (cons_l rfl (fun K' hK' => ?_) AllReadyH.nil)
              refine step_storeV rfl 23 _ _ rfl 23 (gT) rfl SV rfl 32 aggKey HSL.out Z hT5 hZl HS1.out ?_
              intro x6 hT6 hbx hsx
              have hG6 : Below G wc x6 := hG5.trans (hbx.mono hgT0)
              have hX6 := hX5.below hbx (Nat.lt_of_lt_of_le hXG hgT0)
              refine hK'.out _ _ hX6 (fun hHeld => ?_)
              clear hK' K'
              try simp only [Act.put, sArr, sZ, sS]
              refine tkP 13 rfl (by assumption) ⟨?_, ?_, ?_⟩
              rotate_left
              · intro w hSw; (try dsimp only at hSw); go_simp; (try with_reducible rfl)
              try simp only [Act.put, sArr, sZ, sS]
              refine wpAnyH_done (by kernel_rfl) ?_ _
              clear hHeld
              go_wp2_with fail
              go_meet
              exact ⟨_, rfl, rfl, hT6, hG6⟩
          · obtain ⟨gT, HgT⟩ : ∃ g, Hid (g = x1.heap.size) := ⟨_, rfl⟩
            refine step_allocV rfl 23 rfl Z HZ0.out gT HgT.out.symm ?_
            intro x2 hT2 hbx hsx
            rw [HgT.out] at hbx
            have hgT0 : G ≤ gT := by rw [HgT.out]; exact hs1
            clear hsx
            have hG2 : Below G wc x2 := hG1.trans (hbx.mono hs1)
            have hs2 : G ≤ x2.heap.size := Nat.le_trans hs1 hbx.size
            have hX2 := hX1.below hbx hX1.lt
            have hM2 := hM1.belowAll hbx
            refine hK'.out _ _ hX2 (fun hHeld => ?_)
            clear hK' K'
            try simp only [Act.put, sArr, sZ, sS]
            refine wpAnyH_ready (rs := [5]) (by kernel_rfl) (by simp) (cons_l rfl (fun K' hK' => ?_) AllReadyH.nil)
            obtain ⟨gL, HgL⟩ : ∃ g, Hid (g = x2.heap.size) := ⟨_, rfl⟩
            refine step_slice1 rfl 29 41 _ rfl Try.underlying29 49 sh0.cs (by kernel_rfl) sh0_len (by decide) (by decide) AC rfl HACl.out gL HgL.out.symm ?_
            intro x3 hL3 hbx hsx
            rw [HgL.out] at hbx
            clear hsx
            have hG3 : Below G wc x3 := hG2.trans (hbx.mono hs2)
            have hs3 : G ≤ x3.heap.size := Nat.le_trans hs2 hbx.size
            have hX3 := hX2.below hbx hX2.lt
            have hM3 := hM2.belowAll hbx
            have hT3 := hT2.below hbx hT2.lt
            refine hK'.out _ _ hX3 (fun hHeld => ?_)
            clear hK' K'
            try simp only [Act.put, sArr, sZ, sS]
            refine wpAnyH_ready (rs := [6]) (by kernel_rfl) (by simp) (cons_l rfl (fun K' hK' => ?_) AllReadyH.nil)
            refine step_appendT rfl _ _ 29 rfl 41 (.agg sh0.cs.toArray) 49 88 Try.underlying29 infoS rfl (by decide) G v1 j1 FD rfl hM3 (some ⟨gL, 0, none⟩) 1 1 rfl (fun h => by cases h) AC (by rw [HACl.out]) (RowB.row (t := 41) ⟨AC, hL3, by rw [List.take_length]⟩) HAC1.out (by unfold maxLen; omega) (by omega) hs3 k Hj1k.out.symm ?_
            intro ao1 cap1 x4 hc1 hR4 hgb hgs hgT
            have hG4 : Below G wc x4 := hG3.trans hgb
            have hs4 : G ≤ x4.heap.size := Nat.le_trans hs3 hgs
            have hX4 := hX3.below hgb hXG
            have hT4 := hgT _ _ _ hT3 (by decide)
            refine hK'.out _ _ hX4 (fun hHeld => ?_)
            clear hK' K'
            try simp only [Act.put, sArr, sZ, sS]
            refine wpAnyH_ready (rs := [7]) (by kernel_rfl) (by simp) (cons_l rfl (fun K' hK' => ?_) AllReadyH.nil)
            rw [if_pos (by rfl)]
            go_simp
            go_at_call 8
            refine (CCom ao1 cap1 x4 hR4 hc1).out.mono ?_
            rintro e x5 ⟨rfl, hbx⟩
            have hG5 : Below G wc x5 := hG4.trans (hbx.mono hs4)
            have hs5 : G ≤ x5.heap.size := Nat.le_trans hs4 hbx.size
            have hX5 := hX4.below hbx hX4.lt
            have hT5 := hT4.below hbx hT4.lt
            refine hK'.out _ _ hX5 (fun hHeld => ?_)
            clear hK' K'
            try simp only [Act.put, sArr, sZ, sS]
            refine tkP 8 rfl (by assumption) ⟨?_, ?_, ?_⟩
            rotate_left
            · intro w hSw; (try dsimp only at hSw); go_simp; (try with_reducible rfl)
            try simp only [Act.put, sArr, sZ, sS]
            refine tkP 9 rfl (by assumption) ⟨?_, ?_, ?_⟩
            rotate_left
            · intro w hSw; (try dsimp only at hSw); go_simp; (try with_reducible rfl)
            try simp only [Act.put, sArr, sZ, sS]
            refine tkP 10 rfl (by assumption) ⟨?_, ?_, ?_⟩
            rotate_left
            · intro w hSw; (try dsimp only at hSw); go_simp; (try with_reducible rfl)
            try simp only [Act.put, sArr, sZ, sS]
            refine wpAnyH_ready (rs := [12]) (by kernel_rfl) (by simp) (cons_l rfl (fun K' hK' => ?_) AllReadyH.nil)
            refine step_storeV rfl 23 _ _ rfl 23 (gT) rfl SV rfl 32 aggKey HSL.out Z hT5 hZl HS1.out ?_
            intro x6 hT6 hbx hsx
            have hG6 : Below G wc x6 := hG5.trans (hbx.mono hgT0)
            have hX6 := hX5.below hbx (Nat.lt_of_lt_of_le hXG hgT0)
            refine hK'.out _ _ hX6 (fun hHeld => ?_)
            clear hK' K'
            try simp only [Act.put, sArr, sZ, sS]
            refine tkP 13 rfl (by assumption) ⟨?_, ?_, ?_⟩
            rotate_left
            · intro w hSw; (try dsimp only at hSw); go_simp; (try with_reducible rfl)
            try simp only [Act.put, sArr, sZ, sS]
            refine wpAnyH_done (by kernel_rfl) ?_ _
            clear hHeld
            go_wp2_with fail
            go_meet
            exact ⟨_, rfl, rfl, hT6, hG6⟩
        · obtain ⟨gL, HgL⟩ : ∃ g, Hid (g = wc.drew.heap.size) := ⟨_, rfl⟩
          refine step_slice1 rfl 29 41 _ rfl Try.underlying29 49 sh0.cs (by kernel_rfl) sh0_len (by decide) (by decide) AC rfl HACl.out gL HgL.out.symm ?_
          intro x1 hL1 hbx hsx
          rw [HgL.out] at hbx
          clear hsx
          have hG1 : Below G wc x1 := hG0.trans (hbx.mono hs0)
          have hs1 : G ≤ x1.heap.size := Nat.le_trans hs0 hbx.size
          have hX1 := hX0.below hbx hX0.lt
          refine hK'.out _ _ hX1 (fun hHeld => ?_)
          clear hK' K'
          try simp only [Act.put, sArr, sZ, sS]
          refine wpAnyH_ready (rs := [3, 11]) (by kernel_rfl) (by simp) (cons_l rfl (fun K' hK' => ?_) (cons_l rfl (fun K' hK' => ?_) AllReadyH.nil))
          · rw [if_pos (by rfl)]
            go_simp
            go_at_call 10
            refine (CClD gz o1 c1 j1 x1 (RowB.row (hZ.below hG1 hZG)) Hj1.out HO1.out).out.mono ?_
            rintro e x2 ⟨v1, rfl, hM2', hbx⟩
            have hM2 := hM2'.mono hs1
            have hG2 : Below G wc x2 := hG1.trans (hbx.mono hs1)
            have hs2 : G ≤ x2.heap.size := Nat.le_trans hs1 hbx.size
            have hX2 := hX1.below hbx hX1.lt
            have hL2 := hL1.below hbx hL1.lt
            refine hK'.out _ _ hX2 (fun hHeld => ?_)
            clear hK' K'
            try simp only [Act.put, sArr, sZ, sS]
            refine wpAnyH_ready (rs := [6, 11]) (by kernel_rfl) (by simp) (cons_l rfl (fun K' hK' => ?_) (cons_l rfl (fun K' hK' => ?_) AllReadyH.nil))
            · refine step_appendT rfl _ _ 29 rfl 41 (.agg sh0.cs.toArray) 49 88 Try.underlying29 infoS rfl (by decide) G v1 j1 FD rfl hM2 (some ⟨gL, 0, none⟩) 1 1 rfl (fun h => by cases h) AC (by rw [HACl.out]) (RowB.row (t := 41) ⟨AC, hL2, by rw [List.take_length]⟩) HAC1.out (by unfold maxLen; omega) (by omega) hs2 k Hj1k.out.symm ?_
              intro ao1 cap1 x3 hc1 hR3 hgb hgs hgT
              have hG3 : Below G wc x3 := hG2.trans hgb
              have hs3 : G ≤ x3.heap.size := Nat.le_trans hs2 hgs
              have hX3 := hX2.below hgb hXG
              refine hK'.out _ _ hX3 (fun hHeld => ?_)
              clear hK' K'
              try simp only [Act.put, sArr, sZ, sS]
              refine wpAnyH_ready (rs := [7, 11]) (by kernel_rfl) (by simp) (cons_l rfl (fun K' hK' => ?_) (cons_l rfl (fun K' hK' => ?_) AllReadyH.nil))
              · rw [if_pos (by rfl)]
                go_simp
                go_at_call 8
                refine (CCom ao1 cap1 x3 hR3 hc1).out.mono ?_
                rintro e x4 ⟨rfl, hbx⟩
                have hG4 : Below G wc x4 := hG3.trans (hbx.mono hs3)
                have hs4 : G ≤ x4.heap.size := Nat.le_trans hs3 hbx.size
                have hX4 := hX3.below hbx hX3.lt
                refine hK'.out _ _ hX4 (fun hHeld => ?_)
                clear hK' K'
                try simp only [Act.put, sArr, sZ, sS]
                refine tkP 8 rfl (by assumption) ⟨?_, ?_, ?_⟩
                rotate_left
                · intro w hSw; (try dsimp only at hSw); go_simp; (try with_reducible rfl)
                try simp only [Act.put, sArr, sZ, sS]
                refine tkP 9 rfl (by assumption) ⟨?_, ?_, ?_⟩
                rotate_left
                · intro w hSw; (try dsimp only at hSw); go_simp; (try with_reducible rfl)
                try simp only [Act.put, sArr, sZ, sS]
                refine tkP 10 rfl (by assumption) ⟨?_, ?_, ?_⟩
                rotate_left
                · intro w hSw; (try dsimp only at hSw); go_simp; (try with_reducible rfl)
                try simp only [Act.put, sArr, sZ, sS]
                refine wpAnyH_ready (rs := [11]) (by kernel_rfl) (by simp) (cons_l rfl (fun K' hK' => ?_) AllReadyH.nil)
                obtain ⟨gT, HgT⟩ : ∃ g, Hid (g = x4.heap.size) := ⟨_, rfl⟩
                refine step_allocV rfl 23 rfl Z HZ0.out gT HgT.out.symm ?_
                intro x5 hT5 hbx hsx
                rw [HgT.out] at hbx
                have hgT0 : G ≤ gT := by rw [HgT.out]; exact hs4
                clear hsx
                have hG5 : Below G wc x5 := hG4.trans (hbx.mono hs4)
                have hs5 : G ≤ x5.heap.size := Nat.le_trans hs4 hbx.size
                have hX5 := hX4.below hbx hX4.lt
                refine hK'.out _ _ hX5 (fun hHeld => ?_)
                clear hK' K'
                try simp only [Act.put, sArr, sZ, sS]
                refine wpAnyH_ready (rs := [12]) (by kernel_rfl) (by simp) (cons_l rfl (fun K' hK' => ?_) AllReadyH.nil)
                refine step_storeV rfl 23 _ _ rfl 23 (gT) rfl SV rfl 32 aggKey HSL.out Z hT5 hZl HS1.out ?_
                intro x6 hT6 hbx hsx
                have hG6 : Below G wc x6 := hG5.trans (hbx.mono hgT0)
                have hX6 := hX5.below hbx (Nat.lt_of_lt_of_le hXG hgT0)
                refine hK'.out _ _ hX6 (fun hHeld => ?_)
                clear hK' K'
                try simp only [Act.put, sArr, sZ, sS]
                refine tkP 13 rfl (by assumption) ⟨?_, ?_, ?_⟩
                rotate_left
                · intro w hSw; (try dsimp only at hSw); go_simp; (try with_reducible rfl)
                try simp only [Act.put, sArr, sZ, sS]
                refine wpAnyH_done (by kernel_rfl) ?_ _
                clear hHeld
                go_wp2_with fail
                go_meet
                exact ⟨_, rfl, rfl, hT6, hG6⟩
              · obtain ⟨gT, HgT⟩ : ∃ g, Hid (g = x3.heap.size) := ⟨_, rfl⟩
                refine step_allocV rfl 23 rfl Z HZ0.out gT HgT.out.symm ?_
                intro x4 hT4 hbx hsx
                rw [HgT.out] at hbx
                have hgT0 : G ≤ gT := by rw [HgT.out]; exact hs3
                clear hsx
                have hG4 : Below G wc x4 := hG3.trans (hbx.mono hs3)
                have hs4 : G ≤ x4.heap.size := Nat.le_trans hs3 hbx.size
                have hX4 := hX3.below hbx hX3.lt
                have hR4 := hR3.below hbx
                refine hK'.out _ _ hX4 (fun hHeld => ?_)
                clear hK' K'
                try simp only [Act.put, sArr, sZ, sS]
                refine wpAnyH_ready (rs := [7]) (by kernel_rfl) (by simp) (cons_l rfl (fun K' hK' => ?_) AllReadyH.nil)
                rw [if_pos (by rfl)]
                go_simp
                go_at_call 8
                refine (CCom ao1 cap1 x4 hR4 hc1).out.mono ?_
                rintro e x5 ⟨rfl, hbx⟩
                have hG5 : Below G wc x5 := hG4.trans (hbx.mono hs4)
                have hs5 : G ≤ x5.heap.size := Nat.le_trans hs4 hbx.size
                have hX5 := hX4.below hbx hX4.lt
                have hT5 := hT4.below hbx hT4.lt
                refine hK'.out _ _ hX5 (fun hHeld => ?_)
                clear hK' K'
                try simp only [Act.put, sArr, sZ, sS]
                refine tkP 8 rfl (by assumption) ⟨?_, ?_, ?_⟩
                rotate_left
                · intro w hSw; (try dsimp only at hSw); go_simp; (try with_reducible rfl)
                try simp only [Act.put, sArr, sZ, sS]
                refine tkP 9 rfl (by assumption) ⟨?_, ?_, ?_⟩
                rotate_left
                · intro w hSw; (try dsimp only at hSw); go_simp; (try with_reducible rfl)
                try simp only [Act.put, sArr, sZ, sS]
                refine tkP 10 rfl (by assumption) ⟨?_, ?_, ?_⟩
                rotate_left
                · intro w hSw; (try dsimp only at hSw); go_simp; (try with_reducible rfl)
                try simp only [Act.put, sArr, sZ, sS]
                refine wpAnyH_ready (rs := [12]) (by kernel_rfl) (by simp) (cons_l rfl (fun K' hK' => ?_) AllReadyH.nil)
                refine step_storeV rfl 23 _ _ rfl 23 (gT) rfl SV rfl 32 aggKey HSL.out Z hT5 hZl HS1.out ?_
                intro x6 hT6 hbx hsx
                have hG6 : Below G wc x6 := hG5.trans (hbx.mono hgT0)
                have hX6 := hX5.below hbx (Nat.lt_of_lt_of_le hXG hgT0)
                refine hK'.out _ _ hX6 (fun hHeld => ?_)
                clear hK' K'
                try simp only [Act.put, sArr, sZ, sS]
                refine tkP 13 rfl (by assumption) ⟨?_, ?_, ?_⟩
                rotate_left
                · intro w hSw; (try dsimp only at hSw); go_simp; (try with_reducible rfl)
                try simp only [Act.put, sArr, sZ, sS]
                refine wpAnyH_done (by kernel_rfl) ?_ _
                clear hHeld
                go_wp2_with fail
                go_meet
                exact ⟨_, rfl, rfl, hT6, hG6⟩
            · obtain ⟨gT, HgT⟩ : ∃ g, Hid (g = x2.heap.size) := ⟨_, rfl⟩
              refine step_allocV rfl 23 rfl Z HZ0.out gT HgT.out.symm ?_
              intro x3 hT3 hbx hsx
              rw [HgT.out] at hbx
              have hgT0 : G ≤ gT := by rw [HgT.out]; exact hs2
              clear hsx
              have hG3 : Below G wc x3 := hG2.trans (hbx.mono hs2)
              have hs3 : G ≤ x3.heap.size := Nat.le_trans hs2 hbx.size
              have hX3 := hX2.below hbx hX2.lt
              have hM3 := hM2.belowAll hbx
              have hL3 := hL2.below hbx hL2.lt
              refine hK'.out _ _ hX3 (fun hHeld => ?_)
              clear hK' K'
              try simp only [Act.put, sArr, sZ, sS]
              refine wpAnyH_ready (rs := [6]) (by kernel_rfl) (by simp) (cons_l rfl (fun K' hK' => ?_) AllReadyH.nil)
              refine step_appendT rfl _ _ 29 rfl 41 (.agg sh0.cs.toArray) 49 88 Try.underlying29 infoS rfl (by decide) G v1 j1 FD rfl hM3 (some ⟨gL, 0, none⟩) 1 1 rfl (fun h => by cases h) AC (by rw [HACl.out]) (RowB.row (t := 41) ⟨AC, hL3, by rw [List.take_length]⟩) HAC1.out (by unfold maxLen; omega) (by omega) hs3 k Hj1k.out.symm ?_
              intro ao1 cap1 x4 hc1 hR4 hgb hgs hgT
              have hG4 : Below G wc x4 := hG3.trans hgb
              have hs4 : G ≤ x4.heap.size := Nat.le_trans hs3 hgs
              have hX4 := hX3.below hgb hXG
              have hT4 := hgT _ _ _ hT3 (by decide)
              refine hK'.out _ _ hX4 (fun hHeld => ?_)
              clear hK' K'
              try simp only [Act.put, sArr, sZ, sS]
              refine wpAnyH_ready (rs := [7]) (by kernel_rfl) (by simp) (cons_l rfl (fun K' hK' => ?_) AllReadyH.nil)
              rw [if_pos (by rfl)]
              go_simp
              go_at_call 8
              refine (CCom ao1 cap1 x4 hR4 hc1).out.mono ?_
              rintro e x5 ⟨rfl, hbx⟩
              have hG5 : Below G wc x5 := hG4.trans (hbx.mono hs4)
              have hs5 : G ≤ x5.heap.size := Nat.le_trans hs4 hbx.size
              have hX5 := hX4.below hbx hX4.lt
              have hT5 := hT4.below hbx hT4.lt
              refine hK'.out _ _ hX5 (fun hHeld => ?_)
              clear hK' K'
              try simp only [Act.put, sArr, sZ, sS]
              refine tkP 8 rfl (by assumption) ⟨?_, ?_, ?_⟩
              rotate_left
              · intro w hSw; (try dsimp only at hSw); go_simp; (try with_reducible rfl)
              try simp only [Act.put, sArr, sZ, sS]
              refine tkP 9 rfl (by assumption) ⟨?_, ?_, ?_⟩
              rotate_left
              · intro w hSw; (try dsimp only at hSw); go_simp; (try with_reducible rfl)
              try simp only [Act.put, sArr, sZ, sS]
              refine tkP 10 rfl (by assumption) ⟨?_, ?_, ?_⟩
              rotate_left
              · intro w hSw; (try dsimp only at hSw); go_simp; (try with_reducible rfl)
              try simp only [Act.put, sArr, sZ, sS]
              refine wpAnyH_ready (rs := [12]) (by kernel_rfl) (by simp) (cons_l rfl (fun K' hK' => ?_) AllReadyH.nil)
              refine step_storeV rfl 23 _ _ rfl 23 (gT) rfl SV rfl 32 aggKey HSL.out Z hT5 hZl HS1.out ?_
              intro x6 hT6 hbx hsx
              have hG6 : Below G wc x6 := hG5.trans (hbx.mono hgT0)
              have hX6 := hX5.below hbx (Nat.lt_of_lt_of_le hXG hgT0)
              refine hK'.out _ _ hX6 (fun hHeld => ?_)
              clear hK' K'
              try simp only [Act.put, sArr, sZ, sS]
              refine tkP 13 rfl (by assumption) ⟨?_, ?_, ?_⟩
              rotate_left
              · intro w hSw; (try dsimp only at hSw); go_simp; (try with_reducible rfl)
              try simp only [Act.put, sArr, sZ, sS]
              refine wpAnyH_done (by kernel_rfl) ?_ _
              clear hHeld
              go_wp2_with fail
              go_meet
              exact ⟨_, rfl, rfl, hT6, hG6⟩
          · obtain ⟨gT, HgT⟩ : ∃ g, Hid (g = x1.heap.size) := ⟨_, rfl⟩
            refine step_allocV rfl 23 rfl Z HZ0.out gT HgT.out.symm ?_
            intro x2 hT2 hbx hsx
            rw [HgT.out] at hbx
            have hgT0 : G ≤ gT := by rw [HgT.out]; exact hs1
            clear hsx
            have hG2 : Below G wc x2 := hG1.trans (hbx.mono hs1)
            have hs2 : G ≤ x2.heap.size := Nat.le_trans hs1 hbx.size
            have hX2 := hX1.below hbx hX1.lt
            have hL2 := hL1.below hbx hL1.lt
            refine hK'.out _ _ hX2 (fun hHeld => ?_)
            clear hK' K'
            try simp only [Act.put, sArr, sZ, sS]
            refine wpAnyH_ready (rs := [3]) (by kernel_rfl) (by simp) (cons_l rfl (fun K' hK' => ?_) AllReadyH.nil)
            rw [if_pos (by rfl)]
            go_simp
            go_at_call 10
            refine (CClD gz o1 c1 j1 x2 (RowB.row (hZ.below hG2 hZG)) Hj1.out HO1.out).out.mono ?_
            rintro e x3 ⟨v1, rfl, hM3', hbx⟩
            have hM3 := hM3'.mono hs2
            have hG3 : Below G wc x3 := hG2.trans (hbx.mono hs2)
            have hs3 : G ≤ x3.heap.size := Nat.le_trans hs2 hbx.size
            have hX3 := hX2.below hbx hX2.lt
            have hL3 := hL2.below hbx hL2.lt
            have hT3 := hT2.below hbx hT2.lt
            refine hK'.out _ _ hX3 (fun hHeld => ?_)
            clear hK' K'
            try simp only [Act.put, sArr, sZ, sS]
            refine wpAnyH_ready (rs := [6]) (by kernel_rfl) (by simp) (cons_l rfl (fun K' hK' => ?_) AllReadyH.nil)
            refine step_appendT rfl _ _ 29 rfl 41 (.agg sh0.cs.toArray) 49 88 Try.underlying29 infoS rfl (by decide) G v1 j1 FD rfl hM3 (some ⟨gL, 0, none⟩) 1 1 rfl (fun h => by cases h) AC (by rw [HACl.out]) (RowB.row (t := 41) ⟨AC, hL3, by rw [List.take_length]⟩) HAC1.out (by unfold maxLen; omega) (by omega) hs3 k Hj1k.out.symm ?_
            intro ao1 cap1 x4 hc1 hR4 hgb hgs hgT
            have hG4 : Below G wc x4 := hG3.trans hgb
            have hs4 : G ≤ x4.heap.size := Nat.le_trans hs3 hgs
            have hX4 := hX3.below hgb hXG
            have hT4 := hgT _ _ _ hT3 (by decide)
            refine hK'.out _ _ hX4 (fun hHeld => ?_)
            clear hK' K'
            try simp only [Act.put, sArr, sZ, sS]
            refine wpAnyH_ready (rs := [7]) (by kernel_rfl) (by simp) (cons_l rfl (fun K' hK' => ?_) AllReadyH.nil)
            rw [if_pos (by rfl)]
            go_simp
            go_at_call 8
            refine (CCom ao1 cap1 x4 hR4 hc1).out.mono ?_
            rintro e x5 ⟨rfl, hbx⟩
            have hG5 : Below G wc x5 := hG4.trans (hbx.mono hs4)
            have hs5 : G ≤ x5.heap.size := Nat.le_trans hs4 hbx.size
            have hX5 := hX4.below hbx hX4.lt
            have hT5 := hT4.below hbx hT4.lt
            refine hK'.out _ _ hX5 (fun hHeld => ?_)
            clear hK' K'
            try simp only [Act.put, sArr, sZ, sS]
            refine tkP 8 rfl (by assumption) ⟨?_, ?_, ?_⟩
            rotate_left
            · intro w hSw; (try dsimp only at hSw); go_simp; (try with_reducible rfl)
            try simp only [Act.put, sArr, sZ, sS]
            refine tkP 9 rfl (by assumption) ⟨?_, ?_, ?_⟩
            rotate_left
            · intro w hSw; (try dsimp only at hSw); go_simp; (try with_reducible rfl)
            try simp only [Act.put, sArr, sZ, sS]
            refine tkP 10 rfl (by assumption) ⟨?_, ?_, ?_⟩
            rotate_left
            · intro w hSw; (try dsimp only at hSw); go_simp; (try with_reducible rfl)
            try simp only [Act.put, sArr, sZ, sS]
            refine wpAnyH_ready (rs := [12]) (by kernel_rfl) (by simp) (cons_l rfl (fun K' hK' => ?_) AllReadyH.nil)
            refine step_storeV rfl 23 _ _ rfl 23 (gT) rfl SV rfl 32 aggKey HSL.out Z hT5 hZl HS1.out ?_
            intro x6 hT6 hbx hsx
            have hG6 : Below G wc x6 := hG5.trans (hbx.mono hgT0)
            have hX6 := hX5.below hbx (Nat.lt_of_lt_of_le hXG hgT0)
            refine hK'.out _ _ hX6 (fun hHeld => ?_)
            clear hK' K'
            try simp only [Act.put, sArr, sZ, sS]
            refine tkP 13 rfl (by assumption) ⟨?_, ?_, ?_⟩
            rotate_left
            · intro w hSw; (try dsimp only at hSw); go_simp; (try with_reducible rfl)
            try simp only [Act.put, sArr, sZ, sS]
            refine wpAnyH_done (by kernel_rfl) ?_ _
            clear hHeld
            go_wp2_with fail
            go_meet
            exact ⟨_, rfl, rfl, hT6, hG6⟩
        · obtain ⟨gT, HgT⟩ : ∃ g, Hid (g = wc.drew.heap.size) := ⟨_, rfl⟩
          refine step_allocV rfl 23 rfl Z HZ0.out gT HgT.out.symm ?_
          intro x1 hT1 hbx hsx
          rw [HgT.out] at hbx
          have hgT0 : G ≤ gT := by rw [HgT.out]; exact hs0
          clear hsx
          have hG1 : Below G wc x1 := hG0.trans (hbx.mono hs0)
          have hs1 : G ≤ x1.heap.size := Nat.le_trans hs0 hbx.size
          have hX1 := hX0.below hbx hX0.lt
          refine hK'.out _ _ hX1 (fun hHeld => ?_)
          clear hK' K'
          try simp only [Act.put, sArr, sZ, sS]
          refine wpAnyH_ready (rs := [3, 5]) (by kernel_rfl) (by simp) (cons_l rfl (fun K' hK' => ?_) (cons_l rfl (fun K' hK' => ?_) AllReadyH.nil))
          · rw [if_pos (by rfl)]
            go_simp
            go_at_call 10
            refine (CClD gz o1 c1 j1 x1 (RowB.row (hZ.below hG1 hZG)) Hj1.out HO1.out).out.mono ?_
            rintro e x2 ⟨v1, rfl, hM2', hbx⟩
            have hM2 := hM2'.mono hs1
            have hG2 : Below G wc x2 := hG1.trans (hbx.mono hs1)
            have hs2 : G ≤ x2.heap.size := Nat.le_trans hs1 hbx.size
            have hX2 := hX1.below hbx hX1.lt
            have hT2 := hT1.below hbx hT1.lt
            refine hK'.out _ _ hX2 (fun hHeld => ?_)
            clear hK' K'
            try simp only [Act.put, sArr, sZ, sS]
            refine wpAnyH_ready (rs := [5]) (by kernel_rfl) (by simp) (cons_l rfl (fun K' hK' => ?_) AllReadyH.nil)
            obtain ⟨gL, HgL⟩ : ∃ g, Hid (g = x2.heap.size) := ⟨_, rfl⟩
            refine step_slice1 rfl 29 41 _ rfl Try.underlying29 49 sh0.cs (by kernel_rfl) sh0_len (by decide) (by decide) AC rfl HACl.out gL HgL.out.symm ?_
            intro x3 hL3 hbx hsx
            rw [HgL.out] at hbx
            clear hsx
            have hG3 : Below G wc x3 := hG2.trans (hbx.mono hs2)
            have hs3 : G ≤ x3.heap.size := Nat.le_trans hs2 hbx.size
            have hX3 := hX2.below hbx hX2.lt
            have hM3 := hM2.belowAll hbx
            have hT3 := hT2.below hbx hT2.lt
            refine hK'.out _ _ hX3 (fun hHeld => ?_)
            clear hK' K'
            try simp only [Act.put, sArr, sZ, sS]
            refine wpAnyH_ready (rs := [6]) (by kernel_rfl) (by simp) (cons_l rfl (fun K' hK' => ?_) AllReadyH.nil)
            refine step_appendT rfl _ _ 29 rfl 41 (.agg sh0.cs.toArray) 49 88 Try.underlying29 infoS rfl (by decide) G v1 j1 FD rfl hM3 (some ⟨gL, 0, none⟩) 1 1 rfl (fun h => by cases h) AC (by rw [HACl.out]) (RowB.row (t := 41) ⟨AC, hL3, by rw [List.take_length]⟩) HAC1.out (by unfold maxLen; omega) (by omega) hs3 k Hj1k.out.symm ?_
            intro ao1 cap1 x4 hc1 hR4 hgb hgs hgT
            have hG4 : Below G wc x4 := hG3.trans hgb
            have hs4 : G ≤ x4.heap.size := Nat.le_trans hs3 hgs
            have hX4 := hX3.below hgb hXG
            have hT4 := hgT _ _ _ hT3 (by decide)
            refine hK'.out _ _ hX4 (fun hHeld => ?_)
            clear hK' K'
            try simp only [Act.put, sArr, sZ, sS]
            refine wpAnyH_ready (rs := [7]) (by kernel_rfl) (by simp) (cons_l rfl (fun K' hK' => ?_) AllReadyH.nil)
            rw [if_pos (by rfl)]
            go_simp
            go_at_call 8
            refine (CCom ao1 cap1 x4 hR4 hc1).out.mono ?_
            rintro e x5 ⟨rfl, hbx⟩
            have hG5 : Below G wc x5 := hG4.trans (hbx.mono hs4)
            have hs5 : G ≤ x5.heap.size := Nat.le_trans hs4 hbx.size
            have hX5 := hX4.below hbx hX4.lt
            have hT5 := hT4.below hbx hT4.lt
            refine hK'.out _ _ hX5 (fun hHeld => ?_)
            clear hK' K'
            try simp only [Act.put, sArr, sZ, sS]
            refine tkP 8 rfl (by assumption) ⟨?_, ?_, ?_⟩
            rotate_left
            · intro w hSw; (try dsimp only at hSw); go_simp; (try with_reducible rfl)
            try simp only [Act.put, sArr, sZ, sS]
            refine tkP 9 rfl (by assumption) ⟨?_, ?_, ?_⟩
            rotate_left
            · intro w hSw; (try dsimp only at hSw); go_simp; (try with_reducible rfl)
            try simp only [Act.put, sArr, sZ, sS]
            refine tkP 10 rfl (by assumption) ⟨?_, ?_, ?_⟩
            rotate_left
            · intro w hSw; (try dsimp only at hSw); go_simp; (try with_reducible rfl)
            try simp only [Act.put, sArr, sZ, sS]
            refine wpAnyH_ready (rs := [12]) (by kernel_rfl) (by simp) (cons_l rfl (fun K' hK' => ?_) AllReadyH.nil)
            refine step_storeV rfl 23 _ _ rfl 23 (gT) rfl SV rfl 32 aggKey HSL.out Z hT5 hZl HS1.out ?_
            intro x6 hT6 hbx hsx
            have hG6 : Below G wc x6 := hG5.trans (hbx.mono hgT0)
            have hX6 := hX5.below hbx (Nat.lt_of_lt_of_le hXG hgT0)
            refine hK'.out _ _ hX6 (fun hHeld => ?_)
            clear hK' K'
            try simp only [Act.put, sArr, sZ, sS]
            refine tkP 13 rfl (by assumption) ⟨?_, ?_, ?_⟩
            rotate_left
            · intro w hSw; (try dsimp only at hSw); go_simp; (try with_reducible rfl)
            try simp only [Act.put, sArr, sZ, sS]
            refine wpAnyH_done (by kernel_rfl) ?_ _
            clear hHeld
            go_wp2_with fail
            go_meet
            exact ⟨_, rfl, rfl, hT6, hG6⟩
          · obtain ⟨gL, HgL⟩ : ∃ g, Hid (g = x1.heap.size) := ⟨_, rfl⟩
            refine step_slice1 rfl 29 41 _ rfl Try.underlying29 49 sh0.cs (by kernel_rfl) sh0_len (by decide) (by decide) AC rfl HACl.out gL HgL.out.symm ?_
            intro x2 hL2 hbx hsx
            rw [HgL.out] at hbx
            clear hsx
            have hG2 : Below G wc x2 := hG1.trans (hbx.mono hs1)
            have hs2 : G ≤ x2.heap.size := Nat.le_trans hs1 hbx.size
            have hX2 := hX1.below hbx hX1.lt
            have hT2 := hT1.below hbx hT1.lt
            refine hK'.out _ _ hX2 (fun hHeld => ?_)
            clear hK' K'
            try simp only [Act.put, sArr, sZ, sS]
            refine wpAnyH_ready (rs := [3]) (by kernel_rfl) (by simp) (cons_l rfl (fun K' hK' => ?_) AllReadyH.nil)
            rw [if_pos (by rfl)]
            go_simp
            go_at_call 10
            refine (CClD gz o1 c1 j1 x2 (RowB.row (hZ.below hG2 hZG)) Hj1.out HO1.out).out.mono ?_
            rintro e x3 ⟨v1, rfl, hM3', hbx⟩
            have hM3 := hM3'.mono hs2
            have hG3 : Below G wc x3 := hG2.trans (hbx.mono hs2)
            have hs3 : G ≤ x3.heap.size := Nat.le_trans hs2 hbx.size
            have hX3 := hX2.below hbx hX2.lt
            have hL3 := hL2.below hbx hL2.lt
            have hT3 := hT2.below hbx hT2.lt
            refine hK'.out _ _ hX3 (fun hHeld => ?_)
            clear hK' K'
            try simp only [Act.put, sArr, sZ, sS]
            refine wpAnyH_ready (rs := [6]) (by kernel_rfl) (by simp) (cons_l rfl (fun K' hK' => ?_) AllReadyH.nil)
            refine step_appendT rfl _ _ 29 rfl 41 (.agg sh0.cs.toArray) 49 88 Try.underlying29 infoS rfl (by decide) G v1 j1 FD rfl hM3 (some ⟨gL, 0, none⟩) 1 1 rfl (fun h => by cases h) AC (by rw [HACl.out]) (RowB.row (t := 41) ⟨AC, hL3, by rw [List.take_length]⟩) HAC1.out (by unfold maxLen; omega) (by omega) hs3 k Hj1k.out.symm ?_
            intro ao1 cap1 x4 hc1 hR4 hgb hgs hgT
            have hG4 : Below G wc x4 := hG3.trans hgb
            have hs4 : G ≤ x4.heap.size := Nat.le_trans hs3 hgs
            have hX4 := hX3.below hgb hXG
            have hT4 := hgT _ _ _ hT3 (by decide)
            refine hK'.out _ _ hX4 (fun hHeld => ?_)
            clear hK' K'
            try simp only [Act.put, sArr, sZ, sS]
            refine wpAnyH_ready (rs := [7]) (by kernel_rfl) (by simp) (cons_l rfl (fun K' hK' => ?_) AllReadyH.nil)
            rw [if_pos (by rfl)]
            go_simp
            go_at_call 8
            refine (CCom ao1 cap1 x4 hR4 hc1).out.mono ?_
            rintro e x5 ⟨rfl, hbx⟩
            have hG5 : Below G wc x5 := hG4.trans (hbx.mono hs4)
            have hs5 : G ≤ x5.heap.size := Nat.le_trans hs4 hbx.size
            have hX5 := hX4.below hbx hX4.lt
            have hT5 := hT4.below hbx hT4.lt
            refine hK'.out _ _ hX5 (fun hHeld => ?_)
            clear hK' K'
            try simp only [Act.put, sArr, sZ, sS]
            refine tkP 8 rfl (by assumption) ⟨?_, ?_, ?_⟩
            rotate_left
            · intro w hSw; (try dsimp only at hSw); go_simp; (try with_reducible rfl)
            try simp only [Act.put, sArr, sZ, sS]
            refine tkP 9 rfl (by assumption) ⟨?_, ?_, ?_⟩
            rotate_left
            · intro w hSw; (try dsimp only at hSw); go_simp; (try with_reducible rfl)
            try simp only [Act.put, sArr, sZ, sS]
            refine tkP 10 rfl (by assumption) ⟨?_, ?_, ?_⟩
            rotate_left
            · intro w hSw; (try dsimp only at hSw); go_simp; (try with_reducible rfl)
            try simp only [Act.put, sArr, sZ, sS]
            refine wpAnyH_ready (rs := [12]) (by kernel_rfl) (by simp) (cons_l rfl (fun K' hK' => ?_) AllReadyH.nil)
            refine step_storeV rfl 23 _ _ rfl 23 (gT) rfl SV rfl 32 aggKey HSL.out Z hT5 hZl HS1.out ?_
            intro x6 hT6 hbx hsx
            have hG6 : Below G wc x6 := hG5.trans (hbx.mono hgT0)
            have hX6 := hX5.below hbx (Nat.lt_of_lt_of_le hXG hgT0)
            refine hK'.out _ _ hX6 (fun hHeld => ?_)
            clear hK' K'
            try simp only [Act.put, sArr, sZ, sS]
            refine tkP 13 rfl (by assumption) ⟨?_, ?_, ?_⟩
            rotate_left
            · intro w hSw; (try dsimp only at hSw); go_simp; (try with_reducible rfl)
            try simp only [Act.put, sArr, sZ, sS]
            refine wpAnyH_done (by kernel_rfl) ?_ _
            clear hHeld
            go_wp2_with fail
            go_meet
            exact ⟨_, rfl, rfl, hT6, hG6⟩
      case rest =>
        obtain ⟨gT, rfl, rfl, hTd, hGd⟩ := hcut
        obtain ⟨wd, rfl⟩ : ∃ z, z = wc := ⟨_, rfl⟩
        have hSd := hSc.below hGd hSG
        have hHd := hHc.below hGd hHG
        have hZd := hZc.below hGd hZG
        have bbd : Below B w wd := bbc.trans (hGd.mono hBG)
        clear hSc hHc hZc hXc bbc hGd
        have aTd := hTd.at0
        have aSd := hSd.at0
        go_upto_region 23 with fail
        go_cut [159] from 140 to 159 (fun b wx => b = .bool false ∧ wx = wd)
        case first =>
          by_cases h1k : 1 < k
          · have hk2 : (1 : Int) < (k : Int) := by omega
            have hk3 : decide ((1 : Int) < (k : Int)) = true := decide_eq_true hk2
            go_wp2_with (first | (refine wl_neqD 152 rfl (by kernel_rfl) 23 _ _ _ rfl SV.toArray SV.toArray rfl rfl true (HEQ.out _) (by kernel_rfl) false rfl ?_) | (refine wl_loadG (by kernel_rfl) 23 _ rfl ⟨B, 0, none⟩ rfl 32 SV HSL.out aggKey aSd ?_) | (refine wl_loadG (by kernel_rfl) 23 _ rfl ⟨gT, 0, none⟩ rfl 32 SV HSL.out aggKey aTd ?_))
            go_meet
            exact ⟨rfl, rfl⟩
          · have hk2 : ¬ (1 : Int) < (k : Int) := by omega
            have hk3 : decide ((1 : Int) < (k : Int)) = false := decide_eq_false hk2
            go_wp2_with fail
            go_meet
            exact ⟨rfl, rfl⟩
        case rest =>
          obtain ⟨rfl, rfl⟩ := hcut
          clear aTd aSd hTd
          obtain ⟨wd, rfl⟩ : ∃ z, z = wc := ⟨_, rfl⟩
          go_wp2_with (go_at_call 10; refine (CClN _ _ _ hZd.row).out.mono ?_; rintro e wf ⟨gC, cC, rfl, hgC, hcC, hCf, hbf⟩)
          have hSf := hSd.below hbf hSd.lt
          have hHf := hHd.below hbf hHd.lt
          obtain ⟨Gd, HGd⟩ : ∃ G, Hid (G = wd.heap.size) := ⟨_, rfl⟩
          rw [← HGd.out] at hgC hbf
          have hBGd : B ≤ Gd := by rw [HGd.out]; have := bbd.size; omega
          have hSGd : B < Gd := by rw [HGd.out]; exact hSd.lt
          have hHGd : gh < Gd := by rw [HGd.out]; exact hHd.lt
          have bbf : Below B w wf := bbd.trans (hbf.mono hBGd)
          clear hSd hHd hZd bbd hbf HGd
          obtain ⟨D, HD⟩ : ∃ D, Hid (D = wf.heap.size) := ⟨_, rfl⟩
          have hCD : gC < D := by rw [HD.out]; exact hCf.lt
          obtain ⟨wg, HWG⟩ : ∃ n : Nat, Hid (n = (k - m) / 2) := ⟨_, rfl⟩
          have hsbm : RowKit.wrap64 ((k : Int) - (m : Int)) = ((k - m : Nat) : Int) := by have := HMN.out; have := HN7.out; unfold RowKit.wrap64; omega
          have hdv : ((k : Int) - (m : Int)).tdiv 2 = (wg : Int) := by have := HMN.out; rw [Int.tdiv_eq_ediv_of_nonneg (by omega), HWG.out]; omega
          clear hsbm
          have hBn0 : Hid (Bent k P [] L) := hid (by rw [HLL.out]; exact bent_start P k)
          rw [HFL.out] at hCf
          have hwgk : wg ≤ 7 := by rw [HWG.out]; have := HN7.out; omega
          have HDl := hid hCD
          go_loopw [30, 164] (fun o i wr => ∃ (q : Nat) (ks : List Nat) (b : List Sh) (ao : Option Addr) (cy c : Nat), q ≤ nf ∧ i = .int .i64 q ∧ o = .slice ao c cy ∧ Hid (c = ks.length) ∧ Hid (Bent k P ks b) ∧ Hid ks.Nodup ∧ c ≤ wg ∧ RowB 41 wr gC (flatS b) ∧ wr.ownsRow D 28 16 (.slice ao c cy) c (flatN ks) ∧ Below Gd wf wr ∧ D ≤ wr.heap.size) (fun _ i _ => nf - (intOf i).toNat)
          case atStart => exact ⟨0, [], L, none, 0, 0, Nat.zero_le _, rfl, rfl, rfl, hBn0, List.nodup_nil, Nat.zero_le _, hCf, World.ownsRow_nil _ _ _ _, Below.refl _ _, by rw [HD.out]; exact Nat.le_refl _⟩
          case round =>
            clear hCf
            obtain ⟨q, ks, b, ao, cy, c, hq, rfl, rfl, HC, HBn, HND, hcw, hCr, hO, hbl, hDr⟩ := hrel
            have bwr : Below B w wr := bbf.trans (hbl.mono hBGd)
            have hSr := hSf.below hbl hSGd
            have hHr := hHf.below hbl hHGd
            have HOV : RowV wr ao (flatN ks) := by
              obtain ⟨ao', c', hv, _, h⟩ := Mine.row (Or.inl hO)
              cases hv; exact h
            by_cases h0 : q < nf
            · have hqI : (q : Int) < (nf : Int) := by omega
              have hqI0 : (0 : Int) ≤ (q : Int) := by omega
              obtain ⟨bf, off, v, rfl, hbf, HV, cV⟩ := (hF.below (by rw [hsz]; exact bwr)).elem (i := q) (by rw [← HFN.out]; exact h0)
              obtain ⟨u, p, hu, hub, hpk, hut, hpw⟩ := remU k v (by omega) (by have := HN7.out; omega)
              have hpI : (p : Int) < (k : Int) := by omega
              have hpI0 : (0 : Int) ≤ (p : Int) := by omega
              have hku : IntKind.u64.wrap (k : Int) = (k : Int) := by have := HN7.out; show (k : Int) % 18446744073709551616 = _; omega
              have hk0 : ¬ ((k : Int) = 0) := by omega
              obtain ⟨CI, HCI⟩ : ∃ V, Hid (V = (idN p).map (Value.int .u8)) := ⟨_, rfl⟩
              have hCl : CI.length = 16 := by rw [HCI.out, List.length_map]; exact idN_length p
              have aH : At wr ⟨gh, p * 16, none⟩ CI := by
                obtain ⟨b', o', he, _, h⟩ := rowN_at hHr.row (k := p) (by simpa using hpk)
                have he := Option.some.inj he
                injection he with e1 e2
                subst e1 e2
                rw [show (List.range k).getD p 0 = p by simp [List.getD_eq_getElem?_getD, hpk], Nat.zero_add, ← HCI.out] at h
                exact h
              have hcB : c ≤ 4611686018427387904 := by omega
              obtain ⟨ct, HCT⟩ : ∃ r, Hid (r = ks.contains p) := ⟨_, rfl⟩
              by_cases he : c = wg
              · have heI : (c : Int) = (wg : Int) := by omega
                have heB : ((c : Int) == (wg : Int)) = true := by simp [heI]
                clear HOV aH
                go_wp2_with fail
                go_roundw
                case rel => exact ⟨q + 1, ks, b, ao, cy, c, by omega, by go_num, rfl, HC, HBn, HND, hcw, hCr, hO, hbl, hDr⟩
                case measure => simp [intOf] <;> omega
              · have heI : ¬ ((c : Int) = (wg : Int)) := by omega
                have heB : ((c : Int) == (wg : Int)) = false := beq_eq_false_iff_ne.2 heI
                have hDO : ∀ z, Below wr.heap.size wr z → z.ownsRow D 28 16 (.slice ao c cy) c (flatN ks) := fun z hz => owns_up hO hz
                have hGdr : Gd ≤ wr.heap.size := by omega
                cases ct
                · by_cases hnb : nb = 0
                  · have hnI : (nb : Int) = 0 := by omega
                    have hnB : ((nb : Int) == 0) = true := by simp [hnI]
                    clear hnI hnb
                    go_wp2_with (first | (refine wl_loadG (by kernel_rfl) 28 _ rfl ⟨gh, p * 16, none⟩ rfl 16 CI hCl aggI aH ?_) | (go_at_call 11; refine (Contains_id ao cy c ks p wr HC.out HOV hcB CI HCI false HCT).mono ?_; rintro e v1 ⟨rfl, hbv⟩))
                    go_roundw
                    case rel => exact ⟨q + 1, ks, b, ao, cy, c, by omega, by go_num, rfl, HC, HBn, HND, hcw, hCr.below hbv hCr.lt, hDO _ hbv, hbl.trans (hbv.mono hGdr), by have := hbv.size; omega⟩
                    case measure => simp [intOf] <;> omega
                  · have hnI : ¬ ((nb : Int) = 0) := by omega
                    have hnB : ((nb : Int) == 0) = false := beq_eq_false_iff_ne.2 hnI
                    obtain ⟨r, hr⟩ : ∃ r, r = q % nb := ⟨_, rfl⟩
                    have hrn : r < nb := by rw [hr]; exact Nat.mod_lt _ (by omega)
                    have hrm : (q : Int).tmod (nb : Int) = (r : Int) := by rw [hr, Int.tmod_eq_emod_of_nonneg (by omega)]; omega
                    have hrI : (r : Int) < (nb : Int) := by omega
                    have hrI0 : (0 : Int) ≤ (r : Int) := by omega
                    clear hr
                    have hYr := hY.below (by rw [hsz]; exact bwr)
                    obtain ⟨by_, offy, v2, rfl, hby, HV2, cV2⟩ := hYr.elem (i := r) (by rw [← HYN.out]; exact hrn)
                    obtain ⟨u2, o, hu2, hub2, ho, hut2, how⟩ := remU 32 v2 (by decide) (by decide)
                    have hut3 : u2.tmod 32 = (o : Int) := hut2
                    have hoI : (o : Int) < 32 := by omega
                    have hoI0 : (0 : Int) ≤ (o : Int) := by omega
                    obtain ⟨d, hd0, hd1, hud, hdw⟩ := u256 u hub
                    have HLy := HBn.out.lay
                    obtain ⟨y, Hy⟩ : ∃ y, Hid (y = (b.getD p nil).y.getD o 0) := ⟨_, rfl⟩
                    have hyb : 0 ≤ y ∧ y ≤ 256 := by rw [Hy.out]; exact HLy.yb p hpk o ho
                    have hy0 := hyb.1
                    have hy1 := hyb.2
                    have hBA := hid (bend_at HLy (by have := HN7.out; omega) hpk ho)
                    rw [← Hy.out] at hBA
                    obtain ⟨Y, HYY⟩ : ∃ Y, Hid (Y = (y + 1 + d) % 257) := ⟨_, rfl⟩
                    have hya : IntKind.u16.wrap (y + 1) = y + 1 := IntWalk.u16_in _ (by omega)
                    have hyc : IntKind.u16.wrap (y + 1 + d) = y + 1 + d := IntWalk.u16_in _ (by omega)
                    have hym : (y + 1 + d).tmod 257 = Y := by rw [HYY.out]; exact Int.tmod_eq_emod_of_nonneg (by omega)
                    have hsz16 : (Try.prog.info? 38).map (·.size) = some 1 := by kernel_rfl
                    have hBS := hid (bent_step (k := p) (o := o) (v := Y) HBn.out hpk (by have := HCT.out; simpa using this.symm) ho (by rw [HYY.out]; exact (bend_ne hyb ⟨hd0, hd1⟩).1) (by rw [← Hy.out, HYY.out]; exact (bend_ne hyb ⟨hd0, hd1⟩).2))
                    have hBF := hid (bend_flat HLy (by have := HN7.out; omega) hpk ho Y)
                    have hnp : p ∉ ks := by have := HCT.out; simpa using this.symm
                    have hND2 : Hid (ks ++ [p]).Nodup := hid (by
                      rw [List.nodup_append]
                      exact ⟨HND.out, by simp, fun x hx z hz => by rw [List.mem_singleton.1 hz]; intro e; exact hnp (e ▸ hx)⟩)
                    have hCl1 : ∀ u ∈ CI, u.oneCell' = true := by rw [HCI.out]; exact ints_one _ _
                    clear HLy hnp hyb
                    go_wp2_with (first | (refine wl_loadG (by kernel_rfl) 28 _ rfl ⟨gh, p * 16, none⟩ rfl 16 CI hCl aggI aH ?_) | (go_at_call 11; refine (Contains_id ao cy c ks p wr HC.out HOV hcB CI HCI false HCT).mono ?_; rintro e v1 ⟨rfl, hbv⟩; have cY2 := (hbv.cell (p := ⟨by_, offy + r, none⟩) hby).trans cV2; have hCv := hCr.below hbv hCr.lt; have cY := hCv.cell hBA.out; have fY := hCv.frozen (p * 49 + (17 + o)); rw [← Nat.add_assoc] at cY fY))
                    obtain ⟨cur, hcu, hct⟩ := hCv
                    have hcl : p * 49 + 17 + o < cur.length := by
                      have h1 : (cur.take (flatS b).length).length = (flatS b).length := by rw [hct]
                      have h2 := flatS_length b (HBn.out.lay.ok (by omega))
                      rw [List.length_take, h2, HBn.out.lay.len] at h1
                      omega
                    have hgh1 : gh < wr.heap.size := hHr.lt
                    have aH1 : At v1.drew ⟨gh, p * 16, none⟩ CI := at_below aH hbv.drew hgh1
                    have hO1 : v1.drew.ownsRow D 28 16 (.slice ao c cy) c (flatN ks) := hDO v1 hbv
                    have bG1 : Below Gd wf v1.drew := (hbl.trans (hbv.mono hGdr)).drew
                    have hv1s : Gd ≤ v1.drew.heap.size := Nat.le_trans hGdr hbv.size
                    have hDv1 : D ≤ v1.drew.heap.size := Nat.le_trans hDr hbv.size
                    have hCd : BlkV 41 v1.drew gC cur := hcu
                    clear hcu hBA
                    refine wp_region_still_tail 20 (by kernel_rfl) (by kernel_rfl) ?_
                    simp only [List.take_succ_cons, List.take_zero, List.drop_succ_cons, List.drop_zero]
                    change wpStill _ _ v1.drew (fun a' => wpList _ _ _ _ a' v1.drew) _ _
                    repeat still_step
                    refine wpStill_nil ?_
                    obtain ⟨v2', Hv2⟩ : ∃ z, Hid (z = v1.drew) := ⟨_, rfl⟩
                    rw [← Hv2.out] at aH1 hO1 bG1 hv1s hDv1 hCd ⊢
                    have hcr : c + 1 ≤ 8 := by omega
                    have hDg : ∀ g, (Value.slice ao c cy).ownBlock = some g → D ≤ g := fun g e => (hO1.lt g e).1
                    have hcut : (cur.set (p * 49 + 17 + o) (.int .u16 Y)).take (flatS (b.set p (bendY (b.getD p nil) o Y))).length = flatS (b.set p (bendY (b.getD p nil) o Y)) := by
                      rw [← hBF.out, List.length_set, List.take_set, hct, Nat.add_assoc]
                    have HCUT := hid hcut
                    have HSN := hid (flatN_snoc ks p)
                    rw [← HCI.out] at HSN
                    clear hcut hct
                    refine wl_setV rfl 38 _ _ rfl 41 gC (p * 49 + 17 + o) rfl (.int .u16 Y) rfl rfl rfl hsz16 cur hCd hcl ?_
                    intro v3 hC3 hg3 hs3
                    have aH3 := At.kept aH1 hg3 (by intro e; have : gh = gC := Option.some.inj e; omega)
                    have hO3 := hO1.kept hg3 (by
                      by_cases e0 : (Value.slice ao c cy).ownBlock = none
                      · exact Or.inl e0
                      · right; intro e2; have := hDg gC e2; omega)
                    have bG3 := bG1.grown hg3 hv1s (fun g e => by have : gC = g := Option.some.inj e; omega)
                    have hs3' := hg3.size
                    go_wp2_with (first | (at_builtin; refine wl_push rfl _ _ 26 rfl 28 (.agg idZ.toArray) 16 16 Try.underlying26 infoI (by simp [idZ, Value.cells]) (by decide) D _ c _ rfl (owns_up hO3 hbL) ⟨v3.heap.size, 0, none⟩ 1 1 rfl CI (by rw [hCl]) hL.at0 hCl1 (by unfold maxLen; omega) (by omega) (by have := hbL.size; omega) (c + 1) rfl ?_; intro ao' cap' v5 hc5 hO5 hg5 hv5) | (refine wl_slice1 rfl 26 28 _ rfl Try.underlying26 16 idZ (by kernel_rfl) rfl (by decide) (by decide) CI rfl hCl v3.heap.size rfl ?_; intro v4 hL hbL hsL) | (refine wl_load rfl 28 _ rfl ⟨gh, p * 16, none⟩ rfl CI (by rw [hCl]; exact aggI) aH3 ?_; clear aH3))
                    have bG4 := (bG3.trans (hbL.mono (by omega))).grown hg5 (by have := hbL.size; omega) (fun g e => by have := hDg g e; omega)
                    have hC4 : RowB 41 v4 gC (flatS (b.set p (bendY (b.getD p nil) o Y))) := RowB.below ⟨_, hC3, HCUT.out⟩ hbL hC3.lt
                    have hC5 := hC4.grown hg5 (by intro e; have := hDg gC e; omega)
                    rw [← HSN.out] at hO5
                    have hs5 : D ≤ v5.heap.size := by have := hg5.size; have := hbL.size; omega
                    have hlen : Hid (c + 1 = (ks ++ [p]).length) := hid (by rw [List.length_append, HC.out]; rfl)
                    have hcw1 : c + 1 ≤ wg := by omega
                    go_roundw
                    case rel => exact ⟨q + 1, ks ++ [p], b.set p (bendY (b.getD p nil) o Y), ao', cap', c + 1, by omega, by go_num, rfl, hlen, hBS, hND2, hcw1, hC5, hO5, bG4, hs5⟩
                    case measure => simp [intOf] <;> omega
                · go_wp2_with (first | (refine wl_loadG (by kernel_rfl) 28 _ rfl ⟨gh, p * 16, none⟩ rfl 16 CI hCl aggI aH ?_) | (go_at_call 11; refine (Contains_id ao cy c ks p wr HC.out HOV hcB CI HCI true HCT).mono ?_; rintro e v1 ⟨rfl, hbv⟩))
                  go_roundw
                  case rel => exact ⟨q + 1, ks, b, ao, cy, c, by omega, by go_num, rfl, HC, HBn, HND, hcw, hCr.below hbv hCr.lt, hDO _ hbv, hbl.trans (hbv.mono hGdr), by have := hbv.size; omega⟩
                  case measure => simp [intOf] <;> omega
            · clear HDl
              have hqn : ¬ ((q : Int) < (nf : Int)) := by omega
              have hks : ks.length ≤ (k - m) / 2 := by rw [← HC.out, ← HWG.out]; exact hcw
              obtain ⟨F, HF⟩ : ∃ F, Hid (F = (List.range k).filter fun i => ks.contains i) := ⟨_, rfl⟩
              have hFp : Hid (F.Perm ks) := hid (by rw [HF.out]; exact picked_perm HND.out HBn.out.lt)
              have hFc : F.length = c := by rw [hFp.out.length_eq, HC.out]
              have CM := CMen gC cC b ks wr HBn.out hks hCr.row
              rw [← HF.out, hFc] at CM
              obtain ⟨bs, Hbs⟩ : ∃ l, Hid (l = F.map fun i => b.getD i nil) := ⟨_, rfl⟩
              have hbl2 : Hid (c = bs.length) := hid (by rw [Hbs.out, List.length_map, hFc])
              have hbf2 : Hid (flatID bs = flatN F) := hid (by rw [Hbs.out]; exact flatN_ids HBn.out.lay F (fun i hi => HBn.out.lt i (hFp.out.mem_iff.1 hi)))
              have hb16 : Hid (∀ s ∈ bs, s.h.length = 16) := hid (by
                intro s hs
                rw [Hbs.out] at hs
                obtain ⟨i, hi, rfl⟩ := List.mem_map.1 hs
                rw [HBn.out.lay.hs i (HBn.out.lt i (hFp.out.mem_iff.1 hi))]
                exact idN_length i)
              rw [← Hbs.out] at CM
              have hids : Hid (∀ s ∈ ks.map idN, IdOk s) := hid (by
                intro s hs
                obtain ⟨i, hi, rfl⟩ := List.mem_map.1 hs
                exact ⟨idN_length i, idN_octs (by have := HBn.out.lt i hi; have := HN7.out; omega)⟩)
              have hidl : Hid (c = (ks.map idN).length) := hid (by rw [List.length_map]; exact HC.out)
              have hOg : ∀ g, (Value.slice ao c cy).ownBlock = some g → D ≤ g ∧ g < wr.heap.size := fun g e => hO.lt g e
              have HSI := fun l' hp hs => hid (sorted_ids (l' := l') HND.out HBn.out.lt hp hs)
              rw [← HF.out] at HSI
              have hc9 : c ≤ 1000000 := by omega
              clear hks hFc
              go_wp2_with (first | (go_at_call 16; refine (equal_ids am ao cm cy c bs wB hbl2.out hNB hRB hb16.out hc9).mono ?_; rintro e wC ⟨rfl, hbC⟩) | (refine wl_eqD 247 rfl (by kernel_rfl) 23 _ _ _ rfl SV.toArray SV.toArray rfl rfl true (HEQ.out _) (by kernel_rfl) ?_) | (refine wl_loadG (by kernel_rfl) 23 _ rfl ⟨B, 0, none⟩ rfl 32 SV HSL.out aggKey aSB ?_) | (refine wl_loadG (by kernel_rfl) 23 _ rfl ⟨w8.heap.size, 0, none⟩ rfl 32 SV HSL.out aggKey aTB ?_) | (go_at_call 13; refine (SortTop ao c cy (ks.map idN) hids.out wA D hOA hidl.out (by omega)).mono ?_; rintro e wB ⟨rfl, l', hp, hs, hRB, hgB⟩; have hsi := (HSI l' hp hs).out; subst hsi; rw [flatL_idN, ← hbf2.out] at hRB; have hSB := hSA.grown hgB (by intro e; have := hOg B e; omega); have hTB := hTA.grown hgB (by intro e; have := hOg _ e; omega); have hNB := named_kept hMA hgB (fun g e => (hOg g e).2); have bwB := bwA.grown hgB (by have := bwA.size; omega) (fun g e => by have := hOg g e; omega); have aTB := hTB.at0; have aSB := hSB.at0; clear hp hs) | (refine wl_storeV rfl 23 _ _ rfl 23 w8.heap.size rfl SV rfl 32 aggKey HSL.out Z hT9 hZl HS1.out ?_; intro wA hTA hbA hsA; have hbN : Below w8.heap.size w8 wA := hb9.trans hbA; have hSA := hS8.below hbN hS8.lt; have hOA := owns_up hO8 hbN; rw [← flatL_idN] at hOA; have hMA := hM8.belowAll hbN; have bwA := bw8.trans (hbN.mono (by have := bw8.size; omega)); clear hb9 hbA hbN hS8 hO8 hM8 bw8 hT9) | (refine wl_allocV rfl 23 rfl Z HZ0.out w8.heap.size rfl ?_; intro w9 hT9 hb9 hs9) | (go_at_call 12; refine CM.out.mono ?_; rintro e w8 ⟨am, cm, rfl, hM8, hb8⟩; have hS8 := hSr.below hb8 hSr.lt; have hO8 := owns_up hO hb8; have bw8 := bwr.trans (hb8.mono (by have := bwr.size; omega)); have hw8 := hb8.size; clear hb8 hSr hO))
              go_ret
              exact ⟨rfl, by rw [hsz]; exact bwB.trans (hbC.mono (by have := bwB.size; omega))⟩
end Go.Proofs.Ytbjmadcbhkeenaa.gs
