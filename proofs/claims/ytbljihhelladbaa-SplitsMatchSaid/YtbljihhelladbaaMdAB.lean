/-
  The law SharesAreMade for shares that are not right; its closure; slices.Equal at shares. Conditions: shares of the type's form.
-/
import Derived.Test.YtbljihhelladbaaAdd
import Derived.Test.YtbljihhelladbaaEqS
import Derived.Test.YtbljihhelladbaaSmA
/- slices.Equal at shares that are the same; the closure of the statement SharesAreMade; operations in a drawn region. Conditions: shares of the type's form. -/
namespace Go.Proofs.Ytbljihhelladbaa.shr
open Go.RowKit Go.Proofs.Ytbljihhelladbaa.sh Go.Proofs.Ytbljihhelladbaa.Fld
set_option linter.unusedSimpArgs false
set_option linter.unusedVariables false
set_option pp.maxSteps 6000

set_option maxRecDepth 100000 in
theorem equal_shares (ao bo : Option Addr) (c1 c2 n : Nat) (l : List Sh) (w : World) (hn' : n = l.length) (h1 : RowS w ao l) (h2 : RowS w bo l) (hok : ∀ s ∈ l, s.Ok) (hn : l.length ≤ 4611686018427387904) :
    Calls Try.prog 57 #[.slice ao n c1, .slice bo n c2] w fun e w' => e = .returned (.bool true) ∧ Below w.heap.size w w' := by
  subst hn'
  have HOK := hid hok
  clear hok
  go_enter Try.func57, Try.ntmps57
  go_wp2
  go_loopw [13] (fun i wr => ∃ k : Nat, k ≤ l.length ∧ i = .int .i64 k ∧ Below w.heap.size w wr) (fun i _ => l.length - (intOf i).toNat)
  case atStart => exact ⟨0, Nat.zero_le _, rfl, Below.refl _ _⟩
  case round =>
    obtain ⟨k, hk, rfl, hbl⟩ := hrel
    by_cases h0 : k < l.length
    · obtain ⟨b, off, s, rfl, hb, HS, hat⟩ := (h1.below hbl).elem (i := k) h0
      obtain ⟨b2, off2, t, rfl, hb2, HT, hat2⟩ := (h2.below hbl).elem (i := k) h0
      have hst : t = s := by rw [HS.out, HT.out]
      subst hst
      have hs : t.Ok := by rw [HS.out]; exact HOK.out _ (getD_mem l k h0)
      have HCL := hid hs.csl
      have heq := hid (fun w => by have := run_eq_share w t t hs hs; rwa [eqS_refl] at this)
      have hkI : (k : Int) < (l.length : Int) := by omega
      have hkI0 : (0 : Int) ≤ (k : Int) := by omega
      have a1 : At wr.drew ⟨b, off + k * 49, none⟩ t.cs := hat
      have a2 : At wr.drew ⟨b2, off2 + k * 49, none⟩ t.cs := hat2
      clear hat hat2
      go_wp2_with fail
      refine wp_region_still_tail 8 (by kernel_rfl) (by kernel_rfl) ?_
      simp only [List.take_succ_cons, List.take_zero, List.drop_succ_cons, List.drop_zero]
      change wpStill _ _ wr.drew (fun a' => wpList _ _ _ _ a' wr.drew) _ _
      iterate 3 still_step
      refine still_load (by kernel_rfl) 61 _ rfl ⟨b, off + k * 49, none⟩ rfl 49 t.cs HCL.out aggS a1 ?_
      iterate 3 still_step
      refine still_load (by kernel_rfl) 61 _ rfl ⟨b2, off2 + k * 49, none⟩ rfl 49 t.cs HCL.out aggS a2 ?_
      refine wpStill_nil ?_
      go_wp2_with (refine wl_neqD 24 rfl (by kernel_rfl) 61 _ _ _ rfl t.cs.toArray t.cs.toArray rfl rfl true (heq.out _) (by kernel_rfl) false rfl ?_)
      go_roundw
      case rel => exact ⟨k + 1, by omega, by go_num, hbl.drew⟩
      case measure => simp [intOf] <;> omega
    · go_wp2
      go_ret
      exact ⟨rfl, hbl⟩

set_option maxRecDepth 100000 in
theorem made1 (h : List Int) (x : Int) (t : Sh) (hhl : h.length = 16) (ht : t.Ok) (gx gh : Nat) (w : World) (cX : w.cell? ⟨gx, 0, none⟩ = some (.int .i64 x)) (hH : BlkV 57 w gh (h.map (Value.int .u8))) :
    Calls Try.prog 59 #[.agg t.cs.toArray, .pointer (some ⟨gx, 0, none⟩), .pointer (some ⟨gh, 0, none⟩)] w fun e w' => e = .returned (.bool (hit h x t)) ∧ Below w.heap.size w w' := by
  have hT0 : BlkV 61 (w.alloc (.cells t.cs.toArray 61)) w.heap.size t.cs := BlkV.new _ _ _ rfl
  have hS0 := hH.alloc (.cells t.cs.toArray 61)
  have cT := (hT0.cell 16).trans (cs_x t ht)
  have cX0 : (w.alloc (.cells t.cs.toArray 61)).cell? ⟨gx, 0, none⟩ = some (.int .i64 x) := by rw [World.cell?_alloc_lt _ _ _ (World.block_lt_of_cell? w _ cX)]; exact cX
  have aT := at_h ht hT0
  have aS := hS0.at0
  have heq := fun w => run_equalIn_ints (P := Try.prog) w 9998 57 5 16 .u8 Try.underlying57 Try.underlying5 (fun w => by kernel_rfl) t.h h ht.hl hhl
  have hb := (Below.refl w.heap.size w).alloc (Nat.le_refl _) (.cells t.cs.toArray 61)
  have HT1 : Hid ((t.h.map (Value.int .u8)).length = 16) := by show _ = _; rw [List.length_map]; exact ht.hl
  have HS1 : Hid ((h.map (Value.int .u8)).length = 16) := by show _ = _; rw [List.length_map]; exact hhl
  unfold hit
  generalize t.cs = T at *
  generalize t.h.map (Value.int .u8) = TH at *
  generalize h.map (Value.int .u8) = SH at *
  clear hS0 hT0 hH cX
  by_cases hx : t.x = x
  · have hx' : (t.x == x) = true := by simp [hx]
    have HX := hid hx'
    clear hx
    go_enter Try.func59, Try.ntmps59
    go_wp2
    go_ret
    exact ⟨rv (rb (by rw [HX.out]; rfl)), hb⟩
  · have hx' : (t.x == x) = false := by simp [hx]
    have HX := hid hx'
    clear hx
    go_enter Try.func59, Try.ntmps59
    go_wp2_with (first | (refine wl_loadG (by rfl) 57 _ rfl ⟨w.heap.size, 0, none⟩ rfl 16 TH HT1.out aggID aT ?_) | (refine wl_loadG (by rfl) 57 _ rfl ⟨gh, 0, none⟩ rfl 16 SH HS1.out aggID aS ?_))
    go_ret
    exact ⟨rv (rb (by rw [HX.out]; rfl)), hb⟩

set_option maxRecDepth 100000 in
theorem idxMade (caps : Array Value) (p : Sh → Bool) (ao : Option Addr) (cap n : Nat) (l : List Sh) (w : World) (hl : n = l.length) (hr : RowS w ao l) (hn : l.length ≤ 4611686018427387904) (hok : ∀ s ∈ l, s.Ok)
    (hf : ∀ i, i < l.length → ∀ w', Below w.heap.size w w' → Calls Try.prog 59 (#[.agg (l.getD i nil).cs.toArray] ++ caps) w' fun e w'' => e = .returned (.bool (p (l.getD i nil))) ∧ Below w'.heap.size w' w'') :
    Calls Try.prog 119 #[.slice ao n cap, .func (.func 59) #[] caps] w fun e w' => e = .returned (.int .i64 (slInt.findI p l 0)) ∧ Below w.heap.size w w' := by
  subst hl
  have HOK := hid hok
  clear hok
  go_enter Try.func119, Try.ntmps119
  go_wp2
  go_loopw [5, 8] (fun _ i wr => ∃ k : Nat, k ≤ l.length ∧ i = .int .i64 k ∧ Hid (slInt.findI p (l.drop k) k = slInt.findI p l 0) ∧ Below w.heap.size w wr) (fun _ i _ => l.length - (intOf i).toNat)
  case atStart => exact ⟨0, Nat.zero_le _, rfl, rfl, Below.refl _ _⟩
  case round =>
    obtain ⟨k, hk, rfl, HA, hbl⟩ := hrel
    by_cases h0 : k < l.length
    · obtain ⟨b, off, s, rfl, hb, HS, hat0⟩ := hr.elem (i := k) h0
      have hs : s.Ok := by rw [HS.out, getD_lt' l nil h0]; exact HOK.out _ (List.getElem_mem h0)
      have hat := At.belowB hat0 hbl hb
      have HCL := hid hs.csl
      have HD := slInt.findI_drop p l nil k h0
      rw [← HS.out, HA.out] at HD
      replace HD := hid HD
      have HF := hf k h0 _ hbl
      rw [← HS.out] at HF
      replace HF := hid HF
      clear hf hat0
      cases hc : p s
      · have HN := hid hc
        rw [hc] at HF
        clear hc
        go_wp2_with (first | (refine wl_loadG (by rfl) 61 _ rfl ⟨b, off + k * 49, none⟩ rfl 49 s.cs HCL.out aggS hat ?_) | (go_at_call 59; refine HF.out.mono ?_; rintro e w1 ⟨rfl, hb1⟩))
        go_roundw
        case rel => exact ⟨k + 1, by omega, by go_num, by show _ = _; rw [HD.out, if_neg (by rw [HN.out]; simp)], hbl.trans (hb1.mono hbl.size)⟩
        case measure => simp [intOf] <;> omega
      · have HN := hid hc
        rw [hc] at HF
        clear hc
        go_wp2_with (first | (refine wl_loadG (by rfl) 61 _ rfl ⟨b, off + k * 49, none⟩ rfl 49 s.cs HCL.out aggS hat ?_) | (go_at_call 59; refine HF.out.mono ?_; rintro e w1 ⟨rfl, hb1⟩))
        go_ret
        exact ⟨rv (ri (by rw [HD.out, if_pos HN.out])), hbl.trans (hb1.mono hbl.size)⟩
    · go_wp2
      go_ret
      exact ⟨rv (ri (by rw [← HA.out, List.drop_eq_nil_of_le (by omega)]; rfl)), hbl⟩

set_option maxRecDepth 100000 in
theorem conMade (caps : Array Value) (p : Sh → Bool) (ao : Option Addr) (cap n : Nat) (l : List Sh) (w : World) (hl : n = l.length) (hr : RowS w ao l) (hn : l.length ≤ 4611686018427387904) (hok : ∀ s ∈ l, s.Ok)
    (hf : ∀ i, i < l.length → ∀ w', Below w.heap.size w w' → Calls Try.prog 59 (#[.agg (l.getD i nil).cs.toArray] ++ caps) w' fun e w'' => e = .returned (.bool (p (l.getD i nil))) ∧ Below w'.heap.size w' w'') :
    Calls Try.prog 58 #[.slice ao n cap, .func (.func 59) #[] caps] w fun e w' => e = .returned (.bool (l.any p)) ∧ Below w.heap.size w w' := by
  subst hl
  have HF := hid (slInt.findI_any p l 0)
  have HI := hid (idxMade caps p ao cap l.length l w rfl hr hn hok hf)
  clear hf hok
  go_enter Try.func58, Try.ntmps58
  go_wp2_with (go_at_call 119; refine HI.out.mono ?_; rintro e w1 ⟨rfl, hb1⟩)
  go_ret
  exact ⟨rv (rb HF.out), hb1⟩
end Go.Proofs.Ytbljihhelladbaa.shr

/- The law SharesAreMade, walked for shares that are not right. Conditions: shares of the type's form, a holder and a seed of octets. -/
namespace Go.Proofs.Ytbljihhelladbaa.shr
set_option linter.unusedVariables false
open Go.RowKit Go.Proofs.Ytbljihhelladbaa.sh Go.Proofs.Ytbljihhelladbaa.Fld
set_option linter.unusedSimpArgs false
set_option pp.maxSteps 6000

theorem wl_eqD {P : Program} {w : World} {ops : Array Oper} {rest : List Oper} {o : Oper} {a : Act} {Q : Exit → Act → World → Prop} (d : Nat) (hd : o.dst = some d) (hgd : Region.wanted o (yielded ops a.tmps) = true) (ty ty2 : TypeId) (x y : Operand) (ho : o.op = .binOp .eql ty x y ty2)
    (A B : Array Value) (hx : a.eval x = .agg A) (hy : a.eval y = .agg B) (b : Bool) (he : (Op.equalIn 10000 ty (.agg A) (.agg B)).run P w = .ok b w) (hm : P.eqGuardType P.depth ty = false) (h : wpList P ops Q rest (a.put o.dst (.bool b)) w) : wpList P ops Q (o :: rest) a w := by
  refine wpList_step fun K hK' => ?_
  rw [if_pos hgd]
  unfold Oper.wp
  simp [execOp, ho, hx, hy, run_eqGuard_agg, run_eql_struct, hm, he, Result.andThen]
  exact hK' _ _ h

section
variable {need : Int} {ao : Option Addr} {cap : Nat} {l : List Sh} {w : World} (hr : RowS w ao l) (hok : ∀ s ∈ l, s.Ok) (hn : l.length ≤ 9223372036854775807) (hcap : l.length ≤ cap) (hmax : cap ≤ maxLen)
include hr hok hn hcap hmax
theorem Add_v (h : List Int) (x : Int) (hhl : h.length = 16) (hho : ∀ c ∈ h, 0 ≤ c ∧ c ≤ 255) (hxb : -9223372036854775808 ≤ x ∧ x ≤ 9223372036854775807) (HV SC : List Value) (A : Int) (h1 : Hid (HV = h.map (Value.int .u8))) (h2 : Hid (SC = (addS need l h x).cs)) (h3 : Hid (A = addE need l h x)) :
    Calls Try.prog 53 #[.int .i64 need, .slice ao l.length cap, .agg HV.toArray, .int .i64 x] w fun e w' => e = .returned (.tuple #[.agg SC.toArray, .int .i64 A]) ∧ Below w.heap.size w w' := by
  rw [h1.out, h2.out, h3.out]; exact Add_any need ao cap l h x w hr hok hn hcap hmax hhl hho hxb
end

set_option maxRecDepth 100000 in
set_option maxHeartbeats 4000000 in
theorem made_bad (need : Int) (ao : Option Addr) (cap : Nat) (l : List Sh) (h : List Int) (x : Int) (seed : List Int) (w : World) (hr : RowS w ao l) (hok : ∀ s ∈ l, s.Ok) (hn : l.length ≤ 9223372036854775807) (hcap : l.length ≤ cap) (hmax : cap ≤ maxLen) (hhl : h.length = 16) (hho : ∀ c ∈ h, 0 ≤ c ∧ c ≤ 255) (hxb : -9223372036854775808 ≤ x ∧ x ≤ 9223372036854775807) (hs : seed.length = 32) (hso : st.Octs seed) (hE : sharesE false need l ≠ 0) :
    Calls Try.prog 8 #[.int .i64 need, .slice ao l.length cap, .agg (h.map (Value.int .u8)).toArray, .int .i64 x, .agg (seed.map (Value.int .u8)).toArray] w fun e w' => e = .returned (.bool true) ∧ Below w.heap.size w w' := by
  have HOK := hid hok
  clear hok
  obtain ⟨E, HE⟩ : ∃ E, Hid (E = sharesE false need l) := ⟨_, rfl⟩
  have hEn : E ≠ 0 := by rw [HE.out]; exact hE
  have hEb : (E != 0) = true := by simp [hEn]
  have HZ := hid (fun w hr => Zero_bad need ao cap l seed w hr HOK.out hn E HE hEn)
  have HR := hid (fun w hr => Renew_bad need ao cap l seed w hr HOK.out hs hn E HE hEn)
  obtain ⟨S, HS⟩ : ∃ Z, Hid (Z = sh0.cs) := ⟨_, rfl⟩
  have HA1 : Hid (S = (addS need l h x).cs) := by show _ = _; rw [HS.out]; unfold addS; rw [if_neg]; unfold addE; rw [if_pos hE]; exact hE
  have HA2 : Hid (E = addE need l h x) := by show _ = _; rw [HE.out]; unfold addE; rw [if_pos hE]
  obtain ⟨HV, HHV⟩ : ∃ K, Hid (K = h.map (Value.int .u8)) := ⟨_, rfl⟩
  have HHL : Hid (HV.length = 16) := by show _ = _; rw [HHV.out, List.length_map]; exact hhl
  obtain ⟨KV, HKV⟩ : ∃ K, Hid (K = seed.map (Value.int .u8)) := ⟨_, rfl⟩
  have HKL : Hid (KV.length = 32) := by show _ = _; rw [HKV.out, List.length_map]; exact hs
  rw [← HKV.out] at HZ HR ⊢
  rw [← HHV.out]
  have HBU : Hid ((Try.prog.built 61 []) = some S.toArray) := by rw [HS.out]; exact builtS
  have HZ0 : Hid ((Try.prog.info? 61).map (·.zero) = some (some (.agg S.toArray))) := by rw [HS.out]; exact sh0_zero
  have HSL : Hid (S.length = 49) := by rw [HS.out]; exact sh0_len
  have hS1 : ∀ u ∈ S, u.oneCell' = true := by rw [HS.out]; exact cs_one _
  have hok0 : sh0.Ok := by rw [← secTo_zero []]; exact secTo_ok [] (fun c hc => by cases hc) 0 (by omega)
  have heq := hid (fun w => by have := run_eq_share w sh0 sh0 hok0 hok0; rwa [eqS_refl, ← HS.out] at this)
  have hb0 : Below w.heap.size w (((w.alloc (.cells HV.toArray 57)).alloc (.cells #[.int .i64 x] 3)).alloc (.cells KV.toArray 23)) := (((Below.refl _ _).alloc (Nat.le_refl _) _).alloc (by simp) _).alloc (by simp; omega) _
  have hH0 : BlkV 57 (((w.alloc (.cells HV.toArray 57)).alloc (.cells #[.int .i64 x] 3)).alloc (.cells KV.toArray 23)) w.heap.size HV := ((BlkV.new _ _ _ rfl).alloc _).alloc _
  have hX0 : BlkV 3 (((w.alloc (.cells HV.toArray 57)).alloc (.cells #[.int .i64 x] 3)).alloc (.cells KV.toArray 23)) (w.heap.size + 1) [.int .i64 x] := (BlkV.new _ _ [.int .i64 x] (by simp)).alloc _
  have hK0 : BlkV 23 (((w.alloc (.cells HV.toArray 57)).alloc (.cells #[.int .i64 x] 3)).alloc (.cells KV.toArray 23)) (w.heap.size + 2) KV := BlkV.new _ _ _ (by simp)
  have cX := hX0.cell 0
  have aH := hH0.at0
  clear hE
  go_enter Try.func8, Try.ntmps8
  go_wp2_with (first | (refine wl_load rfl 57 _ rfl ⟨w.heap.size, 0, none⟩ rfl HV (by rw [HHL.out]; exact aggID) aH ?_; clear aH) | (go_at_call 53; refine (Add_v (hr.below hb0) HOK.out hn hcap hmax h x hhl hho hxb HV S E HHV HA1 HA2).mono ?_; rintro e w1 ⟨rfl, hb1⟩; obtain ⟨N, HN⟩ : ∃ N, Hid (w1.heap.size = N) := ⟨_, rfl⟩; have hbw1 := hb0.trans (hb1.mono hb0.size); have hK1 := hK0.below hb1 hK0.lt; have hKN : w.heap.size + 2 < N := (by rw [← HN.out]; exact hK1.lt); clear hb0 hH0 hX0 hK0 cX hb1) | (refine wl_allocV rfl 61 rfl S HZ0.out N HN.out ?_; intro wA hA hbA hsA) | (refine wl_storeV rfl 61 _ _ rfl 61 N rfl S rfl 49 aggS HSL.out S hA HSL.out hS1 ?_; intro w2 hT2 hbC hsC; have hbC' := hbA.trans hbC; have hbw2 := hbw1.trans (hbC'.mono (by omega)); have hK2 := hK1.below hbC' (by omega); have aK2 := hK2.at0; clear hA hbA hbC hsA hK1 hbw1 hbC') | (refine wl_load rfl 23 _ rfl ⟨w.heap.size + 2, 0, none⟩ rfl KV (by rw [HKL.out]; exact aggKey) aK2 ?_; clear aK2) | (go_at_call 54; refine (HZ.out _ (hr.below hbw2)).mono ?_; rintro e w3 ⟨rfl, hb3⟩; have hbw3 := hbw2.trans (hb3.mono hbw2.size); have hK3 := hK2.below hb3 hK2.lt; have aK3 := hK3.at0; have hT3 := hT2.below hb3 hT2.lt; clear hK2 hT2 hb3 hbw2) | (refine wl_load rfl 23 _ rfl ⟨w.heap.size + 2, 0, none⟩ rfl KV (by rw [HKL.out]; exact aggKey) aK3 ?_; clear aK3) | (go_at_call 55; refine (HR.out _ (hr.below hbw3)).mono ?_; rintro e w4 ⟨rfl, hb4⟩; have hbw4 := hbw3.trans (hb4.mono hbw3.size); have hT4 := hT3.below hb4 hT3.lt; clear hK3 hT3 hb4 hbw3) | (go_at_call 30; refine (SharesError_v (hr.below hbw4) HOK.out hn hcap hmax false E HE).mono ?_; rintro e w5 ⟨rfl, hb5⟩; have hbw5 := hbw4.trans (hb5.mono hbw4.size); have hT5 := hT4.below hb5 hT4.lt; clear hT4 hb5 hbw4))
  refine (shares_any w5).mono ?_
  rintro e w6 ⟨rfl, hb6⟩
  have hbw6 := hbw5.trans (hb6.mono hbw5.size)
  have hT6 := hT5.below hb6 hT5.lt
  clear hT5 hb6 hbw5
  go_wp2_with fail
  refine (shares_any w6).mono ?_
  rintro e w7 ⟨rfl, hb7⟩
  have hbw7 := hbw6.trans (hb7.mono hbw6.size)
  have aT := (hT6.below hb7 hT6.lt).at0
  clear hT6 hb7 hbw6
  go_wp2_with (first | (refine wl_loadG (by kernel_rfl) 61 _ rfl ⟨N, 0, none⟩ rfl 49 S HSL.out aggS aT ?_; clear aT) | (refine wl_build0G (by kernel_rfl) 61 rfl S HBU.out ?_) | (refine wl_eqD 58 rfl (by kernel_rfl) 61 _ _ _ rfl S.toArray S.toArray rfl rfl true (heq.out _) (by kernel_rfl) ?_))
  go_ret
  exact ⟨rfl, hbw7⟩
end Go.Proofs.Ytbljihhelladbaa.shr
