/-
  strings.IndexRune beyond ASCII at the letters of names; keyref1.IsName. Conditions: none on the string but its size.
-/
import Derived.Test.YtdhipjoplkpgmaaGreatDoorHCmA
import Derived.WalkMore
set_option maxRecDepth 100000
set_option linter.unusedSimpArgs false
set_option linter.unusedVariables false
set_option maxHeartbeats 4000000
namespace Go.Proofs.YtdhipjoplkpgmaaGreatDoor.wr
open Go.RowKit st hs shr sh
theorem IndexRune_err (w : World) : Calls Tryz.prog 188 #[.string KS, .int .i32 65533] w (NoRune w) := by
 obtain ⟨K, HK⟩ := hidE KS
 have hKs : K.size = 39 := by rw [HK.out]; rfl
 have hdec := hid (fun p : Fin 39 => KS_decode p)
 rw [← HK.out] at hdec ⊢
 go_enter Tryz.func188, Tryz.ntmps188
 go_wp2
 go_loopg [] 39 (fun gf wx => ∃ pos : Nat, wx.heap[w.heap.size]? = some (.stringIter K pos) ∧ Below w.heap.size w wx ∧ pos ≤ 39 ∧ 39 ≤ pos + gf)
 case atStart => exact ⟨0, World.iter_heap w K 0, (Below.refl _ w).alloc (Nat.le_refl _) _, by omega, by omega⟩
 case round =>
  obtain ⟨pos, hit, hbw, hp, hfu⟩ := hrel
  by_cases hps : pos < 39
  ·obtain ⟨g', rfl⟩ : ∃ g', gk = g' + 1 := ⟨gk - 1, by omega⟩
   have hnx : ∀ ty, (Instr.next (.pointer (some ⟨w.heap.size, 0, none⟩)) true ty).run Tryz.prog wr = _ := fun ty => Lib.run_next_any_at wr w.heap.size K pos ty hit (by rw [hKs]; exact hps)
   have hd := hdec.out ⟨pos, hps⟩
   obtain ⟨R, hR⟩ : ∃ R, (K.get! pos).toNat = R := ⟨_, rfl⟩
   have hd1 : Utf8.decode K pos = (R, 1) := by rw [← hR]; exact hd.1
   have hd2 : R < 128 := by rw [← hR]; exact hd.2
   rw [hd1] at hnx
   have hne : ¬ (R : Int) = 65533 := by omega
   have hit2 := Lib.iterAt_heap wr w.heap.size K pos (pos + 1) hit
   have hbw2 := Lib.below_iterAt hbw (k := w.heap.size) (Nat.le_refl _) K (pos + 1)
   obtain ⟨W, hWd⟩ : ∃ W, wr.iterAt w.heap.size K (pos + 1) = W := ⟨_, rfl⟩
   rw [hWd] at hnx hit2 hbw2
   clear hd hdec hd1 hR
   go_wp2
   go_roundg g'
   case measure => omega
   case rel => exact ⟨pos + 1, hit2, hbw2, by omega, by omega⟩
  ·have hnx : ∀ ty, (Instr.next (.pointer (some ⟨w.heap.size, 0, none⟩)) true ty).run Tryz.prog wr = _ := fun ty => Lib.run_next_end_at wr w.heap.size K pos ty hit (by rw [hKs]; exact hps)
   go_wp2
   go_ret
   exact ⟨rfl, hbw⟩
theorem IndexRune_bad (r : Nat) (w : World) (h : 128 ≤ r) (hv : ¬ r = 65533) (hb : ((decide (0 ≤ (r : Int)) && decide ((r : Int) < 55296)) || (decide (57343 < (r : Int)) && decide ((r : Int) ≤ 1114111))) = false) :
  Calls Tryz.prog 188 #[.string KS, .int .i32 r] w (NoRune w) := by
 have hI : ¬ (r : Int) < 128 := by omega
 have h0 : (0 : Int) ≤ (r : Int) := by omega
 have h1 : ¬ (r : Int) = 65533 := by omega
 have hvr := fun w => hid (ValidRune_any (r : Int) w)
 rw [hb] at hvr
 obtain ⟨K, HK⟩ := hidE KS
 rw [← HK.out]
 clear hb
 go_enter Tryz.func188, Tryz.ntmps188
 go_wp2_with (go_at_call 297; refine (hvr w).out.mono ?_; rintro e w' ⟨rfl, rfl⟩)
 go_ret
 exact ⟨rfl, Below.refl _ _⟩
theorem small_at (i : Nat) (h : i < KS.size) : (KS[i]'h).toNat < 128 := KS_small _ (Array.getElem_mem_toList h)
theorem large_none {T : ByteArray} (hT : ∀ b ∈ T.data.toList, b.toNat < 128) {c : UInt8} (hc : 128 ≤ c.toNat) : Lib.indexByte T.data.toList ((c.toNat : Int).toNat.toUInt8) = -1 := by
 have e : (c.toNat : Int).toNat.toUInt8 = c := by
  rw [Int.toNat_natCast]; exact UInt8.ofNat_toNat
 rw [e]
 exact notin_index fun b hb h => by
  have := hT b hb
  rw [h] at this; omega
theorem extract_small {a b : Nat} : ∀ x ∈ (KS.extract a b).data.toList, x.toNat < 128 := fun x hx => by
 have h1 : x ∈ KS.data.toList := by
  rw [ByteArray.data_extract, Array.toList_extract] at hx
  simp only [List.extract_eq_take_drop] at hx
  exact List.mem_of_mem_drop (List.mem_of_mem_take hx)
 exact KS_small x h1
set_option maxRecDepth 10000000 in
theorem IndexRune_two (r : Nat) (w : World) (h : 128 ≤ r) (h2 : r < 2048) :
  Calls Tryz.prog 188 #[.string KS, .int .i32 r] w (NoRune w) := by
 have hI : ¬ (r : Int) < 128 := by omega
 have h0 : (0 : Int) ≤ (r : Int) := by omega
 have h1 : ¬ (r : Int) = 65533 := by omega
 have hvr := fun w => hid (ValidRune_any (r : Int) w)
 rw [show ((decide (0 ≤ (r : Int)) && decide ((r : Int) < 55296)) || (decide (57343 < (r : Int)) && decide ((r : Int) ≤ 1114111))) = true from (by simp; omega)] at hvr
 have he0 := enc_two h h2
 obtain ⟨S, HS⟩ := hidE (Utf8.encode (r : Int))
 have he : Utf8.encode (r : Int) = S := HS.out.symm
 rw [he] at he0
 have hSs : S.size = 2 := by rw [he0]; rfl
 obtain ⟨K, HK⟩ := hidE KS
 have hKs : K.size = 39 := by rw [HK.out]; rfl
 have hK1 : 1 < K.size := by omega
 have hS1 : 1 < S.size := by omega
 have hKsm : (K[1]'hK1).toNat < 128 := by
  have e := HK.out
  subst e
  exact small_at 1 _
 have hSb : 128 ≤ (S[1]'hS1).toNat := by
  have key : ∀ (T : ByteArray) (h : 1 < T.size), T = ⟨#[UInt8.ofNat (192 + r / 64), UInt8.ofNat (128 + r % 64)]⟩ → 128 ≤ (T[1]'h).toNat := by
   intro T h e
   subst e
   show 128 ≤ (UInt8.ofNat (128 + r % 64)).toNat
   rw [UInt8.toNat_ofNat']; omega
  exact key S hS1 he0
 have hneq : (((K[1]'hK1).toNat : Int) != ((S[1]'hS1).toNat : Int)) = true := by simp; omega
 have hix := fun w (T : ByteArray) (hT : ∀ b ∈ T.data.toList, b.toNat < 128) => hid (StrIndexByte T ((S[1]'hS1).toNat : Int) w)
 have hix := fun (w : World) (T : ByteArray) (hT : ∀ b ∈ T.data.toList, b.toNat < 128) => hid ((StrIndexByte T ((S[1]'hS1).toNat : Int) w).mono fun e w' h => (by rw [large_none hT hSb] at h; exact h : e = .returned (.int .i64 (-1)) ∧ w' = w))
 have hex : ∀ a b, ∀ x ∈ (K.extract a b).data.toList, x.toNat < 128 := by
  have e := HK.out
  subst e
  exact fun a b => extract_small
 have hwL : IntKind.i64.wrap 2 = 2 := by rfl
 have hbd := fun (w : World) k => Below.refl w.heap.size w |> fun h => bdN h k
 clear he0 hKsm hSb
 rw [← HK.out]
 go_enter Tryz.func188, Tryz.ntmps188
 go_wp2_with (go_at_call 297; refine (hvr w).out.mono ?_; rintro e w' ⟨rfl, rfl⟩)
 go_step3
 go_wp2
 go_loopw [9, 10] (fun i f wr => i = .int .i64 1 ∧ f = .int .i64 0 ∧ wr = w) (fun _ _ _ => 1)
 case atStart => exact ⟨rfl, rfl, rfl⟩
 case round =>
  obtain ⟨rfl, rfl, rfl⟩ := hrel
  go_wp2
  go_step3
  go_wp2
  go_quiet (fail)
  have hb1 := hbd wr nq
  generalize HWX : wr.drewN nq = wx at hb1
  go_wp2
  refine wp_region_held_drew (S := (fun _ => True)) (by kernel_rfl) trivial (fun hHeld => ?_)
  obtain ⟨y0, HY0⟩ := hidE wx.drew
  rw [← HY0.out]
  have hb0 : Below wr.heap.size wr y0 := by rw [HY0.out]; exact hb1.drew
  clear hb1
  refine take_l (i := 0) (v := ?rv1) rfl (by kernel_rfl) (by kernel_rfl) (by kernel_rfl) (fun _ _ _ h => h) (Or.inl ⟨by rfl, ?rhy1⟩) (by assumption) ?rrest1
  case rhy1 => (intro w hSw; (try dsimp only at hSw); go_simp; (try with_reducible rfl))
  try simp only [Act.put, fpA, fpZ, fpN]
  refine take_l (i := 1) (v := ?rv2) rfl (by kernel_rfl) (by kernel_rfl) (by kernel_rfl) (fun _ _ _ h => h) (Or.inl ⟨by rfl, ?rhy2⟩) (by assumption) ?rrest2
  case rhy2 => (intro w hSw; (try dsimp only at hSw); go_simp; (try with_reducible rfl))
  try simp only [Act.put, fpA, fpZ, fpN]
  refine take_l (i := 2) (v := ?rv3) rfl (by kernel_rfl) (by kernel_rfl) (by kernel_rfl) (fun _ _ _ h => h) (Or.inl ⟨by rfl, ?rhy3⟩) (by assumption) ?rrest3
  case rhy3 => (intro w hSw; (try dsimp only at hSw); go_simp; (try with_reducible rfl))
  try simp only [Act.put, fpA, fpZ, fpN]
  refine take_l (i := 3) (v := ?rv4) rfl (by kernel_rfl) (by kernel_rfl) (by kernel_rfl) (fun _ _ _ h => h) (Or.inl ⟨by rfl, ?rhy4⟩) (by assumption) ?rrest4
  case rhy4 => (intro w hSw; (try dsimp only at hSw); go_simp; (try with_reducible rfl))
  try simp only [Act.put, fpA, fpZ, fpN]
  refine take_l (i := 4) (v := ?rv5) rfl (by kernel_rfl) (by kernel_rfl) (by kernel_rfl) (fun _ _ _ h => h) (Or.inl ⟨by rfl, ?rhy5⟩) (by assumption) ?rrest5
  case rhy5 => (intro w hSw; (try dsimp only at hSw); go_simp; (try with_reducible rfl))
  try simp only [Act.put, fpA, fpZ, fpN]
  refine take_l (i := 5) (v := ?rv6) rfl (by kernel_rfl) (by kernel_rfl) (by kernel_rfl) (fun _ _ _ h => h) (Or.inl ⟨by rfl, ?rhy6⟩) (by assumption) ?rrest6
  case rhy6 => (intro w hSw; (try dsimp only at hSw); go_simp; (try with_reducible rfl))
  try simp only [Act.put, fpA, fpZ, fpN]
  refine take_l (i := 6) (v := ?rv7) rfl (by kernel_rfl) (by kernel_rfl) (by kernel_rfl) (fun _ _ _ h => h) (Or.inl ⟨by rfl, ?rhy7⟩) (by assumption) ?rrest7
  case rhy7 => (intro w hSw; (try dsimp only at hSw); go_simp; (try with_reducible rfl))
  try simp only [Act.put, fpA, fpZ, fpN]
  refine e1 7 rfl fun K' hK' => ?_
  rw [if_pos (by rfl)]
  go_simp
  go_at_call 296
  refine (hix _ _ (hex _ _)).out.mono ?_
  rintro e w' ⟨rfl, rfl⟩
  refine ko hK' trivial fun hHeld => ?_
  clear hK' K'
  refine take_l (i := 8) (v := ?rv8) rfl (by kernel_rfl) (by kernel_rfl) (by kernel_rfl) (fun _ _ _ h => h) (Or.inl ⟨by rfl, ?rhy8⟩) (by assumption) ?rrest8
  case rhy8 => (intro w hSw; (try dsimp only at hSw); go_simp; (try with_reducible rfl))
  try simp only [Act.put, fpA, fpZ, fpN]
  refine wpAnyH_done (by kernel_rfl) ?_ _
  go_wp2
  rw [Exit.noGoto_ret]
  go_ret
  exact ⟨rfl, hb0⟩
set_option maxRecDepth 10000000 in
theorem IndexRune_three (r : Nat) (w : World) (h : 2048 ≤ r) (h2 : r < 65536) (hne : ¬ r = 65533) (hv : Utf8.valid (r : Int) = true) :
  Calls Tryz.prog 188 #[.string KS, .int .i32 r] w (NoRune w) := by
 have hI : ¬ (r : Int) < 128 := by omega
 have h0 : (0 : Int) ≤ (r : Int) := by omega
 have h1 : ¬ (r : Int) = 65533 := by omega
 have hvr := fun w => hid (ValidRune_any (r : Int) w)
 rw [show ((decide (0 ≤ (r : Int)) && decide ((r : Int) < 55296)) || (decide (57343 < (r : Int)) && decide ((r : Int) ≤ 1114111))) = true from (by unfold Utf8.valid at hv; simp at hv; simp; omega)] at hvr
 have he0 := enc_three h h2 hv
 obtain ⟨S, HS⟩ := hidE (Utf8.encode (r : Int))
 have he : Utf8.encode (r : Int) = S := HS.out.symm
 rw [he] at he0
 have hSs : S.size = 3 := by rw [he0]; rfl
 obtain ⟨K, HK⟩ := hidE KS
 have hKs : K.size = 39 := by rw [HK.out]; rfl
 have hK1 : 2 < K.size := by omega
 have hS1 : 2 < S.size := by omega
 have hKsm : (K[2]'hK1).toNat < 128 := by
  have e := HK.out
  subst e
  exact small_at 2 _
 have hSb : 128 ≤ (S[2]'hS1).toNat := by
  have key : ∀ (T : ByteArray) (h : 2 < T.size), T = ⟨#[UInt8.ofNat (224 + r / 4096), UInt8.ofNat (128 + r / 64 % 64), UInt8.ofNat (128 + r % 64)]⟩ → 128 ≤ (T[2]'h).toNat := by
   intro T h e
   subst e
   show 128 ≤ (UInt8.ofNat (128 + r % 64)).toNat
   rw [UInt8.toNat_ofNat']; omega
  exact key S hS1 he0
 have hneq : (((K[2]'hK1).toNat : Int) != ((S[2]'hS1).toNat : Int)) = true := by simp; omega
 have hix := fun w (T : ByteArray) (hT : ∀ b ∈ T.data.toList, b.toNat < 128) => hid (StrIndexByte T ((S[2]'hS1).toNat : Int) w)
 have hix := fun (w : World) (T : ByteArray) (hT : ∀ b ∈ T.data.toList, b.toNat < 128) => hid ((StrIndexByte T ((S[2]'hS1).toNat : Int) w).mono fun e w' h => (by rw [large_none hT hSb] at h; exact h : e = .returned (.int .i64 (-1)) ∧ w' = w))
 have hex : ∀ a b, ∀ x ∈ (K.extract a b).data.toList, x.toNat < 128 := by
  have e := HK.out
  subst e
  exact fun a b => extract_small
 have hwL : IntKind.i64.wrap 3 = 3 := by rfl
 have hbd := fun (w : World) k => Below.refl w.heap.size w |> fun h => bdN h k
 clear he0 hKsm hSb
 rw [← HK.out]
 go_enter Tryz.func188, Tryz.ntmps188
 go_wp2_with (go_at_call 297; refine (hvr w).out.mono ?_; rintro e w' ⟨rfl, rfl⟩)
 go_step3
 go_wp2
 go_loopw [9, 10] (fun i f wr => i = .int .i64 2 ∧ f = .int .i64 0 ∧ wr = w) (fun _ _ _ => 1)
 case atStart => exact ⟨rfl, rfl, rfl⟩
 case round =>
  obtain ⟨rfl, rfl, rfl⟩ := hrel
  go_wp2
  go_step3
  go_wp2
  go_quiet (fail)
  have hb1 := hbd wr nq
  generalize HWX : wr.drewN nq = wx at hb1
  go_wp2
  refine wp_region_held_drew (S := (fun _ => True)) (by kernel_rfl) trivial (fun hHeld => ?_)
  obtain ⟨y0, HY0⟩ := hidE wx.drew
  rw [← HY0.out]
  have hb0 : Below wr.heap.size wr y0 := by rw [HY0.out]; exact hb1.drew
  clear hb1
  refine take_l (i := 0) (v := ?rv9) rfl (by kernel_rfl) (by kernel_rfl) (by kernel_rfl) (fun _ _ _ h => h) (Or.inl ⟨by rfl, ?rhy9⟩) (by assumption) ?rrest9
  case rhy9 => (intro w hSw; (try dsimp only at hSw); go_simp; (try with_reducible rfl))
  try simp only [Act.put, fpA, fpZ, fpN]
  refine take_l (i := 1) (v := ?rv10) rfl (by kernel_rfl) (by kernel_rfl) (by kernel_rfl) (fun _ _ _ h => h) (Or.inl ⟨by rfl, ?rhy10⟩) (by assumption) ?rrest10
  case rhy10 => (intro w hSw; (try dsimp only at hSw); go_simp; (try with_reducible rfl))
  try simp only [Act.put, fpA, fpZ, fpN]
  refine take_l (i := 2) (v := ?rv11) rfl (by kernel_rfl) (by kernel_rfl) (by kernel_rfl) (fun _ _ _ h => h) (Or.inl ⟨by rfl, ?rhy11⟩) (by assumption) ?rrest11
  case rhy11 => (intro w hSw; (try dsimp only at hSw); go_simp; (try with_reducible rfl))
  try simp only [Act.put, fpA, fpZ, fpN]
  refine take_l (i := 3) (v := ?rv12) rfl (by kernel_rfl) (by kernel_rfl) (by kernel_rfl) (fun _ _ _ h => h) (Or.inl ⟨by rfl, ?rhy12⟩) (by assumption) ?rrest12
  case rhy12 => (intro w hSw; (try dsimp only at hSw); go_simp; (try with_reducible rfl))
  try simp only [Act.put, fpA, fpZ, fpN]
  refine take_l (i := 4) (v := ?rv13) rfl (by kernel_rfl) (by kernel_rfl) (by kernel_rfl) (fun _ _ _ h => h) (Or.inl ⟨by rfl, ?rhy13⟩) (by assumption) ?rrest13
  case rhy13 => (intro w hSw; (try dsimp only at hSw); go_simp; (try with_reducible rfl))
  try simp only [Act.put, fpA, fpZ, fpN]
  refine take_l (i := 5) (v := ?rv14) rfl (by kernel_rfl) (by kernel_rfl) (by kernel_rfl) (fun _ _ _ h => h) (Or.inl ⟨by rfl, ?rhy14⟩) (by assumption) ?rrest14
  case rhy14 => (intro w hSw; (try dsimp only at hSw); go_simp; (try with_reducible rfl))
  try simp only [Act.put, fpA, fpZ, fpN]
  refine take_l (i := 6) (v := ?rv15) rfl (by kernel_rfl) (by kernel_rfl) (by kernel_rfl) (fun _ _ _ h => h) (Or.inl ⟨by rfl, ?rhy15⟩) (by assumption) ?rrest15
  case rhy15 => (intro w hSw; (try dsimp only at hSw); go_simp; (try with_reducible rfl))
  try simp only [Act.put, fpA, fpZ, fpN]
  refine e1 7 rfl fun K' hK' => ?_
  rw [if_pos (by rfl)]
  go_simp
  go_at_call 296
  refine (hix _ _ (hex _ _)).out.mono ?_
  rintro e w' ⟨rfl, rfl⟩
  refine ko hK' trivial fun hHeld => ?_
  clear hK' K'
  refine take_l (i := 8) (v := ?rv16) rfl (by kernel_rfl) (by kernel_rfl) (by kernel_rfl) (fun _ _ _ h => h) (Or.inl ⟨by rfl, ?rhy16⟩) (by assumption) ?rrest16
  case rhy16 => (intro w hSw; (try dsimp only at hSw); go_simp; (try with_reducible rfl))
  try simp only [Act.put, fpA, fpZ, fpN]
  refine wpAnyH_done (by kernel_rfl) ?_ _
  go_wp2
  rw [Exit.noGoto_ret]
  go_ret
  exact ⟨rfl, hb0⟩
set_option maxRecDepth 10000000 in
theorem IndexRune_four (r : Nat) (w : World) (h : 65536 ≤ r) (h2 : r ≤ 1114111) :
  Calls Tryz.prog 188 #[.string KS, .int .i32 r] w (NoRune w) := by
 have hI : ¬ (r : Int) < 128 := by omega
 have h0 : (0 : Int) ≤ (r : Int) := by omega
 have h1 : ¬ (r : Int) = 65533 := by omega
 have hvr := fun w => hid (ValidRune_any (r : Int) w)
 rw [show ((decide (0 ≤ (r : Int)) && decide ((r : Int) < 55296)) || (decide (57343 < (r : Int)) && decide ((r : Int) ≤ 1114111))) = true from (by simp; omega)] at hvr
 have he0 := enc_four h h2
 obtain ⟨S, HS⟩ := hidE (Utf8.encode (r : Int))
 have he : Utf8.encode (r : Int) = S := HS.out.symm
 rw [he] at he0
 have hSs : S.size = 4 := by rw [he0]; rfl
 obtain ⟨K, HK⟩ := hidE KS
 have hKs : K.size = 39 := by rw [HK.out]; rfl
 have hK1 : 3 < K.size := by omega
 have hS1 : 3 < S.size := by omega
 have hKsm : (K[3]'hK1).toNat < 128 := by
  have e := HK.out
  subst e
  exact small_at 3 _
 have hSb : 128 ≤ (S[3]'hS1).toNat := by
  have key : ∀ (T : ByteArray) (h : 3 < T.size), T = ⟨#[UInt8.ofNat (240 + r / 262144), UInt8.ofNat (128 + r / 4096 % 64), UInt8.ofNat (128 + r / 64 % 64), UInt8.ofNat (128 + r % 64)]⟩ → 128 ≤ (T[3]'h).toNat := by
   intro T h e
   subst e
   show 128 ≤ (UInt8.ofNat (128 + r % 64)).toNat
   rw [UInt8.toNat_ofNat']; omega
  exact key S hS1 he0
 have hneq : (((K[3]'hK1).toNat : Int) != ((S[3]'hS1).toNat : Int)) = true := by simp; omega
 have hix := fun w (T : ByteArray) (hT : ∀ b ∈ T.data.toList, b.toNat < 128) => hid (StrIndexByte T ((S[3]'hS1).toNat : Int) w)
 have hix := fun (w : World) (T : ByteArray) (hT : ∀ b ∈ T.data.toList, b.toNat < 128) => hid ((StrIndexByte T ((S[3]'hS1).toNat : Int) w).mono fun e w' h => (by rw [large_none hT hSb] at h; exact h : e = .returned (.int .i64 (-1)) ∧ w' = w))
 have hex : ∀ a b, ∀ x ∈ (K.extract a b).data.toList, x.toNat < 128 := by
  have e := HK.out
  subst e
  exact fun a b => extract_small
 have hwL : IntKind.i64.wrap 4 = 4 := by rfl
 have hbd := fun (w : World) k => Below.refl w.heap.size w |> fun h => bdN h k
 clear he0 hKsm hSb
 rw [← HK.out]
 go_enter Tryz.func188, Tryz.ntmps188
 go_wp2_with (go_at_call 297; refine (hvr w).out.mono ?_; rintro e w' ⟨rfl, rfl⟩)
 go_step3
 go_wp2
 go_loopw [9, 10] (fun i f wr => i = .int .i64 3 ∧ f = .int .i64 0 ∧ wr = w) (fun _ _ _ => 1)
 case atStart => exact ⟨rfl, rfl, rfl⟩
 case round =>
  obtain ⟨rfl, rfl, rfl⟩ := hrel
  go_wp2
  go_step3
  go_wp2
  go_quiet (fail)
  have hb1 := hbd wr nq
  generalize HWX : wr.drewN nq = wx at hb1
  go_wp2
  refine wp_region_held_drew (S := (fun _ => True)) (by kernel_rfl) trivial (fun hHeld => ?_)
  obtain ⟨y0, HY0⟩ := hidE wx.drew
  rw [← HY0.out]
  have hb0 : Below wr.heap.size wr y0 := by rw [HY0.out]; exact hb1.drew
  clear hb1
  refine take_l (i := 0) (v := ?rv17) rfl (by kernel_rfl) (by kernel_rfl) (by kernel_rfl) (fun _ _ _ h => h) (Or.inl ⟨by rfl, ?rhy17⟩) (by assumption) ?rrest17
  case rhy17 => (intro w hSw; (try dsimp only at hSw); go_simp; (try with_reducible rfl))
  try simp only [Act.put, fpA, fpZ, fpN]
  refine take_l (i := 1) (v := ?rv18) rfl (by kernel_rfl) (by kernel_rfl) (by kernel_rfl) (fun _ _ _ h => h) (Or.inl ⟨by rfl, ?rhy18⟩) (by assumption) ?rrest18
  case rhy18 => (intro w hSw; (try dsimp only at hSw); go_simp; (try with_reducible rfl))
  try simp only [Act.put, fpA, fpZ, fpN]
  refine take_l (i := 2) (v := ?rv19) rfl (by kernel_rfl) (by kernel_rfl) (by kernel_rfl) (fun _ _ _ h => h) (Or.inl ⟨by rfl, ?rhy19⟩) (by assumption) ?rrest19
  case rhy19 => (intro w hSw; (try dsimp only at hSw); go_simp; (try with_reducible rfl))
  try simp only [Act.put, fpA, fpZ, fpN]
  refine take_l (i := 3) (v := ?rv20) rfl (by kernel_rfl) (by kernel_rfl) (by kernel_rfl) (fun _ _ _ h => h) (Or.inl ⟨by rfl, ?rhy20⟩) (by assumption) ?rrest20
  case rhy20 => (intro w hSw; (try dsimp only at hSw); go_simp; (try with_reducible rfl))
  try simp only [Act.put, fpA, fpZ, fpN]
  refine take_l (i := 4) (v := ?rv21) rfl (by kernel_rfl) (by kernel_rfl) (by kernel_rfl) (fun _ _ _ h => h) (Or.inl ⟨by rfl, ?rhy21⟩) (by assumption) ?rrest21
  case rhy21 => (intro w hSw; (try dsimp only at hSw); go_simp; (try with_reducible rfl))
  try simp only [Act.put, fpA, fpZ, fpN]
  refine take_l (i := 5) (v := ?rv22) rfl (by kernel_rfl) (by kernel_rfl) (by kernel_rfl) (fun _ _ _ h => h) (Or.inl ⟨by rfl, ?rhy22⟩) (by assumption) ?rrest22
  case rhy22 => (intro w hSw; (try dsimp only at hSw); go_simp; (try with_reducible rfl))
  try simp only [Act.put, fpA, fpZ, fpN]
  refine take_l (i := 6) (v := ?rv23) rfl (by kernel_rfl) (by kernel_rfl) (by kernel_rfl) (fun _ _ _ h => h) (Or.inl ⟨by rfl, ?rhy23⟩) (by assumption) ?rrest23
  case rhy23 => (intro w hSw; (try dsimp only at hSw); go_simp; (try with_reducible rfl))
  try simp only [Act.put, fpA, fpZ, fpN]
  refine e1 7 rfl fun K' hK' => ?_
  rw [if_pos (by rfl)]
  go_simp
  go_at_call 296
  refine (hix _ _ (hex _ _)).out.mono ?_
  rintro e w' ⟨rfl, rfl⟩
  refine ko hK' trivial fun hHeld => ?_
  clear hK' K'
  refine take_l (i := 8) (v := ?rv24) rfl (by kernel_rfl) (by kernel_rfl) (by kernel_rfl) (fun _ _ _ h => h) (Or.inl ⟨by rfl, ?rhy24⟩) (by assumption) ?rrest24
  case rhy24 => (intro w hSw; (try dsimp only at hSw); go_simp; (try with_reducible rfl))
  try simp only [Act.put, fpA, fpZ, fpN]
  refine wpAnyH_done (by kernel_rfl) ?_ _
  go_wp2
  rw [Exit.noGoto_ret]
  go_ret
  exact ⟨rfl, hb0⟩
theorem IndexRune_none (r : Nat) (w : World) (h : 128 ≤ r) (h2 : r ≤ 1114111) : Calls Tryz.prog 188 #[.string KS, .int .i32 r] w (NoRune w) := by
 by_cases he : r = 65533
 ·subst he; exact IndexRune_err w
 ·by_cases hv : Utf8.valid (r : Int) = true
  ·by_cases h3 : r < 2048
   ·exact IndexRune_two r w h h3
   ·by_cases h4 : r < 65536
    ·exact IndexRune_three r w (by omega) h4 he hv
    ·exact IndexRune_four r w (by omega) h2
  ·refine IndexRune_bad r w h he ?_
   unfold Utf8.valid at hv
   simp at hv ⊢
   omega
end Go.Proofs.YtdhipjoplkpgmaaGreatDoor.wr
