/-
  Contract of keyref1.IsName: strings.ContainsFunc and strings.ContainsRune at the letters of names. Conditions: none on the string but its size. strings.IndexRune beyond ASCII at the letters of names; keyref1.IsName. Conditions: none on the string but its size. Contract of keyref1.IsName. Conditions: a string of at most maxLen octets.
-/
import Derived.Test.YtbjmadcbhkeenaaGreatCMkY
import Derived.Lib.OthersKept
import Derived.Lib.TrimU
import Derived.Lib.Bytealg
import Derived.Laws.RangeString
import Derived.Laws.Runes
import Derived.WalkMore
import Derived.Deep.LoopGhost
set_option maxRecDepth 100000
set_option linter.unusedSimpArgs false
set_option linter.unusedVariables false
namespace Go.Proofs.YtbjmadcbhkeenaaGreat.wr
open Go.RowKit st hs shr sh
def KS : ByteArray := ⟨#[97, 98, 99, 100, 101, 102, 103, 104, 105, 106, 107, 108, 109, 110, 111, 112, 113, 114, 115, 116, 117, 118, 119, 120, 121, 122, 48, 49, 50, 51, 52, 53, 54, 55, 56, 57, 45, 46, 95]⟩
theorem notin_index {l : List UInt8} {c : UInt8} (h : ∀ b ∈ l, b ≠ c) : Lib.indexByte l c = -1 := by
 induction l with
 | nil => rfl
 | cons b l ih =>
  have h1 := h b (List.mem_cons_self ..)
  have h2 := ih fun x hx => h x (List.mem_cons_of_mem _ hx)
  unfold Lib.indexByte
  rw [if_neg (by simpa using h1), h2]
  rfl
theorem KS_small : ∀ b ∈ KS.data.toList, b.toNat < 128 := by decide
theorem KS_ascii : ∀ r : Fin 128, decide (0 ≤ Lib.indexByte KS.data.toList (UInt8.ofNat r.val)) = nameC (r.val : Int) := by decide +kernel
theorem KS_decode : ∀ p : Fin 39, Utf8.decode KS p.val = ((KS.get! p.val).toNat, 1) ∧ (KS.get! p.val).toNat < 128 := by decide +kernel
theorem nameC_small {r : Int} (h : nameC r = true) : 0 ≤ r ∧ r < 128 := by
 unfold nameC at h
 simp at h
 omega
set_option maxHeartbeats 1000000 in
theorem IndexByteS (s : ByteArray) (c : Int) (w : World) :
  Calls Tryz.prog 127 #[.string s, .int .u8 c] w fun e w' => e = .returned (.int .i64 (Lib.indexByte s.data.toList c.toNat.toUInt8)) ∧ w' = w := by
 go_enter Tryz.func127, Tryz.ntmps127
 go_wp2
 rw [run_callFunc_extern Tryz.func128 (by kernel_rfl) (by kernel_rfl) (by kernel_rfl) (e := Extern.BytealgIndexByte.indexByte) (by kernel_rfl), Lib.run_indexByteString]
 simp only [Result.andThen]
 rw [Oper.upon_value]
 go_wp2
 go_ret
 exact ⟨rfl, rfl⟩
theorem StrIndexByte (s : ByteArray) (c : Int) (w : World) :
  Calls Tryz.prog 117 #[.string s, .int .u8 c] w fun e w' => e = .returned (.int .i64 (Lib.indexByte s.data.toList c.toNat.toUInt8)) ∧ w' = w := by
 go_enter Tryz.func117, Tryz.ntmps117
 go_wp2_with (go_at_call 127; refine (IndexByteS _ _ _).mono ?_; rintro e w' ⟨rfl, rfl⟩)
 go_ret
 exact ⟨rfl, rfl⟩
theorem ValidRune_any (r : Int) (w : World) : Calls Tryz.prog 118 #[.int .i32 r] w fun e w' => e = .returned (.bool ((decide (0 ≤ r) && decide (r < 55296)) || (decide (57343 < r) && decide (r ≤ 1114111)))) ∧ w = w' := by
 by_cases h0 : 0 ≤ r
 ·by_cases h1 : r < 55296
  ·go_enter Tryz.func118, Tryz.ntmps118
   go_wp2
   go_ret
   exact ⟨by first | (simp [*]; done) | (simp [*]; omega), rfl⟩
  ·by_cases h2 : 57343 < r
   ·by_cases h3 : r ≤ 1114111
    ·go_enter Tryz.func118, Tryz.ntmps118
     go_wp2
     go_ret
     exact ⟨by first | (simp [*]; done) | (simp [*]; omega), rfl⟩
    ·have h3' : 1114111 < r := by omega
     go_enter Tryz.func118, Tryz.ntmps118
     go_wp2
     go_ret
     exact ⟨by first | (simp [*]; done) | (simp [*]; omega), rfl⟩
   ·go_enter Tryz.func118, Tryz.ntmps118
    go_wp2
    go_ret
    exact ⟨by first | (simp [*]; done) | (simp [*]; omega), rfl⟩
 ·have h2 : ¬ 57343 < r := by omega
  go_enter Tryz.func118, Tryz.ntmps118
  go_wp2
  go_ret
  exact ⟨by first | (simp [*]; done) | (simp [*]; omega), rfl⟩
set_option maxHeartbeats 1000000 in
theorem IndexRune_ascii (r : Nat) (w : World) (h1 : r < 128) :
  Calls Tryz.prog 106 #[.string KS, .int .i32 r] w fun e w' => e = .returned (.int .i64 (Lib.indexByte KS.data.toList r.toUInt8)) ∧ w' = w := by
 have h0 : (0 : Int) ≤ (r : Int) := by omega
 have h1I : (r : Int) < 128 := by omega
 have hw : IntKind.u8.wrap (r : Int) = (r : Int) := IntWalk.u8_in _ (by omega)
 obtain ⟨K, HK⟩ : ∃ K, Hid (K = KS) := ⟨_, rfl⟩
 rw [← HK.out]
 go_enter Tryz.func106, Tryz.ntmps106
 go_wp2_with (go_at_call 117; refine (StrIndexByte _ _ _).mono ?_; rintro e w' ⟨rfl, rfl⟩)
 go_ret
 exact ⟨rfl, rfl⟩
theorem enc_two {r : Nat} (h : 128 ≤ r) (h2 : r < 2048) : Utf8.encode (r : Int) = ⟨#[UInt8.ofNat (192 + r / 64), UInt8.ofNat (128 + r % 64)]⟩ := by
 have hv : Utf8.valid (r : Int) = true := by unfold Utf8.valid; simp; omega
 unfold Utf8.encode
 simp only [hv, if_true, Int.toNat_natCast]
 rw [if_neg (by omega), if_pos (by omega)]
theorem enc_three {r : Nat} (h : 2048 ≤ r) (h2 : r < 65536) (hv : Utf8.valid (r : Int) = true) : Utf8.encode (r : Int) = ⟨#[UInt8.ofNat (224 + r / 4096), UInt8.ofNat (128 + r / 64 % 64), UInt8.ofNat (128 + r % 64)]⟩ := by
 unfold Utf8.encode
 simp only [hv, if_true, Int.toNat_natCast]
 rw [if_neg (by omega), if_neg (by omega), if_pos (by omega)]
theorem enc_four {r : Nat} (h : 65536 ≤ r) (h2 : r ≤ 1114111) : Utf8.encode (r : Int) = ⟨#[UInt8.ofNat (240 + r / 262144), UInt8.ofNat (128 + r / 4096 % 64), UInt8.ofNat (128 + r / 64 % 64), UInt8.ofNat (128 + r % 64)]⟩ := by
 have hv : Utf8.valid (r : Int) = true := by unfold Utf8.valid; simp; omega
 unfold Utf8.encode
 simp only [hv, if_true, Int.toNat_natCast]
 rw [if_neg (by omega), if_neg (by omega), if_neg (by omega)]
def NoRune (w : World) (e : Ending) (w' : World) : Prop := e = .returned (.int .i64 (-1)) ∧ Below w.heap.size w w'
end Go.Proofs.YtbjmadcbhkeenaaGreat.wr
namespace Go.Proofs.YtbjmadcbhkeenaaGreat.wr
open Go.RowKit st hs shr sh
set_option maxHeartbeats 2000000 in
theorem IndexRune_err (w : World) : Calls Tryz.prog 106 #[.string KS, .int .i32 65533] w (NoRune w) := by
 obtain ⟨K, HK⟩ : ∃ K, Hid (K = KS) := ⟨_, rfl⟩
 have hKs : K.size = 39 := by rw [HK.out]; rfl
 have hdec := hid (fun p : Fin 39 => KS_decode p)
 rw [← HK.out] at hdec ⊢
 go_enter Tryz.func106, Tryz.ntmps106
 go_wp2
 go_loopg [] 39 (fun gf wx => ∃ pos : Nat, wx.heap[w.heap.size]? = some (.stringIter K pos) ∧ Below w.heap.size w wx ∧ pos ≤ 39 ∧ 39 ≤ pos + gf)
 case atStart => exact ⟨0, World.iter_heap w K 0, (Below.refl _ w).alloc (Nat.le_refl _) _, by omega, by omega⟩
 case round =>
  obtain ⟨pos, hit, hbw, hp, hfu⟩ := hrel
  by_cases hps : pos < 39
  ·obtain ⟨g', rfl⟩ : ∃ g', gk = g' + 1 := ⟨gk - 1, by omega⟩
   have hnx : ∀ ty, (Instr.next (.pointer (some ⟨w.heap.size, 0, none⟩)) true ty).run Tryz.prog wr = _ := fun ty => Lib.run_next_any_at wr w.heap.size K pos ty hit (by rw [hKs]; exact hps)
   have hd := hdec.out ⟨pos, hps⟩
   obtain ⟨R, hR⟩ : ∃ R, (K.get! pos).toNat = R := ⟨_, rfl⟩
   have hd1 : Utf8.decode K pos = (R, 1) := by rw [← hR]; exact hd.1
   have hd2 : R < 128 := by rw [← hR]; exact hd.2
   rw [hd1] at hnx
   have hne : ¬ (R : Int) = 65533 := by omega
   have hit2 := Lib.iterAt_heap wr w.heap.size K pos (pos + 1) hit
   have hbw2 := Lib.below_iterAt hbw (k := w.heap.size) (Nat.le_refl _) K (pos + 1)
   obtain ⟨W, hWd⟩ : ∃ W, wr.iterAt w.heap.size K (pos + 1) = W := ⟨_, rfl⟩
   rw [hWd] at hnx hit2 hbw2
   clear hd hdec hd1 hR
   go_wp2
   go_roundg g'
   case measure => omega
   case rel => exact ⟨pos + 1, hit2, hbw2, by omega, by omega⟩
  ·have hnx : ∀ ty, (Instr.next (.pointer (some ⟨w.heap.size, 0, none⟩)) true ty).run Tryz.prog wr = _ := fun ty => Lib.run_next_end_at wr w.heap.size K pos ty hit (by rw [hKs]; exact hps)
   go_wp2
   go_ret
   exact ⟨rfl, hbw⟩
set_option maxHeartbeats 2000000 in
theorem IndexRune_bad (r : Nat) (w : World) (h : 128 ≤ r) (hv : ¬ r = 65533) (hb : ((decide (0 ≤ (r : Int)) && decide ((r : Int) < 55296)) || (decide (57343 < (r : Int)) && decide ((r : Int) ≤ 1114111))) = false) :
  Calls Tryz.prog 106 #[.string KS, .int .i32 r] w (NoRune w) := by
 have hI : ¬ (r : Int) < 128 := by omega
 have h0 : (0 : Int) ≤ (r : Int) := by omega
 have h1 : ¬ (r : Int) = 65533 := by omega
 have hvr := fun w => hid (ValidRune_any (r : Int) w)
 rw [hb] at hvr
 obtain ⟨K, HK⟩ : ∃ K, Hid (K = KS) := ⟨_, rfl⟩
 rw [← HK.out]
 clear hb
 go_enter Tryz.func106, Tryz.ntmps106
 go_wp2_with (go_at_call 118; refine (hvr w).out.mono ?_; rintro e w' ⟨rfl, rfl⟩)
 go_ret
 exact ⟨rfl, Below.refl _ _⟩
theorem small_at (i : Nat) (h : i < KS.size) : (KS[i]'h).toNat < 128 := KS_small _ (Array.getElem_mem_toList h)
theorem large_none {T : ByteArray} (hT : ∀ b ∈ T.data.toList, b.toNat < 128) {c : UInt8} (hc : 128 ≤ c.toNat) : Lib.indexByte T.data.toList ((c.toNat : Int).toNat.toUInt8) = -1 := by
 have e : (c.toNat : Int).toNat.toUInt8 = c := by
  rw [Int.toNat_natCast]; exact UInt8.ofNat_toNat
 rw [e]
 exact notin_index fun b hb h => by
  have := hT b hb
  rw [h] at this; omega
theorem extract_small {a b : Nat} : ∀ x ∈ (KS.extract a b).data.toList, x.toNat < 128 := fun x hx => by
 have h1 : x ∈ KS.data.toList := by
  rw [ByteArray.data_extract, Array.toList_extract] at hx
  simp only [List.extract_eq_take_drop] at hx
  exact List.mem_of_mem_drop (List.mem_of_mem_take hx)
 exact KS_small x h1
set_option maxRecDepth 10000000 in
set_option maxHeartbeats 4000000 in
theorem IndexRune_two (r : Nat) (w : World) (h : 128 ≤ r) (h2 : r < 2048) :
  Calls Tryz.prog 106 #[.string KS, .int .i32 r] w (NoRune w) := by
 have hI : ¬ (r : Int) < 128 := by omega
 have h0 : (0 : Int) ≤ (r : Int) := by omega
 have h1 : ¬ (r : Int) = 65533 := by omega
 have hvr := fun w => hid (ValidRune_any (r : Int) w)
 rw [show ((decide (0 ≤ (r : Int)) && decide ((r : Int) < 55296)) || (decide (57343 < (r : Int)) && decide ((r : Int) ≤ 1114111))) = true from (by simp; omega)] at hvr
 have he0 := enc_two h h2
 obtain ⟨S, HS⟩ : ∃ S, Hid (S = Utf8.encode (r : Int)) := ⟨_, rfl⟩
 have he : Utf8.encode (r : Int) = S := HS.out.symm
 rw [he] at he0
 have hSs : S.size = 2 := by rw [he0]; rfl
 obtain ⟨K, HK⟩ : ∃ K, Hid (K = KS) := ⟨_, rfl⟩
 have hKs : K.size = 39 := by rw [HK.out]; rfl
 have hK1 : 1 < K.size := by omega
 have hS1 : 1 < S.size := by omega
 have hKsm : (K[1]'hK1).toNat < 128 := by
  have e := HK.out
  subst e
  exact small_at 1 _
 have hSb : 128 ≤ (S[1]'hS1).toNat := by
  have key : ∀ (T : ByteArray) (h : 1 < T.size), T = ⟨#[UInt8.ofNat (192 + r / 64), UInt8.ofNat (128 + r % 64)]⟩ → 128 ≤ (T[1]'h).toNat := by
   intro T h e
   subst e
   show 128 ≤ (UInt8.ofNat (128 + r % 64)).toNat
   rw [UInt8.toNat_ofNat']; omega
  exact key S hS1 he0
 have hneq : (((K[1]'hK1).toNat : Int) != ((S[1]'hS1).toNat : Int)) = true := by simp; omega
 have hix := fun w (T : ByteArray) (hT : ∀ b ∈ T.data.toList, b.toNat < 128) => hid (StrIndexByte T ((S[1]'hS1).toNat : Int) w)
 have hix := fun (w : World) (T : ByteArray) (hT : ∀ b ∈ T.data.toList, b.toNat < 128) => hid ((StrIndexByte T ((S[1]'hS1).toNat : Int) w).mono fun e w' h => (by rw [large_none hT hSb] at h; exact h : e = .returned (.int .i64 (-1)) ∧ w' = w))
 have hex : ∀ a b, ∀ x ∈ (K.extract a b).data.toList, x.toNat < 128 := by
  have e := HK.out
  subst e
  exact fun a b => extract_small
 have hwL : IntKind.i64.wrap 2 = 2 := by rfl
 have hbd := fun (w : World) k => Below.refl w.heap.size w |> fun h => bdN h k
 clear he0 hKsm hSb
 rw [← HK.out]
 go_enter Tryz.func106, Tryz.ntmps106
 go_wp2_with (go_at_call 118; refine (hvr w).out.mono ?_; rintro e w' ⟨rfl, rfl⟩)
 go_step3
 go_wp2
 go_loopw [9, 10] (fun i f wr => i = .int .i64 1 ∧ f = .int .i64 0 ∧ wr = w) (fun _ _ _ => 1)
 case atStart => exact ⟨rfl, rfl, rfl⟩
 case round =>
  obtain ⟨rfl, rfl, rfl⟩ := hrel
  go_wp2
  go_step3
  go_wp2
  go_quiet (fail)
  have hb1 := hbd wr nq
  generalize HWX : wr.drewN nq = wx at hb1
  go_wp2
  refine wp_region_held_drew (S := (fun _ => True)) (by kernel_rfl) trivial (fun hHeld => ?_)
  obtain ⟨y0, HY0⟩ : ∃ x, Hid (x = wx.drew) := ⟨_, rfl⟩
  rw [← HY0.out]
  have hb0 : Below wr.heap.size wr y0 := by rw [HY0.out]; exact hb1.drew
  clear hb1
  refine take_l (i := 0) (v := ?rv1) rfl (by kernel_rfl) (by kernel_rfl) (by kernel_rfl) (fun _ _ _ h => h) (Or.inl ⟨by rfl, ?rhy1⟩) (by assumption) ?rrest1
  case rhy1 => (intro w hSw; (try dsimp only at hSw); go_simp; (try with_reducible rfl))
  try simp only [Act.put, fpA, fpZ, fpN]
  refine take_l (i := 1) (v := ?rv2) rfl (by kernel_rfl) (by kernel_rfl) (by kernel_rfl) (fun _ _ _ h => h) (Or.inl ⟨by rfl, ?rhy2⟩) (by assumption) ?rrest2
  case rhy2 => (intro w hSw; (try dsimp only at hSw); go_simp; (try with_reducible rfl))
  try simp only [Act.put, fpA, fpZ, fpN]
  refine take_l (i := 2) (v := ?rv3) rfl (by kernel_rfl) (by kernel_rfl) (by kernel_rfl) (fun _ _ _ h => h) (Or.inl ⟨by rfl, ?rhy3⟩) (by assumption) ?rrest3
  case rhy3 => (intro w hSw; (try dsimp only at hSw); go_simp; (try with_reducible rfl))
  try simp only [Act.put, fpA, fpZ, fpN]
  refine take_l (i := 3) (v := ?rv4) rfl (by kernel_rfl) (by kernel_rfl) (by kernel_rfl) (fun _ _ _ h => h) (Or.inl ⟨by rfl, ?rhy4⟩) (by assumption) ?rrest4
  case rhy4 => (intro w hSw; (try dsimp only at hSw); go_simp; (try with_reducible rfl))
  try simp only [Act.put, fpA, fpZ, fpN]
  refine take_l (i := 4) (v := ?rv5) rfl (by kernel_rfl) (by kernel_rfl) (by kernel_rfl) (fun _ _ _ h => h) (Or.inl ⟨by rfl, ?rhy5⟩) (by assumption) ?rrest5
  case rhy5 => (intro w hSw; (try dsimp only at hSw); go_simp; (try with_reducible rfl))
  try simp only [Act.put, fpA, fpZ, fpN]
  refine take_l (i := 5) (v := ?rv6) rfl (by kernel_rfl) (by kernel_rfl) (by kernel_rfl) (fun _ _ _ h => h) (Or.inl ⟨by rfl, ?rhy6⟩) (by assumption) ?rrest6
  case rhy6 => (intro w hSw; (try dsimp only at hSw); go_simp; (try with_reducible rfl))
  try simp only [Act.put, fpA, fpZ, fpN]
  refine take_l (i := 6) (v := ?rv7) rfl (by kernel_rfl) (by kernel_rfl) (by kernel_rfl) (fun _ _ _ h => h) (Or.inl ⟨by rfl, ?rhy7⟩) (by assumption) ?rrest7
  case rhy7 => (intro w hSw; (try dsimp only at hSw); go_simp; (try with_reducible rfl))
  try simp only [Act.put, fpA, fpZ, fpN]
  refine wpAnyH_ready (rs := [7]) (by kernel_rfl) (by simp) (cons_l rfl (fun K' hK' => ?_) AllReadyH.nil)
  rw [if_pos (by rfl)]
  go_simp
  go_at_call 117
  refine (hix _ _ (hex _ _)).out.mono ?_
  rintro e w' ⟨rfl, rfl⟩
  refine hK'.out _ _ trivial (fun hHeld => ?_)
  clear hK' K'
  try simp only [Act.put, fpA, fpZ, fpN]
  refine take_l (i := 8) (v := ?rv8) rfl (by kernel_rfl) (by kernel_rfl) (by kernel_rfl) (fun _ _ _ h => h) (Or.inl ⟨by rfl, ?rhy8⟩) (by assumption) ?rrest8
  case rhy8 => (intro w hSw; (try dsimp only at hSw); go_simp; (try with_reducible rfl))
  try simp only [Act.put, fpA, fpZ, fpN]
  refine wpAnyH_done (by kernel_rfl) ?_ _
  go_wp2
  rw [Exit.noGoto_ret]
  go_ret
  exact ⟨rfl, hb0⟩
set_option maxRecDepth 10000000 in
set_option maxHeartbeats 4000000 in
theorem IndexRune_three (r : Nat) (w : World) (h : 2048 ≤ r) (h2 : r < 65536) (hne : ¬ r = 65533) (hv : Utf8.valid (r : Int) = true) :
  Calls Tryz.prog 106 #[.string KS, .int .i32 r] w (NoRune w) := by
 have hI : ¬ (r : Int) < 128 := by omega
 have h0 : (0 : Int) ≤ (r : Int) := by omega
 have h1 : ¬ (r : Int) = 65533 := by omega
 have hvr := fun w => hid (ValidRune_any (r : Int) w)
 rw [show ((decide (0 ≤ (r : Int)) && decide ((r : Int) < 55296)) || (decide (57343 < (r : Int)) && decide ((r : Int) ≤ 1114111))) = true from (by unfold Utf8.valid at hv; simp at hv; simp; omega)] at hvr
 have he0 := enc_three h h2 hv
 obtain ⟨S, HS⟩ : ∃ S, Hid (S = Utf8.encode (r : Int)) := ⟨_, rfl⟩
 have he : Utf8.encode (r : Int) = S := HS.out.symm
 rw [he] at he0
 have hSs : S.size = 3 := by rw [he0]; rfl
 obtain ⟨K, HK⟩ : ∃ K, Hid (K = KS) := ⟨_, rfl⟩
 have hKs : K.size = 39 := by rw [HK.out]; rfl
 have hK1 : 2 < K.size := by omega
 have hS1 : 2 < S.size := by omega
 have hKsm : (K[2]'hK1).toNat < 128 := by
  have e := HK.out
  subst e
  exact small_at 2 _
 have hSb : 128 ≤ (S[2]'hS1).toNat := by
  have key : ∀ (T : ByteArray) (h : 2 < T.size), T = ⟨#[UInt8.ofNat (224 + r / 4096), UInt8.ofNat (128 + r / 64 % 64), UInt8.ofNat (128 + r % 64)]⟩ → 128 ≤ (T[2]'h).toNat := by
   intro T h e
   subst e
   show 128 ≤ (UInt8.ofNat (128 + r % 64)).toNat
   rw [UInt8.toNat_ofNat']; omega
  exact key S hS1 he0
 have hneq : (((K[2]'hK1).toNat : Int) != ((S[2]'hS1).toNat : Int)) = true := by simp; omega
 have hix := fun w (T : ByteArray) (hT : ∀ b ∈ T.data.toList, b.toNat < 128) => hid (StrIndexByte T ((S[2]'hS1).toNat : Int) w)
 have hix := fun (w : World) (T : ByteArray) (hT : ∀ b ∈ T.data.toList, b.toNat < 128) => hid ((StrIndexByte T ((S[2]'hS1).toNat : Int) w).mono fun e w' h => (by rw [large_none hT hSb] at h; exact h : e = .returned (.int .i64 (-1)) ∧ w' = w))
 have hex : ∀ a b, ∀ x ∈ (K.extract a b).data.toList, x.toNat < 128 := by
  have e := HK.out
  subst e
  exact fun a b => extract_small
 have hwL : IntKind.i64.wrap 3 = 3 := by rfl
 have hbd := fun (w : World) k => Below.refl w.heap.size w |> fun h => bdN h k
 clear he0 hKsm hSb
 rw [← HK.out]
 go_enter Tryz.func106, Tryz.ntmps106
 go_wp2_with (go_at_call 118; refine (hvr w).out.mono ?_; rintro e w' ⟨rfl, rfl⟩)
 go_step3
 go_wp2
 go_loopw [9, 10] (fun i f wr => i = .int .i64 2 ∧ f = .int .i64 0 ∧ wr = w) (fun _ _ _ => 1)
 case atStart => exact ⟨rfl, rfl, rfl⟩
 case round =>
  obtain ⟨rfl, rfl, rfl⟩ := hrel
  go_wp2
  go_step3
  go_wp2
  go_quiet (fail)
  have hb1 := hbd wr nq
  generalize HWX : wr.drewN nq = wx at hb1
  go_wp2
  refine wp_region_held_drew (S := (fun _ => True)) (by kernel_rfl) trivial (fun hHeld => ?_)
  obtain ⟨y0, HY0⟩ : ∃ x, Hid (x = wx.drew) := ⟨_, rfl⟩
  rw [← HY0.out]
  have hb0 : Below wr.heap.size wr y0 := by rw [HY0.out]; exact hb1.drew
  clear hb1
  refine take_l (i := 0) (v := ?rv9) rfl (by kernel_rfl) (by kernel_rfl) (by kernel_rfl) (fun _ _ _ h => h) (Or.inl ⟨by rfl, ?rhy9⟩) (by assumption) ?rrest9
  case rhy9 => (intro w hSw; (try dsimp only at hSw); go_simp; (try with_reducible rfl))
  try simp only [Act.put, fpA, fpZ, fpN]
  refine take_l (i := 1) (v := ?rv10) rfl (by kernel_rfl) (by kernel_rfl) (by kernel_rfl) (fun _ _ _ h => h) (Or.inl ⟨by rfl, ?rhy10⟩) (by assumption) ?rrest10
  case rhy10 => (intro w hSw; (try dsimp only at hSw); go_simp; (try with_reducible rfl))
  try simp only [Act.put, fpA, fpZ, fpN]
  refine take_l (i := 2) (v := ?rv11) rfl (by kernel_rfl) (by kernel_rfl) (by kernel_rfl) (fun _ _ _ h => h) (Or.inl ⟨by rfl, ?rhy11⟩) (by assumption) ?rrest11
  case rhy11 => (intro w hSw; (try dsimp only at hSw); go_simp; (try with_reducible rfl))
  try simp only [Act.put, fpA, fpZ, fpN]
  refine take_l (i := 3) (v := ?rv12) rfl (by kernel_rfl) (by kernel_rfl) (by kernel_rfl) (fun _ _ _ h => h) (Or.inl ⟨by rfl, ?rhy12⟩) (by assumption) ?rrest12
  case rhy12 => (intro w hSw; (try dsimp only at hSw); go_simp; (try with_reducible rfl))
  try simp only [Act.put, fpA, fpZ, fpN]
  refine take_l (i := 4) (v := ?rv13) rfl (by kernel_rfl) (by kernel_rfl) (by kernel_rfl) (fun _ _ _ h => h) (Or.inl ⟨by rfl, ?rhy13⟩) (by assumption) ?rrest13
  case rhy13 => (intro w hSw; (try dsimp only at hSw); go_simp; (try with_reducible rfl))
  try simp only [Act.put, fpA, fpZ, fpN]
  refine take_l (i := 5) (v := ?rv14) rfl (by kernel_rfl) (by kernel_rfl) (by kernel_rfl) (fun _ _ _ h => h) (Or.inl ⟨by rfl, ?rhy14⟩) (by assumption) ?rrest14
  case rhy14 => (intro w hSw; (try dsimp only at hSw); go_simp; (try with_reducible rfl))
  try simp only [Act.put, fpA, fpZ, fpN]
  refine take_l (i := 6) (v := ?rv15) rfl (by kernel_rfl) (by kernel_rfl) (by kernel_rfl) (fun _ _ _ h => h) (Or.inl ⟨by rfl, ?rhy15⟩) (by assumption) ?rrest15
  case rhy15 => (intro w hSw; (try dsimp only at hSw); go_simp; (try with_reducible rfl))
  try simp only [Act.put, fpA, fpZ, fpN]
  refine wpAnyH_ready (rs := [7]) (by kernel_rfl) (by simp) (cons_l rfl (fun K' hK' => ?_) AllReadyH.nil)
  rw [if_pos (by rfl)]
  go_simp
  go_at_call 117
  refine (hix _ _ (hex _ _)).out.mono ?_
  rintro e w' ⟨rfl, rfl⟩
  refine hK'.out _ _ trivial (fun hHeld => ?_)
  clear hK' K'
  try simp only [Act.put, fpA, fpZ, fpN]
  refine take_l (i := 8) (v := ?rv16) rfl (by kernel_rfl) (by kernel_rfl) (by kernel_rfl) (fun _ _ _ h => h) (Or.inl ⟨by rfl, ?rhy16⟩) (by assumption) ?rrest16
  case rhy16 => (intro w hSw; (try dsimp only at hSw); go_simp; (try with_reducible rfl))
  try simp only [Act.put, fpA, fpZ, fpN]
  refine wpAnyH_done (by kernel_rfl) ?_ _
  go_wp2
  rw [Exit.noGoto_ret]
  go_ret
  exact ⟨rfl, hb0⟩
set_option maxRecDepth 10000000 in
set_option maxHeartbeats 4000000 in
theorem IndexRune_four (r : Nat) (w : World) (h : 65536 ≤ r) (h2 : r ≤ 1114111) :
  Calls Tryz.prog 106 #[.string KS, .int .i32 r] w (NoRune w) := by
 have hI : ¬ (r : Int) < 128 := by omega
 have h0 : (0 : Int) ≤ (r : Int) := by omega
 have h1 : ¬ (r : Int) = 65533 := by omega
 have hvr := fun w => hid (ValidRune_any (r : Int) w)
 rw [show ((decide (0 ≤ (r : Int)) && decide ((r : Int) < 55296)) || (decide (57343 < (r : Int)) && decide ((r : Int) ≤ 1114111))) = true from (by simp; omega)] at hvr
 have he0 := enc_four h h2
 obtain ⟨S, HS⟩ : ∃ S, Hid (S = Utf8.encode (r : Int)) := ⟨_, rfl⟩
 have he : Utf8.encode (r : Int) = S := HS.out.symm
 rw [he] at he0
 have hSs : S.size = 4 := by rw [he0]; rfl
 obtain ⟨K, HK⟩ : ∃ K, Hid (K = KS) := ⟨_, rfl⟩
 have hKs : K.size = 39 := by rw [HK.out]; rfl
 have hK1 : 3 < K.size := by omega
 have hS1 : 3 < S.size := by omega
 have hKsm : (K[3]'hK1).toNat < 128 := by
  have e := HK.out
  subst e
  exact small_at 3 _
 have hSb : 128 ≤ (S[3]'hS1).toNat := by
  have key : ∀ (T : ByteArray) (h : 3 < T.size), T = ⟨#[UInt8.ofNat (240 + r / 262144), UInt8.ofNat (128 + r / 4096 % 64), UInt8.ofNat (128 + r / 64 % 64), UInt8.ofNat (128 + r % 64)]⟩ → 128 ≤ (T[3]'h).toNat := by
   intro T h e
   subst e
   show 128 ≤ (UInt8.ofNat (128 + r % 64)).toNat
   rw [UInt8.toNat_ofNat']; omega
  exact key S hS1 he0
 have hneq : (((K[3]'hK1).toNat : Int) != ((S[3]'hS1).toNat : Int)) = true := by simp; omega
 have hix := fun w (T : ByteArray) (hT : ∀ b ∈ T.data.toList, b.toNat < 128) => hid (StrIndexByte T ((S[3]'hS1).toNat : Int) w)
 have hix := fun (w : World) (T : ByteArray) (hT : ∀ b ∈ T.data.toList, b.toNat < 128) => hid ((StrIndexByte T ((S[3]'hS1).toNat : Int) w).mono fun e w' h => (by rw [large_none hT hSb] at h; exact h : e = .returned (.int .i64 (-1)) ∧ w' = w))
 have hex : ∀ a b, ∀ x ∈ (K.extract a b).data.toList, x.toNat < 128 := by
  have e := HK.out
  subst e
  exact fun a b => extract_small
 have hwL : IntKind.i64.wrap 4 = 4 := by rfl
 have hbd := fun (w : World) k => Below.refl w.heap.size w |> fun h => bdN h k
 clear he0 hKsm hSb
 rw [← HK.out]
 go_enter Tryz.func106, Tryz.ntmps106
 go_wp2_with (go_at_call 118; refine (hvr w).out.mono ?_; rintro e w' ⟨rfl, rfl⟩)
 go_step3
 go_wp2
 go_loopw [9, 10] (fun i f wr => i = .int .i64 3 ∧ f = .int .i64 0 ∧ wr = w) (fun _ _ _ => 1)
 case atStart => exact ⟨rfl, rfl, rfl⟩
 case round =>
  obtain ⟨rfl, rfl, rfl⟩ := hrel
  go_wp2
  go_step3
  go_wp2
  go_quiet (fail)
  have hb1 := hbd wr nq
  generalize HWX : wr.drewN nq = wx at hb1
  go_wp2
  refine wp_region_held_drew (S := (fun _ => True)) (by kernel_rfl) trivial (fun hHeld => ?_)
  obtain ⟨y0, HY0⟩ : ∃ x, Hid (x = wx.drew) := ⟨_, rfl⟩
  rw [← HY0.out]
  have hb0 : Below wr.heap.size wr y0 := by rw [HY0.out]; exact hb1.drew
  clear hb1
  refine take_l (i := 0) (v := ?rv17) rfl (by kernel_rfl) (by kernel_rfl) (by kernel_rfl) (fun _ _ _ h => h) (Or.inl ⟨by rfl, ?rhy17⟩) (by assumption) ?rrest17
  case rhy17 => (intro w hSw; (try dsimp only at hSw); go_simp; (try with_reducible rfl))
  try simp only [Act.put, fpA, fpZ, fpN]
  refine take_l (i := 1) (v := ?rv18) rfl (by kernel_rfl) (by kernel_rfl) (by kernel_rfl) (fun _ _ _ h => h) (Or.inl ⟨by rfl, ?rhy18⟩) (by assumption) ?rrest18
  case rhy18 => (intro w hSw; (try dsimp only at hSw); go_simp; (try with_reducible rfl))
  try simp only [Act.put, fpA, fpZ, fpN]
  refine take_l (i := 2) (v := ?rv19) rfl (by kernel_rfl) (by kernel_rfl) (by kernel_rfl) (fun _ _ _ h => h) (Or.inl ⟨by rfl, ?rhy19⟩) (by assumption) ?rrest19
  case rhy19 => (intro w hSw; (try dsimp only at hSw); go_simp; (try with_reducible rfl))
  try simp only [Act.put, fpA, fpZ, fpN]
  refine take_l (i := 3) (v := ?rv20) rfl (by kernel_rfl) (by kernel_rfl) (by kernel_rfl) (fun _ _ _ h => h) (Or.inl ⟨by rfl, ?rhy20⟩) (by assumption) ?rrest20
  case rhy20 => (intro w hSw; (try dsimp only at hSw); go_simp; (try with_reducible rfl))
  try simp only [Act.put, fpA, fpZ, fpN]
  refine take_l (i := 4) (v := ?rv21) rfl (by kernel_rfl) (by kernel_rfl) (by kernel_rfl) (fun _ _ _ h => h) (Or.inl ⟨by rfl, ?rhy21⟩) (by assumption) ?rrest21
  case rhy21 => (intro w hSw; (try dsimp only at hSw); go_simp; (try with_reducible rfl))
  try simp only [Act.put, fpA, fpZ, fpN]
  refine take_l (i := 5) (v := ?rv22) rfl (by kernel_rfl) (by kernel_rfl) (by kernel_rfl) (fun _ _ _ h => h) (Or.inl ⟨by rfl, ?rhy22⟩) (by assumption) ?rrest22
  case rhy22 => (intro w hSw; (try dsimp only at hSw); go_simp; (try with_reducible rfl))
  try simp only [Act.put, fpA, fpZ, fpN]
  refine take_l (i := 6) (v := ?rv23) rfl (by kernel_rfl) (by kernel_rfl) (by kernel_rfl) (fun _ _ _ h => h) (Or.inl ⟨by rfl, ?rhy23⟩) (by assumption) ?rrest23
  case rhy23 => (intro w hSw; (try dsimp only at hSw); go_simp; (try with_reducible rfl))
  try simp only [Act.put, fpA, fpZ, fpN]
  refine wpAnyH_ready (rs := [7]) (by kernel_rfl) (by simp) (cons_l rfl (fun K' hK' => ?_) AllReadyH.nil)
  rw [if_pos (by rfl)]
  go_simp
  go_at_call 117
  refine (hix _ _ (hex _ _)).out.mono ?_
  rintro e w' ⟨rfl, rfl⟩
  refine hK'.out _ _ trivial (fun hHeld => ?_)
  clear hK' K'
  try simp only [Act.put, fpA, fpZ, fpN]
  refine take_l (i := 8) (v := ?rv24) rfl (by kernel_rfl) (by kernel_rfl) (by kernel_rfl) (fun _ _ _ h => h) (Or.inl ⟨by rfl, ?rhy24⟩) (by assumption) ?rrest24
  case rhy24 => (intro w hSw; (try dsimp only at hSw); go_simp; (try with_reducible rfl))
  try simp only [Act.put, fpA, fpZ, fpN]
  refine wpAnyH_done (by kernel_rfl) ?_ _
  go_wp2
  rw [Exit.noGoto_ret]
  go_ret
  exact ⟨rfl, hb0⟩
theorem IndexRune_none (r : Nat) (w : World) (h : 128 ≤ r) (h2 : r ≤ 1114111) : Calls Tryz.prog 106 #[.string KS, .int .i32 r] w (NoRune w) := by
 by_cases he : r = 65533
 ·subst he; exact IndexRune_err w
 ·by_cases hv : Utf8.valid (r : Int) = true
  ·by_cases h3 : r < 2048
   ·exact IndexRune_two r w h h3
   ·by_cases h4 : r < 65536
    ·exact IndexRune_three r w (by omega) h4 he hv
    ·exact IndexRune_four r w (by omega) h2
  ·refine IndexRune_bad r w h he ?_
   unfold Utf8.valid at hv
   simp at hv ⊢
   omega
end Go.Proofs.YtbjmadcbhkeenaaGreat.wr
namespace Go.Proofs.YtbjmadcbhkeenaaGreat.wr
open Go.RowKit st hs shr sh
theorem nameC_large {r : Nat} (h : 128 ≤ r) : nameC (r : Int) = false := by
 cases e : nameC (r : Int)
 ·rfl
 ·have := nameC_small e; omega
theorem ContainsRune_any (r : Nat) (w : World) (h2 : r ≤ 1114111) : Calls Tryz.prog 79 #[.string KS, .int .i32 r] w fun e w' => e = .returned (.bool (nameC (r : Int))) ∧ Below w.heap.size w w' := by
 by_cases h : r < 128
 ·have hk := hid (KS_ascii ⟨r, h⟩)
  have hi := fun w => hid (IndexRune_ascii r w h)
  have e1 : UInt8.ofNat r = r.toUInt8 := rfl
  obtain ⟨I, HI⟩ : ∃ I, Hid (I = Lib.indexByte KS.data.toList r.toUInt8) := ⟨_, rfl⟩
  have hk2 : Hid (decide (0 ≤ I) = nameC (r : Int)) := hid (by rw [HI.out]; exact hk.out)
  rw [← HI.out] at hi
  obtain ⟨K, HK⟩ : ∃ K, Hid (K = KS) := ⟨_, rfl⟩
  rw [← HK.out] at hi ⊢
  go_enter Tryz.func79, Tryz.ntmps79
  go_wp2_with (go_at_call 106; refine (hi w).out.mono ?_; rintro e w' ⟨rfl, rfl⟩)
  go_ret
  exact ⟨rv (rb hk2.out), Below.refl _ _⟩
 ·have hi := fun w => hid (IndexRune_none r w (by omega) h2)
  have hn := hid (nameC_large (r := r) (by omega))
  rw [hn.out]
  obtain ⟨K, HK⟩ : ∃ K, Hid (K = KS) := ⟨_, rfl⟩
  rw [← HK.out] at hi ⊢
  go_enter Tryz.func79, Tryz.ntmps79
  go_wp2_with (go_at_call 106; refine (hi w).out.mono ?_; rintro e w' ⟨rfl, hb⟩)
  go_ret
  exact ⟨rfl, hb⟩
theorem notName_any (r : Nat) (w : World) (h2 : r ≤ 1114111) : Calls Tryz.prog 78 #[.int .i32 r] w fun e w' => e = .returned (.bool (!nameC (r : Int))) ∧ Below w.heap.size w w' := by
 have hc := fun w => hid (ContainsRune_any r w h2)
 have e : KS = ⟨#[97, 98, 99, 100, 101, 102, 103, 104, 105, 106, 107, 108, 109, 110, 111, 112, 113, 114, 115, 116, 117, 118, 119, 120, 121, 122, 48, 49, 50, 51, 52, 53, 54, 55, 56, 57, 45, 46, 95]⟩ := rfl
 rw [e] at hc
 obtain ⟨N, HN⟩ : ∃ N, Hid (N = nameC (r : Int)) := ⟨_, rfl⟩
 rw [← HN.out] at hc ⊢
 clear e
 go_enter Tryz.func78, Tryz.ntmps78
 go_wp2_with (go_at_call 79; refine (hc w).out.mono ?_; rintro e w' ⟨rfl, hb⟩)
 go_ret
 exact ⟨rfl, hb⟩
def badR (s : ByteArray) : Nat → Nat → Bool
 | 0, _ => false
 | f + 1, pos => if pos < s.size then !nameC ((Utf8.decode s pos).1 : Int) || badR s f (pos + (Utf8.decode s pos).2) else false
theorem badR_succ (s : ByteArray) (f pos : Nat) : badR s (f + 1) pos = if pos < s.size then !nameC ((Utf8.decode s pos).1 : Int) || badR s f (pos + (Utf8.decode s pos).2) else false := rfl
theorem badR_end (s : ByteArray) (f pos : Nat) (h : ¬ pos < s.size) : badR s f pos = false := by cases f <;> simp [badR, h]
theorem decode_low (s : ByteArray) (pos : Nat) (h : (s.get! pos).toNat < 128) : Utf8.decode s pos = ((s.get! pos).toNat, 1) := by
 unfold Utf8.decode
 simp only [Nat.add_zero]
 rw [if_pos h]
theorem decode_high (s : ByteArray) (pos : Nat) (h : 128 ≤ (s.get! pos).toNat) : 128 ≤ (Utf8.decode s pos).1 := by
 unfold Utf8.decode Utf8.runeError
 simp only [Nat.add_zero]
 rw [if_neg (by omega)]
 repeat' split
 all_goals (first | (simp only; omega) | (simp at *; omega) | (simp; done))
theorem badR_all (s : ByteArray) : ∀ f pos, s.size ≤ pos + f → badR s f pos = ((s.data.toList.drop pos).any fun c => !nameC (c.toNat : Int))
 | 0, pos, h => by
  rw [List.drop_of_length_le (by show s.data.toList.length ≤ pos; simpa using h)]
  rfl
 | f + 1, pos, h => by
  unfold badR
  by_cases hp : pos < s.size
  ·rw [if_pos hp]
   have hl : pos < s.data.toList.length := by simpa using hp
   have hg : s.get! pos = s.data.toList[pos] := by
    show s.data[pos]! = _
    rw [getElem!_pos s.data pos (by simpa using hl)]; simp
   rw [List.drop_eq_getElem_cons hl, List.any_cons]
   by_cases hc : (s.get! pos).toNat < 128
   ·rw [decode_low s pos hc, badR_all s f (pos + 1) (by omega), hg]
   ·have hd := decode_high s pos (by omega)
    have h1 : nameC ((Utf8.decode s pos).1 : Int) = false := nameC_large hd
    have h2 : nameC ((s.data.toList[pos]).toNat : Int) = false := nameC_large (by rw [← hg]; omega)
    rw [h1, h2]; rfl
  ·rw [if_neg hp, List.drop_of_length_le (by simpa using hp)]
   rfl
set_option maxHeartbeats 2000000 in
theorem indexFunc_any (s : ByteArray) (w : World) :
  Calls Tryz.prog 116 #[.string s, .func (.func 78) #[] #[], .bool true] w fun e w' => ∃ i : Int, e = .returned (.int .i64 i) ∧ decide (0 ≤ i) = badR s s.size 0 ∧ Below w.heap.size w w' := by
 have hfn := fun (r : Nat) (w : World) (h : r ≤ 1114111) => hid (notName_any r w h)
 go_enter Tryz.func116, Tryz.ntmps116
 go_wp2
 go_loopg [] s.size (fun gf wx => ∃ pos : Nat, wx.heap[w.heap.size]? = some (.stringIter s pos) ∧ Below w.heap.size w wx ∧ Hid (badR s gf pos = badR s s.size 0) ∧ s.size ≤ pos + gf)
 case atStart => exact ⟨0, World.iter_heap w s 0, (Below.refl _ w).alloc (Nat.le_refl _) _, rfl, by omega⟩
 case round =>
  obtain ⟨pos, hit, hbw, hleft, hfu⟩ := hrel
  by_cases hps : pos < s.size
  ·obtain ⟨g', rfl⟩ : ∃ g', gk = g' + 1 := ⟨gk - 1, by omega⟩
   have hnx : ∀ ty, (Instr.next (.pointer (some ⟨w.heap.size, 0, none⟩)) true ty).run Tryz.prog wr = _ := fun ty => Lib.run_next_any_at wr w.heap.size s pos ty hit hps
   have hwd := Lib.width_pos s pos
   have hle := Lib.rune_le s pos
   have hl2 := hleft.out
   obtain ⟨R, hR⟩ : ∃ R, (Utf8.decode s pos).1 = R := ⟨_, rfl⟩
   obtain ⟨K, hK⟩ : ∃ K, (Utf8.decode s pos).2 = K := ⟨_, rfl⟩
   rw [badR_succ, if_pos hps, hR, hK] at hl2
   rw [hR, hK] at hnx
   rw [hK] at hwd
   rw [hR] at hle
   have hit2 := Lib.iterAt_heap wr w.heap.size s pos (pos + K) hit
   have hbw2 := Lib.below_iterAt hbw (k := w.heap.size) (Nat.le_refl _) s (pos + K)
   obtain ⟨W, hWd⟩ : ∃ W, wr.iterAt w.heap.size s (pos + K) = W := ⟨_, rfl⟩
   rw [hWd] at hnx hit2 hbw2
   have hltW : w.heap.size < W.heap.size := (Array.getElem?_eq_some_iff.1 hit2).1
   have cS := hfn R W hle
   clear hfn hleft
   cases hsp : nameC (R : Int) <;> rw [hsp] at cS hl2
   ·have HL2 := hid hl2
    clear hl2 hsp
    go_wp2_with (go_at_call 78; refine cS.out.mono ?_; rintro e W' ⟨rfl, hbc⟩)
    go_ret
    exact ⟨_, rfl, by rw [← HL2.out]; simp, hbw2.trans (hbc.mono hbw2.size)⟩
   ·have HL2 : Hid (badR s g' (pos + K) = badR s s.size 0) := hid (by rw [← hl2]; simp)
    clear hl2 hsp
    go_wp2_with (go_at_call 78; refine cS.out.mono ?_; rintro e W' ⟨rfl, hbc⟩)
    go_roundg g'
    case measure => omega
    case rel => exact ⟨pos + K, (hbc.block _ hltW).trans hit2, hbw2.trans (hbc.mono hbw2.size), HL2, by omega⟩
  ·have hnx : ∀ ty, (Instr.next (.pointer (some ⟨w.heap.size, 0, none⟩)) true ty).run Tryz.prog wr = _ := fun ty => Lib.run_next_end_at wr w.heap.size s pos ty hit hps
   have hl2 := hid (hleft.out.symm.trans (badR_end s gk pos hps))
   go_wp2
   go_ret
   exact ⟨_, rfl, by rw [hl2.out]; rfl, hbw⟩
theorem IndexFunc_any (s : ByteArray) (w : World) :
  Calls Tryz.prog 105 #[.string s, .func (.func 78) #[] #[]] w fun e w' => ∃ i : Int, e = .returned (.int .i64 i) ∧ decide (0 ≤ i) = badR s s.size 0 ∧ Below w.heap.size w w' := by
 have hi := fun w => hid (indexFunc_any s w)
 go_enter Tryz.func105, Tryz.ntmps105
 go_wp2_with (go_at_call 116; refine (hi w).out.mono ?_; rintro e w' ⟨i, rfl, h1, h2⟩)
 go_ret
 exact ⟨_, rfl, h1, h2⟩
theorem ContainsFunc_any (s : ByteArray) (w : World) :
  Calls Tryz.prog 77 #[.string s, .func (.func 78) #[] #[]] w fun e w' => e = .returned (.bool (badR s s.size 0)) ∧ Below w.heap.size w w' := by
 have hi := fun w => hid (IndexFunc_any s w)
 go_enter Tryz.func77, Tryz.ntmps77
 go_wp2_with (go_at_call 105; refine (hi w).out.mono ?_; rintro e w' ⟨i, rfl, h1, h2⟩; have H1 := hid h1; clear h1)
 go_ret
 exact ⟨rv (rb H1.out), h2⟩
theorem isName_bad2 (s : ByteArray) : isName s = (!badR s s.size 0 && (decide (0 < s.size) && decide (s.size ≤ 32))) := by
 rw [badR_all s s.size 0 (by omega), List.drop_zero]
 unfold isName
 congr 1
 rw [List.not_any_eq_all_not]
 simp
set_option maxHeartbeats 1000000 in
theorem RefIsName_any (s : ByteArray) (w : World) (hs : s.size ≤ maxLen) :
  Calls Tryz.prog 55 #[.string s] w fun e w' => e = .returned (.bool (isName s)) ∧ Below w.heap.size w w' := by
 unfold maxLen at hs
 have hc := fun w => hid (ContainsFunc_any s w)
 have hn := hid (isName_bad2 s)
 by_cases h0 : s = ⟨#[]⟩
 ·subst h0
  have e : isName ⟨#[]⟩ = false := by decide
  rw [e]
  clear hc hn e
  go_enter Tryz.func55, Tryz.ntmps55
  go_wp2
  go_ret
  exact ⟨rfl, Below.refl _ _⟩
 ·have hpos : 0 < s.size := by
   rcases Nat.eq_zero_or_pos s.size with h | h
   ·exact absurd (by cases s; rename_i d; congr 1; exact Array.eq_empty_of_size_eq_zero h) h0
   ·exact h
  have hne : (s.toList == []) = false := by
   have h1 := str_ne h0
   have h2 : (⟨#[]⟩ : ByteArray).toList = [] := by rw [toList_eq]
   rw [h2] at h1
   exact h1
  by_cases h32 : s.size ≤ 32
  ·have hI : (s.size : Int) ≤ 32 := by omega
   have e : Hid (isName s = !badR s s.size 0) := hid (by rw [hn.out, decide_eq_true hpos, decide_eq_true h32]; simp)
   rw [e.out]
   obtain ⟨b, Hb⟩ : ∃ b, Hid (b = badR s s.size 0) := ⟨_, rfl⟩
   rw [← Hb.out] at hc ⊢
   clear h0 e hn
   go_enter Tryz.func55, Tryz.ntmps55
   go_wp2_with (go_at_call 77; refine (hc w).out.mono ?_; rintro e w' ⟨rfl, hb⟩)
   go_ret
   exact ⟨rfl, hb⟩
  ·have hI : ¬ (s.size : Int) ≤ 32 := by omega
   have e : isName s = false := by rw [hn.out, decide_eq_false h32]; simp
   rw [e]
   clear h0 e hn hc
   go_enter Tryz.func55, Tryz.ntmps55
   go_wp2
   go_ret
   exact ⟨rfl, Below.refl _ _⟩
end Go.Proofs.YtbjmadcbhkeenaaGreat.wr
