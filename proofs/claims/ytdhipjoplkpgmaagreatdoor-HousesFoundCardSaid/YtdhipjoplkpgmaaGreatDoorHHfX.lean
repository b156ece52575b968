/-
  HousesFound: contract of house.New. Conditions: the roles lie in memory. HousesFound, the reference: strings.Contains over "mr", uses, bodyForm. Conditions: none. HousesFound, the reference: uses and bodyForm of act 2. Conditions: the founder is not zero. HousesFound, the reference: BodyError of act 2. Conditions: the founder is not zero; the roles lie in memory. HousesFound, the reference: PrintBody of act 2. Conditions: the founder is not zero; the roles lie in memory. HousesFound, the reference: the octet reader's take and one. Conditions: enough octets are left. HousesFound, the reference: ParseBody at a printed body of act 2. Conditions: a body without an error, its octets in memory; the founder is not zero.
-/
import Derived.Test.YtdhipjoplkpgmaaGreatDoorHHfU
import Derived.Test.YtdhipjoplkpgmaaGreatDoorHHld
set_option maxRecDepth 100000
set_option linter.unusedSimpArgs false
set_option linter.unusedVariables false
set_option maxHeartbeats 16000000
namespace Go.Proofs.YtdhipjoplkpgmaaGreatDoor.hf
open Go.RowKit st hs wr shr sh lk
theorem builtBodyMR {F : List Value} (hF : F.length = 16) (a : Option Addr) (n c : Nat) : Tryz.prog.built 42 [(1, .agg F.toArray), (2, .slice a n c)] = some (bodyC F (.slice a n c)).toArray := by
 obtain ⟨a0, a1, a2, a3, a4, a5, a6, a7, a8, a9, a10, a11, a12, a13, a14, a15, rfl⟩ := list16 hF
 kernel_rfl
theorem HouseNew.only {w w' : World} {B h g mm mk mv L ms : Nat} {R : List Value} (h1 : HouseNew w B h g mm mk mv L ms R) (k : Only w.heap.size [g, mm, mv, L] w w') : HouseNew w' B h g mm mk mv L ms R := by
 obtain ⟨a, b, c, d⟩ := h1
 refine ⟨k.blk a a.lt ?_, (k.block _ (Array.getElem?_eq_some_iff.1 b).1 ?_).trans b, c, d⟩
 ·obtain ⟨_, ⟨e1, e2, e3, e4⟩, _⟩ := d
  simp [e1, e2, e3, e4]
 ·obtain ⟨_, _, _, ⟨e1, e2, e3, e4⟩⟩ := d
  simp [e1, e2, e3, e4]
theorem HouseNew.lower {w : World} {B B' h g mm mk mv L ms : Nat} {R : List Value} (h1 : HouseNew w B h g mm mk mv L ms R) (hB : B' ≤ B) : HouseNew w B' h g mm mk mv L ms R := by
 obtain ⟨a, b, ⟨c1, c2, c3, c4, c5, c6, c7⟩, d⟩ := h1
 exact ⟨a, b, ⟨by omega, by omega, by omega, by omega, by omega, by omega, by omega⟩, d⟩
def NewPost (R : List Value) (f : List Int) (rs : List ByteArray) (t : Int) (w : World) (e : Ending) (w' : World) : Prop := Below w.heap.size w w' ∧ ((foundE f rs t ≠ 0 ∧ e = .returned (.tuple #[.pointer none, .int .i64 (foundE f rs t)])) ∨
 (foundE f rs t = 0 ∧ ∃ h g mm mk mv L ms, e = .returned (.tuple #[.pointer (some ⟨h, 0, none⟩), .int .i64 0]) ∧ HouseNew w' w.heap.size h g mm mk mv L ms R ∧ Founded w' w.heap.size g mm mk mv L t f rs))
theorem New_zero (R : List Value) (hR : R.length = 32) (t : Int) (rv : Value) (w : World) : Calls Tryz.prog 4 #[.agg R.toArray, .agg zID.toArray, rv, .int .i64 t] w fun e w' => e = .returned (.tuple #[.pointer none, .int .i64 2]) ∧ Below w.heap.size w w' := by
 have hzz : Hid (∀ w, (Op.equalIn 10000 25 (.agg zID.toArray) (.agg zID.toArray)).run Tryz.prog w = .ok true w) := hid (fun w => by rw [show zID = (List.replicate 16 (0 : Int)).map (Value.int .u8) from rfl, run_eq_id' w _ _ (by simp) (by simp)]; simp)
 have hbi := hid builtID0
 obtain ⟨ZI, HZI⟩ := hidE zID
 have hZIl : ZI.length = 16 := by rw [HZI.out]; rfl
 rw [← HZI.out] at hzz hbi ⊢
 obtain ⟨B, hsz⟩ := szE w
 rw [hsz]
 go_enter Tryz.func4, Tryz.ntmps4
 go_wp2_with (first
  | (refine wl_eqK 14 rfl (by kernel_rfl) 25 _ _ _ rfl ZI.toArray ZI.toArray rfl rfl true (hzz.out _) (by kernel_rfl) ?_)
  | (refine wl_build0G (by kernel_rfl) 25 rfl ZI hbi.out ?_)
  | (refine wl_loadG (by kernel_rfl) 25 _ rfl ⟨B + 1, 0, none⟩ rfl 16 ZI hZIl aggIDT hE2.at0 ?_)
  | (refine wl_boxV rfl 25 _ rfl ZI rfl (B + 1) (by omega) ?_; intro w2 hE2 hb2 hs2; have bb2 : Below B w w2 := bb1.trans (hb2.mono (by omega)))
  | (refine wl_boxV rfl 23 _ rfl R rfl B hsz ?_; intro w1 hR1 bb1 hs1))
 go_ret2
 exact ⟨rfl, bb2⟩
theorem New_err (R : List Value) (hR : R.length = 32) (t : Int) (f : List Int) (hf : f.length = 16) (h0 : f ≠ List.replicate 16 0) (ao : Option Addr) (cap : Nat) (rs : List ByteArray) (cd : Int) (hcd : cd ≠ 0) (w : World)
  (hN : ∀ g mm mk mv w', Below w.heap.size w w' → StOk w' g mm mk mv → Calls Tryz.prog 35 #[.pointer (some ⟨g, 0, none⟩), .int .i64 t, .int .i64 2, .agg (f.map (Value.int .u8)).toArray, .agg zID.toArray, .agg (bodyC (f.map (Value.int .u8)) (.slice ao rs.length cap)).toArray] w' (fun e w'' => e = .returned (.tuple #[.agg entZ.toArray, .int .i64 cd]) ∧ Below w'.heap.size w' w'')) :
  Calls Tryz.prog 4 #[.agg R.toArray, .agg (f.map (Value.int .u8)).toArray, .slice ao rs.length cap, .int .i64 t] w fun e w' => e = .returned (.tuple #[.pointer none, .int .i64 cd]) ∧ Below w.heap.size w w' := by
 have hwr := fun (h g mm mk mv L ms : Nat) (w' : World) (hb : Below w.heap.size w w') (hS : StOk w' g mm mk mv) (hL : BlkV 162 w' L (ledC (.slice none 0 0) (.slice none 0 0) 0 zSum (.slice none 0 0))) (hH : BlkV 81 w' h (houC R g L ms)) => hid (write_err h g mm mk mv L ms R hR t f hf (.slice ao rs.length cap) cd w' hcd hH rfl (fun w'' hb' => hN g mm mk mv w'' (hb.trans (hb'.mono hb.size)) (hS.below hb' (Nat.le_refl _))))
 have hFl : (f.map (Value.int .u8)).length = 16 := by rw [List.length_map, hf]
 have hbb := hid (builtBodyMR hFl ao rs.length cap)
 have hfz : Hid (∀ w, (Op.equalIn 10000 25 (.agg (f.map (Value.int .u8)).toArray) (.agg zID.toArray)).run Tryz.prog w = .ok false w) := hid (fun w => by rw [show zID = (List.replicate 16 (0 : Int)).map (Value.int .u8) from rfl, run_eq_id' w f _ hf (by simp)]; congr 1; simpa using h0)
 have hbi := hid builtID0
 have hem := fun w' => hid (empty_ok R hR w')
 obtain ⟨LC, HLC⟩ := hidE (ledC (.slice none 0 0) (.slice none 0 0) 0 zSum (.slice none 0 0))
 rw [← HLC.out] at hem hwr
 obtain ⟨RV, HRV⟩ := hidE (Value.slice ao rs.length cap)
 rw [← HRV.out] at hbb hwr ⊢
 obtain ⟨BS, HBS⟩ := hidE (bodyC (f.map (Value.int .u8)) RV)
 rw [← HBS.out] at hbb hwr
 obtain ⟨F, HF⟩ := hidE (f.map (Value.int .u8))
 rw [← HF.out] at hfz hbb hFl hwr ⊢
 obtain ⟨ZI, HZI⟩ := hidE zID
 rw [← HZI.out] at hfz hbi hwr
 have hcd' : decide (cd = 0) = false := by simp [hcd]
 obtain ⟨B, hsz⟩ := szE w
 rw [hsz] at hwr ⊢
 obtain ⟨Q, HQ⟩ : ∃ Q : Ending → World → Prop, Hid (Q = fun e w' => e = .returned (.tuple #[.pointer none, .int .i64 cd]) ∧ Below B w w') := ⟨_, rfl⟩
 rw [← HQ.out]
 have HPQ : Hid (∀ w', Below B w w' → Q (.returned (.tuple #[.pointer none, .int .i64 cd])) w') := hid (by rw [HQ.out]; exact fun w' h => ⟨rfl, h⟩)
 clear hN
 go_enter Tryz.func4, Tryz.ntmps4
 go_wp2_with (first
  | (go_at_call 9; refine (hwr h g mm mk mv L ms w3 bb3 hS3 hL3 hN3.hou).out.mono ?_; rintro e w4 ⟨rfl, hb4⟩; have bb4 : Below B w w4 := bb3.trans (hb4.mono (by have := bb3.size; omega)))
  | (refine wl_buildL rfl 42 _ rfl [(1, .agg F.toArray), (2, RV)] rfl BS hbb.out ?_)
  | (go_at_call 8; refine (hem w2).out.mono ?_; rintro e w3 ⟨h, g, mm, mk, mv, L, ms, rfl, hS3, hL3, hN3, hb3⟩; have hE3 := hE2.below hb3 (by omega); have bb3 : Below B w w3 := bb2.trans (hb3.mono (by omega)))
  | (refine wl_loadG (by kernel_rfl) 23 _ rfl ⟨B, 0, none⟩ rfl 32 R hR aggKey32 hR2.at0 ?_)
  | (refine wl_eqK 14 rfl (by kernel_rfl) 25 _ _ _ rfl F.toArray ZI.toArray rfl rfl false (hfz.out _) (by kernel_rfl) ?_)
  | (refine wl_build0G (by kernel_rfl) 25 rfl ZI hbi.out ?_)
  | (refine wl_loadG (by kernel_rfl) 25 _ rfl ⟨B + 1, 0, none⟩ rfl 16 F hFl aggIDT hE3.at0 ?_)
  | (refine wl_loadG (by kernel_rfl) 25 _ rfl ⟨B + 1, 0, none⟩ rfl 16 F hFl aggIDT hE2.at0 ?_)
  | (refine wl_boxV rfl 25 _ rfl F rfl (B + 1) (by omega) ?_; intro w2 hE2 hb2 hs2; have hR2 := hR1.below hb2 (by omega); have bb2 : Below B w w2 := bb1.trans (hb2.mono (by omega)))
  | (refine wl_boxV rfl 23 _ rfl R rfl B hsz ?_; intro w1 hR1 bb1 hs1))
 (try simp only [Exit.inBlock, Exit.then])
 exact HPQ.out _ bb4
theorem New_ok (R : List Value) (hR : R.length = 32) (t : Int) (f : List Int) (hf : f.length = 16) (of : Octs f) (h0 : f ≠ List.replicate 16 0) (ao : Option Addr) (cap : Nat) (rs : List ByteArray) (w : World) (hr : RowS w ao rs) (hs : ∀ i, i < rs.length → (roleAt rs i).size ≤ maxLen) (hn : rs.length ≤ 9223372036854775807) (hE : bodyE rs = 0) (ht : timeE t = 0) :
  Calls Tryz.prog 4 #[.agg R.toArray, .agg (f.map (Value.int .u8)).toArray, .slice ao rs.length cap, .int .i64 t] w fun e w' => (∃ h g mm mk mv L ms, e = .returned (.tuple #[.pointer (some ⟨h, 0, none⟩), .int .i64 0]) ∧ HouseNew w' w.heap.size h g mm mk mv L ms R ∧ Founded w' w.heap.size g mm mk mv L t f rs) ∧ Below w.heap.size w w' := by
 have hwr := fun (h g mm mk mv L ms : Nat) (w' : World) (hb : Below w.heap.size w w') (B0 : Nat) (hS : StOk w' g mm mk mv) (hL : BlkV 162 w' L (ledC (.slice none 0 0) (.slice none 0 0) 0 zSum (.slice none 0 0))) (hH : HouseNew w' B0 h g mm mk mv L ms R) => hid (write_ok h g mm mk mv L ms B0 R hR t f hf of h0 ao cap rs w' (hr.below hb) hs hn hE ht hS hL hH)
 have hFl : (f.map (Value.int .u8)).length = 16 := by rw [List.length_map, hf]
 have hbb := hid (builtBodyMR hFl ao rs.length cap)
 have hfz : Hid (∀ w, (Op.equalIn 10000 25 (.agg (f.map (Value.int .u8)).toArray) (.agg zID.toArray)).run Tryz.prog w = .ok false w) := hid (fun w => by rw [show zID = (List.replicate 16 (0 : Int)).map (Value.int .u8) from rfl, run_eq_id' w f _ hf (by simp)]; congr 1; simpa using h0)
 have hbi := hid builtID0
 have hem := fun w' => hid (empty_ok R hR w')
 obtain ⟨LC, HLC⟩ := hidE (ledC (.slice none 0 0) (.slice none 0 0) 0 zSum (.slice none 0 0))
 rw [← HLC.out] at hem hwr
 obtain ⟨RV, HRV⟩ := hidE (Value.slice ao rs.length cap)
 rw [← HRV.out] at hbb hwr ⊢
 obtain ⟨BS, HBS⟩ := hidE (bodyC (f.map (Value.int .u8)) RV)
 rw [← HBS.out] at hbb hwr
 obtain ⟨F, HF⟩ := hidE (f.map (Value.int .u8))
 rw [← HF.out] at hfz hbb hFl hwr ⊢
 obtain ⟨ZI, HZI⟩ := hidE zID
 rw [← HZI.out] at hfz hbi hwr
 obtain ⟨B, hsz⟩ := szE w
 rw [hsz] at hwr ⊢
 obtain ⟨Q, HQ⟩ : ∃ Q : Ending → World → Prop, Hid (Q = fun e w' => (∃ h g mm mk mv L ms, e = .returned (.tuple #[.pointer (some ⟨h, 0, none⟩), .int .i64 0]) ∧ HouseNew w' B h g mm mk mv L ms R ∧ Founded w' B g mm mk mv L t f rs) ∧ Below B w w') := ⟨_, rfl⟩
 rw [← HQ.out]
 have HPQ : Hid (∀ w' h g mm mk mv L ms, HouseNew w' B h g mm mk mv L ms R → Founded w' B g mm mk mv L t f rs → Below B w w' → Q (.returned (.tuple #[.pointer (some ⟨h, 0, none⟩), .int .i64 0])) w') := hid (by rw [HQ.out]; exact fun w' h g mm mk mv L ms h1 h2 h3 => ⟨⟨h, g, mm, mk, mv, L, ms, rfl, h1, h2⟩, h3⟩)
 clear hr hs hn hE ht
 go_enter Tryz.func4, Tryz.ntmps4
 go_wp2_with (first
  | (go_at_call 9; refine (hwr h g mm mk mv L ms w3 bb3 _ hS3 hL3 hN3).out.mono ?_; rintro e w4 ⟨rfl, hF4, ho4⟩)
  | (refine wl_buildL rfl 42 _ rfl [(1, .agg F.toArray), (2, RV)] rfl BS hbb.out ?_)
  | (go_at_call 8; refine (hem w2).out.mono ?_; rintro e w3 ⟨h, g, mm, mk, mv, L, ms, rfl, hS3, hL3, hN3, hb3⟩; have hE3 := hE2.below hb3 (by omega); have bb3 : Below B w w3 := bb2.trans (hb3.mono (by omega)))
  | (refine wl_loadG (by kernel_rfl) 23 _ rfl ⟨B, 0, none⟩ rfl 32 R hR aggKey32 hR2.at0 ?_)
  | (refine wl_eqK 14 rfl (by kernel_rfl) 25 _ _ _ rfl F.toArray ZI.toArray rfl rfl false (hfz.out _) (by kernel_rfl) ?_)
  | (refine wl_build0G (by kernel_rfl) 25 rfl ZI hbi.out ?_)
  | (refine wl_loadG (by kernel_rfl) 25 _ rfl ⟨B + 1, 0, none⟩ rfl 16 F hFl aggIDT hE3.at0 ?_)
  | (refine wl_loadG (by kernel_rfl) 25 _ rfl ⟨B + 1, 0, none⟩ rfl 16 F hFl aggIDT hE2.at0 ?_)
  | (refine wl_boxV rfl 25 _ rfl F rfl (B + 1) (by omega) ?_; intro w2 hE2 hb2 hs2; have hR2 := hR1.below hb2 (by omega); have bb2 : Below B w w2 := bb1.trans (hb2.mono (by omega)))
  | (refine wl_boxV rfl 23 _ rfl R rfl B hsz ?_; intro w1 hR1 bb1 hs1))
 (try simp only [Exit.inBlock, Exit.then])
 have hB3 : B ≤ w3.heap.size := by have := hb3.size; omega
 have hlow := hN3.low
 exact HPQ.out _ _ _ _ _ _ _ _ ((hN3.only ho4).lower (by omega)) (hF4.low hB3) (bb3.trans ((ho4.mono hB3 (fun k hk => Or.inl hk)).below (fun k hk => by simp only [List.mem_cons, List.not_mem_nil, or_false] at hk; omega)))
theorem New_any (R : List Value) (hR : R.length = 32) (t : Int) (f : List Int) (hf : f.length = 16) (of : Octs f) (ao : Option Addr) (cap : Nat) (rs : List ByteArray) (w : World) (hr : RowS w ao rs) (hs : ∀ i, i < rs.length → (roleAt rs i).size ≤ maxLen) (hn : rs.length ≤ 9223372036854775807) :
  Calls Tryz.prog 4 #[.agg R.toArray, .agg (f.map (Value.int .u8)).toArray, .slice ao rs.length cap, .int .i64 t] w (NewPost R f rs t w) := by
 by_cases h0 : f = List.replicate 16 0
 ·have hz : f.map (Value.int .u8) = zID := by rw [h0]; rfl
  rw [hz]
  refine (New_zero R hR t _ w).mono ?_
  rintro e w' ⟨rfl, hb⟩
  have e : foundE f rs t = 2 := by unfold foundE; rw [if_pos h0]
  exact ⟨hb, Or.inl ⟨by rw [e]; decide, by rw [e]⟩⟩
 by_cases hE : bodyE rs = 0
 ·have e2 : foundE f rs t = timeE t := by unfold foundE timeE; rw [if_neg h0, if_neg (by simp [hE])]
  by_cases ht : timeE t = 0
  ·refine (New_ok R hR t f hf of h0 ao cap rs w hr hs hn hE ht).mono ?_
   rintro e w' ⟨⟨h, g, mm, mk, mv, L, ms, rfl, h1, h2⟩, hb⟩
   exact ⟨hb, Or.inr ⟨by rw [e2]; exact ht, h, g, mm, mk, mv, L, ms, rfl, h1, h2⟩⟩
  ·refine (New_err R hR t f hf h0 ao cap rs (timeE t) ht w (fun g mm mk mv w' hb hS => (Next_late g mm mk mv t f hf of ao cap rs w' hS.blk (hr.below hb) hs hn hE ht).mono ?_)).mono ?_
   ·rintro e w'' ⟨hb', h | h | h⟩
    ·exact absurd hE h.1
    ·exact ⟨h.2.2, hb'⟩
    ·exact absurd h.2.1 ht
   ·rintro e w' ⟨rfl, hb⟩
    exact ⟨hb, Or.inl ⟨by rw [e2]; exact ht, by rw [e2]⟩⟩
 ·have e2 : foundE f rs t = bodyE rs := by unfold foundE; rw [if_neg h0, if_pos hE]
  refine (New_err R hR t f hf h0 ao cap rs (bodyE rs) hE w (fun g mm mk mv w' hb hS => (Next_bad g mm mk mv t f hf of ao cap rs w' hS.blk (hr.below hb) hs hn hE).mono ?_)).mono ?_
  ·rintro e w'' ⟨hb', h | h | h⟩
   ·exact ⟨h.2, hb'⟩
   ·exact absurd h.1 hE
   ·exact absurd h.1 hE
  ·rintro e w' ⟨rfl, hb⟩
   exact ⟨hb, Or.inl ⟨by rw [e2]; exact hE, by rw [e2]⟩⟩
end Go.Proofs.YtdhipjoplkpgmaaGreatDoor.hf
namespace Go.Proofs.YtdhipjoplkpgmaaGreatDoor.hf
open Go.RowKit st hs wr shr sh lk
def MR : ByteArray := ⟨#[109, 114]⟩
theorem mrL : MR.toList = [109, 114] := by kernel_rfl
theorem idxB (c : UInt8) (w : World) : Calls Tryz.prog 379 #[.string MR, .int .u8 (c.toNat : Int)] w fun e w' => e = .returned (.int .i64 (Lib.indexByte [109, 114] c)) ∧ w = w' := by
 go_enter Tryz.func379, Tryz.ntmps379
 go_wp2
 rw [run_callFunc_extern Tryz.func438 (by kernel_rfl) (by kernel_rfl) (by kernel_rfl) (e := Extern.BytealgIndexByte.indexByte) (by kernel_rfl), Lib.run_indexByteString]
 simp only [Result.andThen]
 rw [Oper.upon_value]
 go_wp2
 go_ret
 exact ⟨by simp [MR], rfl⟩
theorem idxS (c : UInt8) (w : World) : Calls Tryz.prog 374 #[.string MR, .string ⟨#[c]⟩] w fun e w' => e = .returned (.int .i64 (Lib.indexByte [109, 114] c)) ∧ w = w' := by
 have hne : ([c] == MR.toList) = false := by rw [mrL]; simp
 go_enter Tryz.func374, Tryz.ntmps374
 go_wp2_with (first | (go_at_call 379; refine (idxB c w).mono ?_; rintro e w1 ⟨rfl, rfl⟩))
 go_ret
 exact ⟨rfl, rfl⟩
theorem Contains_mr (c : UInt8) (b : Bool) (hb : decide (0 ≤ Lib.indexByte [109, 114] c) = b) (w : World) : Calls Tryz.prog 267 #[.string MR, .string ⟨#[c]⟩] w fun e w' => e = .returned (.bool b) ∧ w = w' := by
 have h1 : ∀ w, Calls Tryz.prog 359 #[.string MR, .string ⟨#[c]⟩] w fun e w' => e = .returned (.int .i64 (Lib.indexByte [109, 114] c)) ∧ w = w' := fun w => by
  go_enter Tryz.func359, Tryz.ntmps359
  go_wp2_with (first | (go_at_call 374; refine (idxS c w).mono ?_; rintro e w1 ⟨rfl, rfl⟩))
  go_ret
  exact ⟨rfl, rfl⟩
 obtain ⟨n, Hn⟩ := hidE (Lib.indexByte [109, 114] c)
 rw [← Hn.out] at h1 hb
 go_enter Tryz.func267, Tryz.ntmps267
 go_wp2_with (first | (go_at_call 359; refine (h1 w).mono ?_; rintro e w1 ⟨rfl, rfl⟩))
 go_ret
 exact ⟨by rw [← hb]; rfl, rfl⟩
end Go.Proofs.YtdhipjoplkpgmaaGreatDoor.hf
namespace Go.Proofs.YtdhipjoplkpgmaaGreatDoor.hf
open Go.RowKit st hs wr shr sh lk
theorem uses_two (w : World) : Calls Tryz.prog 161 #[.int .i64 2] w fun e w' => e = .returned (.string MR) ∧ Below w.heap.size w w' := by
 obtain ⟨B, hsz⟩ := szE w
 rw [hsz]
 go_enter Tryz.func161, Tryz.ntmps161
 go_wp2_with (first
  | (refine wl_lit rfl 26 9 13 _ rfl Tryz.underlying26 (.string ⟨#[]⟩) 1 16 infoStr (by decide) (by decide) [.string ⟨#[]⟩, .string ⟨#[116]⟩, .string MR, .string ⟨#[109]⟩, .string ⟨#[108, 99]⟩, .string ⟨#[101, 99]⟩, .string ⟨#[112, 101, 99]⟩, .string ⟨#[97]⟩, .string ⟨#[99]⟩, .string ⟨#[110, 104, 101, 99]⟩, .string ⟨#[104, 101, 99]⟩, .string ⟨#[118, 99]⟩, .string ⟨#[118, 107, 99]⟩] (by kernel_rfl) B hsz ?_; intro w1 hL1 hb1 hs1; have c2 : w1.cell? ⟨B, 2, none⟩ = some (.string MR) := (hL1.cell 2).trans rfl))
 go_ret
 exact ⟨rfl, hb1⟩
def fldT (b : Bool) : List (UInt8 × Bool) := [(116, false), (109, true), (114, b), (108, false), (99, false), (101, false), (112, false), (97, false), (110, false), (104, false), (118, false), (107, false)]
def fldC (b : Bool) : List Value := [.string ⟨#[116]⟩, .bool false, .string ⟨#[109]⟩, .bool true, .string ⟨#[114]⟩, .bool b, .string ⟨#[108]⟩, .bool false, .string ⟨#[99]⟩, .bool false, .string ⟨#[101]⟩, .bool false, .string ⟨#[112]⟩, .bool false, .string ⟨#[97]⟩, .bool false, .string ⟨#[110]⟩, .bool false, .string ⟨#[104]⟩, .bool false, .string ⟨#[118]⟩, .bool false, .string ⟨#[107]⟩, .bool false]
theorem fldT_len (b : Bool) : (fldT b).length = 12 := rfl
theorem fldT_ok (b : Bool) : ∀ p ∈ fldT b, p.2 = true → decide (0 ≤ Lib.indexByte [109, 114] p.1) = true := by cases b <;> decide
theorem fld_at (b : Bool) (k : Nat) (hk : k < 12) (j : Nat) (u : Value) (hu : [Value.string ⟨#[((fldT b)[k]'hk).1]⟩, .bool ((fldT b)[k]'hk).2][j]? = some u) : (fldC b)[k * 2 + j]? = some u := by
 obtain rfl | rfl | rfl | rfl | rfl | rfl | rfl | rfl | rfl | rfl | rfl | rfl : k = 0 ∨ k = 1 ∨ k = 2 ∨ k = 3 ∨ k = 4 ∨ k = 5 ∨ k = 6 ∨ k = 7 ∨ k = 8 ∨ k = 9 ∨ k = 10 ∨ k = 11 := by omega
 all_goals (match j with
  | 0 => exact hu
  | 1 => exact hu
  | j + 2 => cases hu)
theorem infoFld : Info Tryz.prog 412 (.agg #[.string ⟨#[]⟩, .bool false]) 2 24 := by unfold Info; kernel_rfl
theorem aggFld : Agg Tryz.prog 412 2 := .str Tryz.underlying412 (by kernel_rfl)
theorem zeroFld : (Tryz.prog.info? 412).map (·.zero) = some (some (.agg [Value.string ⟨#[]⟩, .bool false].toArray)) := by kernel_rfl
theorem builtFld (s : ByteArray) (b : Bool) : Tryz.prog.built 412 [(0, .string s), (1, .bool b)] = some [Value.string s, .bool b].toArray := by kernel_rfl
theorem bodyForm_ok (f : List Int) (hf : f.length = 16) (h0 : f ≠ List.replicate 16 0) (ra : Option Addr) (m rc : Nat) (w : World) : Calls Tryz.prog 265 #[.int .i64 2, .agg (bodyC (f.map (Value.int .u8)) (.slice ra m rc)).toArray] w fun e w' => e = .returned (.int .i64 0) ∧ Below w.heap.size w w' := by
 have hFl : (f.map (Value.int .u8)).length = 16 := by rw [List.length_map, hf]
 have hcells := fun (w : World) (g : Nat) (h : BlkV 42 w g (bodyC (f.map (Value.int .u8)) (.slice ra m rc))) => hid (body_cells hFl h)
 have hmem := fun (w : World) (g : Nat) (h : BlkV 42 w g (bodyC (f.map (Value.int .u8)) (.slice ra m rc))) => hid (body_member hFl h)
 have hcom := fun (w : World) (g : Nat) (h : BlkV 42 w g (bodyC (f.map (Value.int .u8)) (.slice ra m rc))) => hid (body_commit hFl h)
 obtain ⟨BS, HBS⟩ := hidE (bodyC (f.map (Value.int .u8)) (.slice ra m rc))
 rw [← HBS.out] at hcells hmem hcom ⊢
 have hes : Hid (∀ w, (Op.equalIn 10000 39 (.agg zSum.toArray) (.agg zSum.toArray)).run Tryz.prog w = .ok true w) := hid (fun w => by rw [show zSum = (List.replicate 32 (0 : Int)).map (Value.int .u8) from rfl, run_eq_sum' w _ _ (by simp) (by simp)]; simp)
 have hfz : Hid (∀ w, (Op.equalIn 10000 25 (.agg (f.map (Value.int .u8)).toArray) (.agg zID.toArray)).run Tryz.prog w = .ok false w) := hid (fun w => by rw [show zID = (List.replicate 16 (0 : Int)).map (Value.int .u8) from rfl, run_eq_id' w f _ hf (by simp)]; congr 1; simpa using h0)
 have hbi := hid builtID0
 have hb0 := hid built0
 obtain ⟨F, HF⟩ := hidE (f.map (Value.int .u8))
 rw [← HF.out] at hmem hfz hFl
 obtain ⟨ZI, HZI⟩ := hidE zID
 rw [← HZI.out] at hfz hbi
 obtain ⟨ZS, HZS⟩ := hidE zSum
 have hZSl : ZS.length = 32 := by rw [HZS.out]; rfl
 rw [← HZS.out] at hes hb0 hcom
 have hiF : (Tryz.prog.info? 25).map (·.size) = some F.length := by rw [hFl]; exact aggIDT.2
 have hiZS : (Tryz.prog.info? 39).map (·.size) = some ZS.length := by rw [hZSl]; exact aggSumT.2
 have hbf := hid builtFld
 obtain ⟨bR, hbR⟩ : ∃ b, decide (0 < m) = b := ⟨_, rfl⟩
 have HT := hid (fldT_ok bR)
 have HTl := hid (fldT_len bR)
 have HAt := hid (fld_at bR)
 have hzf := hid zeroFld
 obtain ⟨B, hsz⟩ := szE w
 rw [hsz]
 clear h0 hf
 go_enter Tryz.func265, Tryz.ntmps265
 go_wp2_with (first
  | (go_at_call 161; refine (uses_two w1).mono ?_; rintro e w2 ⟨rfl, hb2⟩; have hY2 := hY1.below hb2 hY1.lt; have bb2 : Below B w w2 := bb1.trans (hb2.mono (by omega)))
  | (refine wl_boxV rfl 42 _ rfl BS rfl B hsz ?_; intro w1 hY1 bb1 hs1))
 have hSS : ∀ w', BlkV 42 w' B BS → (w'.cell? ⟨B, 0, none⟩ = some (.string ⟨#[]⟩) ∧ w'.cell? ⟨B, 17, none⟩ = some (.slice ra m rc) ∧ w'.cell? ⟨B, 18, none⟩ = some (.string ⟨#[]⟩) ∧ w'.cell? ⟨B, 51, none⟩ = some (.int .i64 0) ∧ w'.cell? ⟨B, 52, none⟩ = some (.int .i64 0) ∧ w'.cell? ⟨B, 53, none⟩ = some (.int .i64 0) ∧ w'.cell? ⟨B, 54, none⟩ = some (.int .i64 0) ∧ w'.cell? ⟨B, 55, none⟩ = some (.int .i64 0) ∧ w'.cell? ⟨B, 56, none⟩ = some (.int .i64 0) ∧ w'.cell? ⟨B, 57, none⟩ = some (.slice none 0 0) ∧ w'.rangeAt B 1 F ∧ w'.rangeAt B 19 ZS) := fun w' h => by
  obtain ⟨c0, c17, c18, c51, c52, c53, c54, c55, c56, c57⟩ := (hcells _ _ h).out
  exact ⟨c0, c17, c18, c51, c52, c53, c54, c55, c56, c57, at_range (hmem _ _ h).out, at_range (hcom _ _ h).out⟩
 refine wp_region_held_drew (S := (fun w' => w'.cell? ⟨B, 0, none⟩ = some (.string ⟨#[]⟩) ∧ w'.cell? ⟨B, 17, none⟩ = some (.slice ra m rc) ∧ w'.cell? ⟨B, 18, none⟩ = some (.string ⟨#[]⟩) ∧ w'.cell? ⟨B, 51, none⟩ = some (.int .i64 0) ∧ w'.cell? ⟨B, 52, none⟩ = some (.int .i64 0) ∧ w'.cell? ⟨B, 53, none⟩ = some (.int .i64 0) ∧ w'.cell? ⟨B, 54, none⟩ = some (.int .i64 0) ∧ w'.cell? ⟨B, 55, none⟩ = some (.int .i64 0) ∧ w'.cell? ⟨B, 56, none⟩ = some (.int .i64 0) ∧ w'.cell? ⟨B, 57, none⟩ = some (.slice none 0 0) ∧ w'.rangeAt B 1 F ∧ w'.rangeAt B 19 ZS)) (by kernel_rfl) (hSS w2.drew hY2) (fun hHeld => ?_)
 obtain ⟨x0, HX0⟩ := hidE w2.drew
 rw [← HX0.out] at hHeld ⊢
 have hY0 : BlkV 42 x0 B BS := by rw [HX0.out]; exact hY2
 have bb0 : Below B w x0 := by rw [HX0.out]; exact bb2.drew
 have hz0 : B + 1 ≤ x0.heap.size := by rw [HX0.out]; show B + 1 ≤ w2.heap.size; have := hb2.size; omega
 clear hY2 bb2
 refine tq 0 rfl ?_
 refine tq 1 rfl ?_
 refine tq 2 rfl ?_
 refine tk 3 rfl (yieldsIf_build (by rfl) 412 _ rfl [(0, .string ⟨#[116]⟩), (1, .bool false)] rfl [.string ⟨#[116]⟩, .bool false] (hbf.out _ _)) ?_
 refine tq 4 rfl ?_
 refine tk 5 rfl (yieldsIf_load_mid (by rfl) 25 _ rfl B 1 rfl F _ (fun w hS => hS.2.2.2.2.2.2.2.2.2.2.1) Tryz.underlying25 rfl hiF) ?_
 refine tk 6 rfl (yieldsIf_build (by rfl) 25 [] rfl [] rfl ZI hbi.out) ?_
 refine tk 7 rfl (yieldsIf_neM (by rfl) 25 _ _ _ rfl F.toArray ZI.toArray rfl rfl false (fun w => hfz.out w) (by kernel_rfl)) ?_
 refine tk 8 rfl (yieldsIf_build (by rfl) 412 _ rfl [(0, .string ⟨#[109]⟩), (1, .bool true)] rfl [.string ⟨#[109]⟩, .bool true] (hbf.out _ _)) ?_
 refine tq 9 rfl ?_
 refine tq 10 rfl ?_
 refine tq 11 rfl ?_
 refine take_l (i := 12) (v := .bool bR) rfl (by kernel_rfl) (by kernel_rfl) (by kernel_rfl) (fun _ _ _ h => h) (.inl ⟨by rfl, fun w _ => by go_simp; (try rw [hbR])⟩) (by assumption) ?_
 try simp only [Act.put, fpA, fpZ, fpN]
 refine tk 13 rfl (yieldsIf_build (by rfl) 412 _ rfl [(0, .string ⟨#[114]⟩), (1, .bool bR)] rfl [.string ⟨#[114]⟩, .bool bR] (hbf.out _ _)) ?_
 refine tq 14 rfl ?_
 refine tq 15 rfl ?_
 refine tq 16 rfl ?_
 refine tk 17 rfl (yieldsIf_build (by rfl) 412 _ rfl [(0, .string ⟨#[108]⟩), (1, .bool false)] rfl [.string ⟨#[108]⟩, .bool false] (hbf.out _ _)) ?_
 refine tq 18 rfl ?_
 refine tk 19 rfl (yieldsIf_load_mid (by rfl) 39 _ rfl B 19 rfl ZS _ (fun w hS => hS.2.2.2.2.2.2.2.2.2.2.2) Tryz.underlying39 rfl hiZS) ?_
 refine tk 20 rfl (yieldsIf_build (by rfl) 39 [] rfl [] rfl ZS hb0.out) ?_
 refine tk 21 rfl (yieldsIf_neM (by rfl) 39 _ _ _ rfl ZS.toArray ZS.toArray rfl rfl true (fun w => hes.out w) (by kernel_rfl)) ?_
 refine tk 22 rfl (yieldsIf_build (by rfl) 412 _ rfl [(0, .string ⟨#[99]⟩), (1, .bool false)] rfl [.string ⟨#[99]⟩, .bool false] (hbf.out _ _)) ?_
 refine tq 23 rfl ?_
 refine tq 24 rfl ?_
 refine tq 25 rfl ?_
 refine tk 26 rfl (yieldsIf_build (by rfl) 412 _ rfl [(0, .string ⟨#[101]⟩), (1, .bool false)] rfl [.string ⟨#[101]⟩, .bool false] (hbf.out _ _)) ?_
 refine tq 27 rfl ?_
 refine tq 28 rfl ?_
 refine tq 29 rfl ?_
 refine tk 30 rfl (yieldsIf_build (by rfl) 412 _ rfl [(0, .string ⟨#[112]⟩), (1, .bool false)] rfl [.string ⟨#[112]⟩, .bool false] (hbf.out _ _)) ?_
 refine tq 31 rfl ?_
 refine tq 32 rfl ?_
 refine tq 33 rfl ?_
 refine tk 34 rfl (yieldsIf_build (by rfl) 412 _ rfl [(0, .string ⟨#[97]⟩), (1, .bool false)] rfl [.string ⟨#[97]⟩, .bool false] (hbf.out _ _)) ?_
 refine tq 35 rfl ?_
 refine tq 36 rfl ?_
 refine tq 37 rfl ?_
 refine tk 38 rfl (yieldsIf_build (by rfl) 412 _ rfl [(0, .string ⟨#[110]⟩), (1, .bool false)] rfl [.string ⟨#[110]⟩, .bool false] (hbf.out _ _)) ?_
 refine tq 39 rfl ?_
 refine tq 40 rfl ?_
 refine tq 41 rfl ?_
 refine tq 42 rfl ?_
 refine tk 43 rfl (yieldsIf_build (by rfl) 412 _ rfl [(0, .string ⟨#[104]⟩), (1, .bool false)] rfl [.string ⟨#[104]⟩, .bool false] (hbf.out _ _)) ?_
 refine tq 44 rfl ?_
 refine tq 45 rfl ?_
 refine tq 46 rfl ?_
 refine tk 47 rfl (yieldsIf_build (by rfl) 412 _ rfl [(0, .string ⟨#[118]⟩), (1, .bool false)] rfl [.string ⟨#[118]⟩, .bool false] (hbf.out _ _)) ?_
 refine tq 48 rfl ?_
 refine tq 49 rfl ?_
 refine tq 50 rfl ?_
 refine tk 51 rfl (yieldsIf_build (by rfl) 412 _ rfl [(0, .string ⟨#[107]⟩), (1, .bool false)] rfl [.string ⟨#[107]⟩, .bool false] (hbf.out _ _)) ?_
 refine tq 54 rfl ?_
 refine e1 52 rfl fun K' hK' => ?_
 obtain ⟨N, HN⟩ := hidE x0.heap.size
 have hNB : B + 1 ≤ N := by rw [HN.out]; exact hz0
 refine step_lit rfl 413 412 12 _ rfl Tryz.underlying413 (.agg #[.string ⟨#[]⟩, .bool false]) 2 24 infoFld (by decide) (by decide) (fldC bR) (by kernel_rfl) N HN.out.symm ?_
 intro x1 hN1 hb1 hs1
 have hY1' := hY0.below hb1 (by omega)
 have bb1' : Below B w x1 := bb0.trans (hb1.mono (by omega))
 refine ko hK' (hSS _ hY1') fun hHeld => ?_
 clear hK' K'
 refine tq 53 rfl ?_
 refine wpAnyH_done (by kernel_rfl) ?_ _
 clear hHeld hSS
 have hNl := hN1.lt
 obtain ⟨CS, HCS⟩ := hidE (fldC bR)
 rw [← HCS.out] at hN1 HAt
 clear hbR
 go_wp2_with fail
 go_loopw [64] (fun i wr => ∃ k : Nat, k ≤ 12 ∧ i = .int .i64 k ∧ BlkV 412 wr N CS ∧ Below B w wr ∧ N + 1 ≤ wr.heap.size) (fun i _ => 12 - (intOf i).toNat)
 case atStart => exact ⟨0, by omega, rfl, hN1, bb1', by omega⟩
 case round =>
  obtain ⟨k, hk, rfl, hNr, bbr, hzr⟩ := hrel
  by_cases hk12 : k < 12
  ·have hkI : (k : Int) < 12 := by omega
   have hat : At wr ⟨N, k * 2, none⟩ [Value.string ⟨#[((fldT bR)[k]'hk12).1]⟩, .bool ((fldT bR)[k]'hk12).2] := hNr.at (k * 2) _ fun j u hu => HAt.out k hk12 j u hu
   have hT := HT.out _ (List.getElem_mem hk12)
   obtain ⟨c, b, hcb⟩ : ∃ c b, (fldT bR)[k]'hk12 = (c, b) := ⟨_, _, rfl⟩
   rw [hcb] at hat hT
   replace hT : b = true → decide (0 ≤ Lib.indexByte [109, 114] c) = true := hT
   replace hat : At wr ⟨N, k * 2, none⟩ [Value.string ⟨#[c]⟩, .bool b] := hat
   clear hcb
   cases b with
   | false =>
    clear hT
    obtain ⟨X, HX⟩ := hidE wr.heap.size
    have hXN : N + 1 ≤ X := by rw [HX.out]; exact hzr
    go_wp2_with (first
     | (go_at_call 267; refine (hct.out _).mono ?_; rintro e w4 ⟨rfl, rfl⟩)
     | (refine wl_storeV rfl 412 _ _ rfl 412 X rfl [.string ⟨#[c]⟩, .bool false] rfl 2 aggFld rfl _ hX1 rfl (by intro u hu; simp only [List.mem_cons, List.not_mem_nil, or_false] at hu; rcases hu with rfl | rfl <;> rfl) ?_; intro y2 hX2 hb2' hs2'; have hNr2 := hNr1.below hb2' (by omega); have bbr2 : Below B w y2 := bbr1.trans (hb2'.mono (by omega)); have e0 : y2.cell? ⟨X, 0, none⟩ = some (.string ⟨#[c]⟩) := hX2.cell 0; have e1 : y2.cell? ⟨X, 1, none⟩ = some (.bool false) := hX2.cell 1)
     | (refine wl_allocV rfl 412 rfl _ hzf.out X HX.out.symm ?_; intro y1 hX1 hb1'' hs1''; have hNr1 := hNr.below hb1'' (by omega); have bbr1 : Below B w y1 := bbr.trans (hb1''.mono (by omega)))
     | (refine wl_loadG (by rfl) 412 _ rfl ⟨N, k * 2, none⟩ rfl 2 _ rfl aggFld hat ?_))
    go_roundw
    case rel =>
     refine ⟨_, _, _, _, _, _, _, _, _, _, _, _, _, _, _, _, ?_, rfl⟩
     exact ⟨k + 1, by omega, by go_num, hNr2, bbr2, by omega⟩
    case measure => simp [intOf] <;> omega
   | true =>
    have hct := hid (fun w => Contains_mr c true (hT rfl) w)
    clear hT
    obtain ⟨X, HX⟩ := hidE wr.heap.size
    have hXN : N + 1 ≤ X := by rw [HX.out]; exact hzr
    go_wp2_with (first
     | (go_at_call 267; refine (hct.out _).mono ?_; rintro e w4 ⟨rfl, rfl⟩)
     | (refine wl_storeV rfl 412 _ _ rfl 412 X rfl [.string ⟨#[c]⟩, .bool true] rfl 2 aggFld rfl _ hX1 rfl (by intro u hu; simp only [List.mem_cons, List.not_mem_nil, or_false] at hu; rcases hu with rfl | rfl <;> rfl) ?_; intro y2 hX2 hb2' hs2'; have hNr2 := hNr1.below hb2' (by omega); have bbr2 : Below B w y2 := bbr1.trans (hb2'.mono (by omega)); have e0 : y2.cell? ⟨X, 0, none⟩ = some (.string ⟨#[c]⟩) := hX2.cell 0; have e1 : y2.cell? ⟨X, 1, none⟩ = some (.bool true) := hX2.cell 1)
     | (refine wl_allocV rfl 412 rfl _ hzf.out X HX.out.symm ?_; intro y1 hX1 hb1'' hs1''; have hNr1 := hNr.below hb1'' (by omega); have bbr1 : Below B w y1 := bbr.trans (hb1''.mono (by omega)))
     | (refine wl_loadG (by rfl) 412 _ rfl ⟨N, k * 2, none⟩ rfl 2 _ rfl aggFld hat ?_))
    go_roundw
    case rel =>
     refine ⟨_, _, _, _, _, _, _, _, _, _, _, _, _, _, _, _, ?_, rfl⟩
     exact ⟨k + 1, by omega, by go_num, hNr2, bbr2, by omega⟩
    case measure => simp [intOf] <;> omega
  ·have hkI : ¬ (k : Int) < 12 := by omega
   go_wp2
   go_ret
   exact ⟨rfl, bbr⟩
end Go.Proofs.YtdhipjoplkpgmaaGreatDoor.hf
namespace Go.Proofs.YtdhipjoplkpgmaaGreatDoor.hf
open Go.RowKit st hs wr shr sh lk
theorem has_ok (c : UInt8) (b : Bool) (hb : decide (0 ≤ Lib.indexByte [109, 114] c) = b) (X : Nat) (w : World) (hX : w.cell? ⟨X, 0, none⟩ = some (.string MR)) :
  Calls Tryz.prog 266 #[.string ⟨#[c]⟩, .pointer (some ⟨X, 0, none⟩)] w fun e w' => e = .returned (.bool b) ∧ w = w' := by
 have hc := hid (fun w => Contains_mr c b hb w)
 go_enter Tryz.func266, Tryz.ntmps266
 go_wp2_with (first | (go_at_call 267; refine (hc.out w).mono ?_; rintro e w1 ⟨rfl, rfl⟩))
 go_ret
 exact ⟨rfl, rfl⟩
theorem wl_alloc1 {P : Program} {w : World} {ops : Array Oper} {rest : List Oper} {o : Oper} {a : Act} {Q : Exit → Act → World → Prop} (hgd : o.guard = none) (t : TypeId) (ho : o.op = .alloc t)
  (v : Value) (hv : v.cells = #[v]) (hz : (P.info? t).map (·.zero) = some (some v)) (N : Nat) (hN : w.heap.size = N)
  (h : ∀ w', BlkV t w' N [v] → Below N w w' → w'.heap.size = N + 1 → wpList P ops Q rest (a.put o.dst (.pointer (some ⟨N, 0, none⟩))) w') : wpList P ops Q (o :: rest) a w := by
 subst hN
 obtain ⟨i, hi, hzz⟩ := Option.map_eq_some_iff.1 hz
 refine wpList_plain hgd fun K hK' => ?_
 unfold Oper.wp
 simp [execOp, ho, Instr.alloc, zeroValue, typeInfo, hi, hzz, newVar, newRow, hv, Result.andThen]
 exact hK' _ _ (h _ (BlkV.new t w [v] rfl) ((Below.refl _ _).alloc (Nat.le_refl _) _) (by simp))
theorem zeroStr : (Tryz.prog.info? 9).map (·.zero) = some (some (.string ⟨#[]⟩)) := by kernel_rfl
theorem BodyError_any (f : List Int) (hf : f.length = 16) (h0 : f ≠ List.replicate 16 0) (ra : Option Addr) (rc : Nat) (rs : List ByteArray) (w : World) (hr : RowS w ra rs) (hs : ∀ i, i < rs.length → (roleAt rs i).size ≤ maxLen) (hn : rs.length ≤ 9223372036854775807) :
  Calls Tryz.prog 159 #[.int .i64 2, .agg (bodyC (f.map (Value.int .u8)) (.slice ra rs.length rc)).toArray] w fun e w' => e = .returned (.int .i64 (bodyE rs)) ∧ Below w.heap.size w w' := by
 have hFl : (f.map (Value.int .u8)).length = 16 := by rw [List.length_map, hf]
 have hbf := fun w => hid (bodyForm_ok f hf h0 ra rs.length rc w)
 have hBl := bodyC_len (ro := .slice ra rs.length rc) hFl
 have hcells := fun (w : World) (g : Nat) (h : BlkV 42 w g (bodyC (f.map (Value.int .u8)) (.slice ra rs.length rc))) => hid (body_cells hFl h)
 obtain ⟨BS, HBS⟩ := hidE (bodyC (f.map (Value.int .u8)) (.slice ra rs.length rc))
 rw [← HBS.out] at hcells hbf hBl ⊢
 have HRow := fun (w' : World) (hb : Below w.heap.size w w') => hid (hr.below hb)
 have HS := hid hs
 clear hs hr
 obtain ⟨R, HRE⟩ := hidE (bodyE rs)
 rw [← HRE.out]
 have HR5 : Hid (16 < rs.length → R = 5) := hid (fun h => by rw [HRE.out]; unfold bodyE; rw [if_pos h])
 have HRR : Hid (¬ 16 < rs.length → R = roleE rs) := hid (fun h => by rw [HRE.out]; unfold bodyE; rw [if_neg h])
 obtain ⟨n, Hn⟩ := hidE rs.length
 rw [← Hn.out] at hn hcells HR5 HRR
 obtain ⟨B, hsz⟩ := szE w
 rw [hsz] at HRow ⊢
 have h1 : ∀ a b : Nat, a = b → a = b := fun _ _ h => h
 clear hf h0 h1
 have hlz : ∀ w, (binOp .gtr 3 (.int .i64 0) (.int .i64 32768)).run Tryz.prog w = .ok (.bool false) w := fun w => by rfl
 by_cases h16 : 16 < n
 ·have h16' : decide (16 < n) = true := by simp [h16]
  have hI : (16 : Int) < (n : Int) := by omega
  have HE := hid (HR5.out h16)
  go_enter Tryz.func159, Tryz.ntmps159
  go_wp2_with (first
   | (refine wl_setV rfl 9 _ _ rfl 9 X 0 rfl (.string MR) rfl rfl rfl (by kernel_rfl) _ hX4 (by decide) ?_; intro w5 hX5 hg5 hs5; have hY5 := hY4.grown hg5 (by intro e; injection e with e; omega); have bb5 : Below B w w5 := bb4.grown hg5 (by omega) (fun k hk => by injection hk with hk; omega); obtain ⟨c0, c17, c18, c51, c52, c53, c54, c55, c56, c57⟩ := (hcells _ _ hY5).out)
   | (obtain ⟨X, HX⟩ := hidE w3.heap.size; have hXB : B < X := (by rw [HX.out]; exact hz3); refine wl_alloc1 rfl 9 rfl (.string ⟨#[]⟩) rfl zeroStr X HX.out.symm ?_; intro w4 hX4 hb4 hs4; have hY4 := hY3.below hb4 (by omega); have bb4 : Below B w w4 := bb3.trans (hb4.mono (by omega)))
   | (go_at_call 161; refine (uses_two w2).mono ?_; rintro e w3 ⟨rfl, hb3⟩; have hY3 := hY2.below hb3 hY2.lt; have bb3 : Below B w w3 := bb2.trans (hb3.mono (by have := hY2.lt; omega)); have hz3 : B < w3.heap.size := hY3.lt)
   | (go_at_call 265; refine (hbf w1).out.mono ?_; rintro e w2 ⟨rfl, hb2⟩; have hY2 := hY1.below hb2 hY1.lt; have bb2 : Below B w w2 := bb1.trans (hb2.mono (by omega)))
   | (refine wl_loadG (by rfl) 42 _ rfl ⟨B, 0, none⟩ rfl 58 BS hBl aggBody hY1.at0 ?_)
   | (refine wl_boxV rfl 42 _ rfl BS rfl B hsz ?_; intro w1 hY1 bb1 hs1))
  go_ret
  exact ⟨by rw [HE.out]; rfl, bb5⟩
 ·have h16' : decide (16 < n) = false := by simp [h16]
  have hI : ¬ (16 : Int) < (n : Int) := by omega
  have HRE' := hid (HRR.out h16)
  go_enter Tryz.func159, Tryz.ntmps159
  go_wp2_with (first
   | (refine wl_setV rfl 9 _ _ rfl 9 X 0 rfl (.string MR) rfl rfl rfl (by kernel_rfl) _ hX4 (by decide) ?_; intro w5 hX5 hg5 hs5; have hY5 := hY4.grown hg5 (by intro e; injection e with e; omega); have bb5 : Below B w w5 := bb4.grown hg5 (by omega) (fun k hk => by injection hk with hk; omega); obtain ⟨c0, c17, c18, c51, c52, c53, c54, c55, c56, c57⟩ := (hcells _ _ hY5).out)
   | (obtain ⟨X, HX⟩ := hidE w3.heap.size; have hXB : B < X := (by rw [HX.out]; exact hz3); refine wl_alloc1 rfl 9 rfl (.string ⟨#[]⟩) rfl zeroStr X HX.out.symm ?_; intro w4 hX4 hb4 hs4; have hY4 := hY3.below hb4 (by omega); have bb4 : Below B w w4 := bb3.trans (hb4.mono (by omega)))
   | (go_at_call 161; refine (uses_two w2).mono ?_; rintro e w3 ⟨rfl, hb3⟩; have hY3 := hY2.below hb3 hY2.lt; have bb3 : Below B w w3 := bb2.trans (hb3.mono (by have := hY2.lt; omega)); have hz3 : B < w3.heap.size := hY3.lt)
   | (go_at_call 265; refine (hbf w1).out.mono ?_; rintro e w2 ⟨rfl, hb2⟩; have hY2 := hY1.below hb2 hY1.lt; have bb2 : Below B w w2 := bb1.trans (hb2.mono (by omega)))
   | (refine wl_loadG (by rfl) 42 _ rfl ⟨B, 0, none⟩ rfl 58 BS hBl aggBody hY1.at0 ?_)
   | (refine wl_boxV rfl 42 _ rfl BS rfl B hsz ?_; intro w1 hY1 bb1 hs1))
  have hX5' : BlkV 9 w5 X [.string MR] := hX5
  clear c0 c17 c18 c51 c52 c53 c54 c55 c56 c57 hX5
  obtain ⟨wo, hwo⟩ : ∃ wo, wo = w5 := ⟨_, rfl⟩
  go_loopw [46] (fun i wr => ∃ k : Nat, k ≤ n ∧ i = .int .i64 k ∧ Hid (∀ i, i < k → badAt rs i = 0) ∧ BlkV 42 wr B BS ∧ BlkV 9 wr X [.string MR] ∧ Below B w wr ∧ B < wr.heap.size) (fun i _ => n - (intOf i).toNat)
  case atStart => exact ⟨0, Nat.zero_le _, rfl, hid (fun i hi => absurd hi (by omega)), hY5, hX5', bb5, hY5.lt⟩
  case round =>
   obtain ⟨k, hk, rfl, HK, hYr, hXr, bbr, hzr⟩ := hrel
   obtain ⟨c0, c17, c18, c51, c52, c53, c54, c55, c56, c57⟩ := (hcells _ _ hYr).out
   have cX : wr.cell? ⟨X, 0, none⟩ = some (.string MR) := hXr.cell 0
   by_cases hkn : k < n
   ·have hkI : (k : Int) < (n : Int) := by omega
    have hkr : k < rs.length := by rw [← Hn.out]; exact hkn
    obtain ⟨b, off, rfl, hb, hc⟩ := (HRow wr bbr).out.at (i := k) hkr
    have hname := hid (fun w => RefIsName_any (roleAt rs k) w (HS.out k hkr))
    obtain ⟨S, HSS⟩ := hidE (roleAt rs k)
    rw [← HSS.out] at hc hname
    cases hN : isName S with
    | false =>
     rw [hN] at hname
     have HE : Hid (R = 6) := hid (by
      have hB : badAt rs k = 6 := by unfold badAt; rw [← HSS.out, if_pos hN]
      rw [HRE'.out]; unfold roleE; rw [firstE_at HK.out (by rw [hB]; decide) hkr, hB])
     go_wp2_with (first | (go_at_call 43; refine (hname.out _).mono ?_; rintro e w6 ⟨rfl, hb6⟩; have bb6 : Below B w w6 := bbr.trans (hb6.mono (by omega))))
     go_ret
     exact ⟨by rw [HE.out]; rfl, bb6⟩
    | true =>
     rw [hN] at hname
     rcases Nat.eq_zero_or_pos k with hk0 | hkp
     ·have HB0 : Hid (∀ i, i < k + 1 → badAt rs i = 0) := hid (fun i hi => by
       have e : i = k := by omega
       rw [e]; unfold badAt; rw [← HSS.out, if_neg (by rw [hN]; decide), if_neg (by rw [hk0]; simp)])
      have hkf : ¬ (0 : Int) < (k : Int) := by omega
      clear hk0
      go_wp2_with (first | (go_at_call 43; refine (hname.out _).mono ?_; rintro e w6 ⟨rfl, hb6⟩; have hYn := hYr.below hb6 hYr.lt; have hXn := hXr.below hb6 hXr.lt; have bbn : Below B w w6 := bbr.trans (hb6.mono (by omega))))
      go_roundw
      case rel =>
       exact ⟨k + 1, by omega, by go_num, HB0, hYn, hXn, bbn, by have := hYn.lt; omega⟩
      case measure => simp [intOf] <;> omega
     ·obtain ⟨b', off', hbo, hb', hc'⟩ := (HRow wr bbr).out.at (i := k - 1) (by omega)
      injection hbo with hbo
      injection hbo with e1 e2
      subst e1; subst e2
      obtain ⟨T, HT⟩ := hidE (roleAt rs (k - 1))
      rw [← HT.out] at hc'
      have hpk : (0 : Int) < (k : Int) := by omega
      have HKP := hid hkp
      clear hkp
      by_cases hL : strLe S T = true
      ·have HE : Hid (R = 9) := hid (by
        have hB : badAt rs k = 9 := by unfold badAt; rw [← HSS.out, if_neg (by rw [hN]; decide), if_pos]; rw [← HT.out]; simp [hL]; have := HKP.out; omega
        rw [HRE'.out]; unfold roleE; rw [firstE_at HK.out (by rw [hB]; decide) hkr, hB])
       have hq : ∀ w, (binOp .geq 9 (.string T) (.string S)).run Tryz.prog w = .ok (.bool true) w := fun w => by rw [← ge_le] at hL; simp [binOp, Op.stringOp] at hL ⊢; exact hL
       clear hL
       go_wp2_with (first | (go_at_call 43; refine (hname.out _).mono ?_; rintro e w6 ⟨rfl, hb6⟩; have hYn := hYr.below hb6 hYr.lt; have bbn : Below B w w6 := bbr.trans (hb6.mono (by omega)); have c17n := ((hcells _ _ hYn).out).2.1; have hcn := (hb6.cell (p := ⟨b, off + (k - 1), none⟩) hb).trans hc'))
       go_ret
       exact ⟨by rw [HE.out]; rfl, bbn⟩
      ·have HB0 : Hid (∀ i, i < k + 1 → badAt rs i = 0) := hid (fun i hi => by
        by_cases e : i = k
        ·rw [e]; unfold badAt; rw [← HSS.out, if_neg (by rw [hN]; decide), if_neg]; rw [← HT.out]; simp [hL]
        ·exact HK.out i (by omega))
       have hL : strLe S T = false := by simpa using hL
       have hq : ∀ w, (binOp .geq 9 (.string T) (.string S)).run Tryz.prog w = .ok (.bool false) w := fun w => by rw [← ge_le] at hL; simp [binOp, Op.stringOp] at hL ⊢; exact hL
       clear hL
       go_wp2_with (first | (go_at_call 43; refine (hname.out _).mono ?_; rintro e w6 ⟨rfl, hb6⟩; have hYn := hYr.below hb6 hYr.lt; have hXn := hXr.below hb6 hXr.lt; have bbn : Below B w w6 := bbr.trans (hb6.mono (by omega)); have c17n := ((hcells _ _ hYn).out).2.1; have hcn := (hb6.cell (p := ⟨b, off + (k - 1), none⟩) hb).trans hc'))
       go_roundw
       case rel =>
        exact ⟨k + 1, by omega, by go_num, HB0, hYn, hXn, bbn, by have := hYn.lt; omega⟩
       case measure => simp [intOf] <;> omega
   ·have hkI : ¬ (k : Int) < (n : Int) := by omega
    have HE : Hid (R = 0) := hid (by rw [HRE'.out]; exact firstE_zero fun i hi => HK.out i (by rw [← Hn.out] at hi; omega))
    go_wp2_with (first
     | (go_at_call 266; refine (has_ok 108 false (by decide) X wr cX).mono ?_; rintro e w9 ⟨rfl, rfl⟩)
     | (go_at_call 266; refine (has_ok 112 false (by decide) X wr cX).mono ?_; rintro e w9 ⟨rfl, rfl⟩)
     | (go_at_call 266; refine (has_ok 97 false (by decide) X wr cX).mono ?_; rintro e w9 ⟨rfl, rfl⟩)
     | (go_at_call 266; refine (has_ok 118 false (by decide) X wr cX).mono ?_; rintro e w9 ⟨rfl, rfl⟩)
     | (go_at_call 266; refine (has_ok 110 false (by decide) X wr cX).mono ?_; rintro e w9 ⟨rfl, rfl⟩)
     | (go_at_call 266; refine (has_ok 101 false (by decide) X wr cX).mono ?_; rintro e w9 ⟨rfl, rfl⟩)
     | (go_at_call 266; refine (has_ok 107 false (by decide) X wr cX).mono ?_; rintro e w9 ⟨rfl, rfl⟩))
    obtain ⟨wo, hwo⟩ : ∃ wo, wo = wr := ⟨_, rfl⟩
    subst hwo
    go_loopw [134] (fun i wx => i = .int .i64 0 ∧ wx = wo) (fun _ _ => 0)
    case atStart => exact ⟨rfl, rfl⟩
    case round =>
     obtain ⟨rfl, rfl⟩ := hrel
     go_wp2
     go_ret
     exact ⟨by rw [HE.out]; rfl, bbr⟩
end Go.Proofs.YtdhipjoplkpgmaaGreatDoor.hf
namespace Go.Proofs.YtdhipjoplkpgmaaGreatDoor.hf
open Go.RowKit st hs wr shr sh lk
theorem wl_rangeStr {P : Program} {w : World} {ops : Array Oper} {rest : List Oper} {o : Oper} {a : Act} {Q : Exit → Act → World → Prop} (hgd : o.guard = none) (t : TypeId) (x : Operand) (ho : o.op = .range t x) (ht : P.underlying t = some .string) (s : ByteArray) (hx : a.eval x = .string s) (N : Nat) (hN : w.heap.size = N)
  (h : ∀ w' : World, w'.heap[N]? = some (.stringIter s 0) → Below N w w' → w'.heap.size = N + 1 → wpList P ops Q rest (a.put o.dst (.pointer (some ⟨N, 0, none⟩))) w') : wpList P ops Q (o :: rest) a w := by
 subst hN
 have hrun := run_range_string (P := P) w t s ht
 refine wpList_plain hgd fun K hK' => ?_
 unfold Oper.wp
 simp only [execOp, ho, hx, hrun, Sem.run_bind, Result.andThen_ok, Sem.run_pure]
 exact hK' _ _ (h _ (World.iter_heap w s 0) ((Below.refl _ _).alloc (Nat.le_refl _) _) (by simp [World.iter]))
theorem wl_nextStr {P : Program} {w : World} {ops : Array Oper} {rest : List Oper} {o : Oper} {a : Act} {Q : Exit → Act → World → Prop} (hgd : o.guard = none) (m : Operand) (ho : o.op = .next m true) (s : ByteArray) (pos I R k : Nat) (hit : w.heap[I]? = some (.stringIter s pos)) (hp : pos < s.size) (hd : Utf8.decode s pos = (R, k)) (hmv : a.eval m = .pointer (some ⟨I, 0, none⟩))
  (h : ∀ w' : World, w'.heap[I]? = some (.stringIter s (pos + k)) → w.grownBy w' (some I) → w'.heap.size = w.heap.size → wpList P ops Q rest (a.put o.dst (.tuple #[.bool true, .int .i64 pos, .int .i32 R])) w') : wpList P ops Q (o :: rest) a w := by
 have hrun := Lib.run_next_any_at (P := P) w I s pos o.type hit hp
 rw [hd] at hrun
 refine wpList_plain hgd fun K hK' => ?_
 unfold Oper.wp
 simp only [execOp, ho, hmv, hrun, Sem.run_bind, Result.andThen_ok, Sem.run_pure]
 exact hK' _ _ (h _ (Lib.iterAt_heap w I s pos _ hit) ⟨rfl, rfl, rfl, by rw [Lib.iterAt_size]; exact Nat.le_refl _, fun j _ hj => Lib.iterAt_other w I j s _ (fun e => hj (by rw [e]))⟩ (Lib.iterAt_size _ _ _ _))
theorem wl_nextEnd {P : Program} {w : World} {ops : Array Oper} {rest : List Oper} {o : Oper} {a : Act} {Q : Exit → Act → World → Prop} (hgd : o.guard = none) (m : Operand) (ho : o.op = .next m true) (s : ByteArray) (pos I : Nat) (hit : w.heap[I]? = some (.stringIter s pos)) (hp : ¬ pos < s.size) (hmv : a.eval m = .pointer (some ⟨I, 0, none⟩))
  (h : wpList P ops Q rest (a.put o.dst (.tuple #[.bool false])) w) : wpList P ops Q (o :: rest) a w := by
 have hrun := Lib.run_next_end_at (P := P) w I s pos o.type hit hp
 refine wpList_plain hgd fun K hK' => ?_
 unfold Oper.wp
 simp only [execOp, ho, hmv, hrun, Sem.run_bind, Result.andThen_ok, Sem.run_pure]
 exact hK' _ _ h
theorem dec0 : Utf8.decode MR 0 = (109, 1) := by kernel_rfl
theorem dec1 : Utf8.decode MR 1 = (114, 1) := by kernel_rfl
theorem zeroBts : (Tryz.prog.info? 61).map (·.zero) = some (some (.slice none 0 0)) := by kernel_rfl
theorem Only.gr {B : Nat} {ks : List Nat} {w w' : World} {g : Nat} (hg : w.grownBy w' (some g)) (hB : B ≤ w.heap.size) (h : g ∈ ks) : Only B ks w w' :=
 Only.ofG hg hB (fun k hk => by injection hk with hk; right; rw [← hk]; exact h)
theorem textC_ok (T base : Nat) (v : Value) (n : Nat) (l : List Int) (s : ByteArray) (w : World) (hT : BlkV 61 w T [v]) (hv1 : v.oneCell' = true) (hown : OwnM w base v n l) (hTb : T < base) (hb : base ≤ w.heap.size) (hs : s.size ≤ 255) (hn : n ≤ 1048576) (N : Nat) (hN : N = n + (s.size + 1)) :
  Calls Tryz.prog 160 #[.string s, .pointer (some ⟨T, 0, none⟩)] w fun e w' => e = .returned (.tuple #[]) ∧ ∃ g c, BlkV 61 w' T [.slice (some ⟨g, 0, none⟩) N c] ∧ OwnM w' base (.slice (some ⟨g, 0, none⟩) N c) N (l ++ textB s) ∧ Only base [T] w w' := by
 obtain ⟨m, hm⟩ : ∃ m, s.size = m := ⟨_, rfl⟩
 have HE : Hid (l ++ textB s = (l ++ [(m : Int)]) ++ numsOf s) := hid (by unfold textB; rw [hm]; simp)
 rw [hm] at hs hN
 have hwm : IntKind.u8.wrap (m : Int) = (m : Int) := IntWalk.u8_in _ (by omega)
 obtain ⟨M, hsz⟩ := szE w
 have HN := hid hN
 have ct : w.cell? ⟨T, 0, none⟩ = some v := hT.cell 0
 clear hN
 go_enter Tryz.func160, Tryz.ntmps160
 go_wp2_with (first
  | (refine wl_setV rfl 61 _ _ rfl 61 T 0 rfl (.slice (some ⟨g3, 0, none⟩) N c3) rfl rfl rfl (by kernel_rfl) _ hT3 (by simp) ?_; intro w4 hT4 hg4 hs4)
  | (at_builtin; refine wl_appendMT rfl _ _ rfl base _ (n + 1) (l ++ [(m : Int)]) rfl hM2 (by omega) s rfl m hm (by omega) (by have := b2.size; omega) N (by rw [HN.out]; omega) ?_; intro g3 c3 w3 hM3 hb3; have hT3 := (hT.below b2 hTb).below hb3 hTb; have b3 := b2.trans hb3)
  | (at_builtin; refine wl_appendM rfl _ _ rfl base v n l rfl (hown.below hb1 (by omega)) ⟨M, 0, none⟩ 1 1 rfl [(m : Int)] rfl hL1.at0 (by omega) (by omega) (n + 1) rfl ?_; intro g2 c2 w2 hM2 hb2; have b2 : Below base w w2 := (hb1.mono (by omega)).trans hb2)
  | (refine wl_lit1 rfl 61 5 _ rfl Tryz.underlying61 (.int .u8 0) 1 info8 rfl (.int .u8 (m : Int)) rfl rfl M hsz ?_; intro w1 hL1 hb1 hs1))
 (try simp only [Exit.inBlock, Exit.then]); refine bodyPost_end (results_none rfl _ _ _) rfl ?_
 refine ⟨rfl, g3, c3, hT4, ?_, (Only.of b3 (Nat.le_refl _)).trans (Only.gr hg4 (by have := b3.size; omega) (by simp))⟩
 rw [HE.out]
 exact hM3.kept hg4 (fun e => by have := (hM3.lt T e).1; omega)
theorem RefPrintBody_bad (f : List Int) (hf : f.length = 16) (h0 : f ≠ List.replicate 16 0) (ao : Option Addr) (cap : Nat) (rs : List ByteArray) (w : World) (hr : RowS w ao rs) (hs : ∀ i, i < rs.length → (roleAt rs i).size ≤ maxLen) (hn : rs.length ≤ 9223372036854775807) (hE : bodyE rs ≠ 0) :
  Calls Tryz.prog 88 #[.int .i64 2, .agg (bodyC (f.map (Value.int .u8)) (.slice ao rs.length cap)).toArray] w (PBPost f rs w) := by
 have hbf := fun (w' : World) (hb : Below w.heap.size w w') => hid (BodyError_any f hf h0 ao cap rs w' (hr.below hb) hs hn)
 have HP : Hid (∀ w', Below w.heap.size w w' → PBPost f rs w (.returned (.tuple #[.slice none 0 0, .int .i64 (bodyE rs)])) w') := hid (fun w' hb => ⟨hb, Or.inl ⟨hE, rfl⟩⟩)
 have hCl := bodyC_len (ro := .slice ao rs.length cap) (fv := f.map (Value.int .u8)) (by rw [List.length_map, hf])
 obtain ⟨CS, HCS⟩ := hidE (bodyC (f.map (Value.int .u8)) (.slice ao rs.length cap))
 rw [← HCS.out] at hbf hCl ⊢
 obtain ⟨E, HE⟩ := hidE (bodyE rs)
 rw [← HE.out] at hbf hE HP
 obtain ⟨Q, HQ⟩ := hidE (PBPost f rs w)
 rw [← HQ.out] at HP ⊢
 obtain ⟨B, hsz⟩ := szE w
 rw [hsz] at hbf HP
 have hE2 : (E == 0) = false := by simpa using hE
 have hE3 : ¬ E = 0 := hE
 clear hr hs hn
 go_enter Tryz.func88, Tryz.ntmps88
 go_wp2_with (first
  | (go_at_call 159; refine (hbf w1 bb1).out.mono ?_; rintro e w2 ⟨rfl, hb2⟩; have bb2 : Below B w w2 := bb1.trans (hb2.mono (by omega)))
  | (refine wl_loadG (by rfl) 42 _ rfl ⟨B, 0, none⟩ rfl 58 CS hCl aggBody hB1.at0 ?_)
  | (refine wl_boxV rfl 42 _ rfl CS rfl B hsz ?_; intro w1 hB1 bb1 hs1))
 exact HP.out _ bb2
theorem RefPrintBody_ok (f : List Int) (hf : f.length = 16) (of : Octs f) (h0 : f ≠ List.replicate 16 0) (ao : Option Addr) (cap : Nat) (rs : List ByteArray) (w : World) (hr : RowS w ao rs) (hE : bodyE rs = 0) :
  Calls Tryz.prog 88 #[.int .i64 2, .agg (bodyC (f.map (Value.int .u8)) (.slice ao rs.length cap)).toArray] w (PBPost f rs w) := by
 obtain ⟨hn16, hsm⟩ := bodyE_small hE
 have hsz32 : ∀ i, i < rs.length → (roleAt rs i).size ≤ 32 := fun i hi => by rw [roleAt_get rs hi]; exact hsm _ (List.getElem_mem hi)
 have hbf := fun (w' : World) (hb : Below w.heap.size w w') => hid (BodyError_any f hf h0 ao cap rs w' (hr.below hb) (fun i hi => Nat.le_trans (hsz32 i hi) (by decide)) (by omega))
 rw [hE] at hbf
 have HP : Hid (∀ w' g c, Below w.heap.size w w' → OwnM w' w.heap.size (.slice (some ⟨g, 0, none⟩) (bodyB f rs).length c) (bodyB f rs).length (bodyB f rs) → PBPost f rs w (.returned (.tuple #[.slice (some ⟨g, 0, none⟩) (bodyB f rs).length c, .int .i64 0])) w') := hid (fun w' g c hb ho => ⟨hb, Or.inr ⟨hE, g, c, rfl, ho⟩⟩)
 have hFl : (f.map (Value.int .u8)).length = 16 := by rw [List.length_map, hf]
 have hCl := bodyC_len (ro := .slice ao rs.length cap) hFl
 have hcells := fun (w : World) (g : Nat) (h : BlkV 42 w g (bodyC (f.map (Value.int .u8)) (.slice ao rs.length cap))) => hid (body_cells hFl h)
 have hmem := fun (w : World) (g : Nat) (h : BlkV 42 w g (bodyC (f.map (Value.int .u8)) (.slice ao rs.length cap))) => hid (body_member hFl h)
 obtain ⟨CS, HCS⟩ := hidE (bodyC (f.map (Value.int .u8)) (.slice ao rs.length cap))
 rw [← HCS.out] at hbf hCl hcells hmem ⊢
 have hF1 : ∀ u ∈ f.map (Value.int .u8), u.oneCell' = true := ints_one _ _
 have HFm := hid hf
 obtain ⟨Q, HQ⟩ := hidE (PBPost f rs w)
 rw [← HQ.out] at HP ⊢
 obtain ⟨B, hsz⟩ := szE w
 rw [hsz] at hbf HP
 have HR := fun (w' : World) (hb : Below B w w') => hid (hr.below (w' := w') (hsz ▸ hb))
 obtain ⟨n, Hn⟩ := hidE rs.length
 rw [← Hn.out] at hn16 hcells
 have hwn : IntKind.u8.wrap (n : Int) = (n : Int) := IntWalk.u8_in _ (by omega)
 have HSM := hid hsm
 have HS32 := hid hsz32
 have hal1 : Tryz.prog.arrayLen 25 = 16 := by kernel_rfl
 clear hr hsm hsz32
 go_enter Tryz.func88, Tryz.ntmps88
 go_wp2_with (first
  | (obtain ⟨I, HI⟩ := hidE w4.heap.size; have hTI : T < I := (by rw [HI.out]; have := hb4.size; omega); refine wl_rangeStr rfl 9 _ rfl Tryz.underlying9 MR rfl I HI.out.symm ?_; intro w5 hI5 hb5 hs5; have hY5 := hY4.below hb5 (by omega); have hT5 := hT4.below hb5 hTI; have bb5 : Below B w w5 := bb4.trans (hb5.mono (by omega)))
  | (go_at_call 161; refine (uses_two w3).mono ?_; rintro e w4 ⟨rfl, hb4⟩; have hY4 := hY3.below hb4 hY3.lt; have hT4 := hT3.below hb4 hT3.lt; have bb4 : Below B w w4 := bb3.trans (hb4.mono (by omega)))
  | (obtain ⟨T, HT⟩ := hidE w2.heap.size; have hBT : B < T := (by rw [HT.out]; exact hY2.lt); refine wl_alloc1 rfl 61 rfl (.slice none 0 0) rfl zeroBts T HT.out.symm ?_; intro w3 hT3 hb3 hs3; have hY3 := hY2.below hb3 (by omega); have bb3 : Below B w w3 := bb2.trans (hb3.mono (by omega)))
  | (go_at_call 159; refine (hbf w1 bb1).out.mono ?_; rintro e w2 ⟨rfl, hb2⟩; have bb2 : Below B w w2 := bb1.trans (hb2.mono (by omega)); have hY2 := hY1.below hb2 hY1.lt)
  | (refine wl_loadG (by rfl) 42 _ rfl ⟨B, 0, none⟩ rfl 58 CS hCl aggBody hY1.at0 ?_)
  | (refine wl_boxV rfl 42 _ rfl CS rfl B hsz ?_; intro w1 hY1 bb1 hs1))
 obtain ⟨G, HG⟩ := hidE w5.heap.size
 have hIG : I < G := by rw [HG.out]; omega
 have hG5 : G ≤ w5.heap.size := Nat.le_of_eq HG.out
 clear hY1 hY2 hY3 hY4 hT3 hT4 bb1 bb2 bb3 bb4
 simp only [Act.put, fpA, fpZ, fpN]
 go_loopg [] 2 (fun gf wx => ∃ pos : Nat, pos + gf = 2 ∧ wx.heap[I]? = some (.stringIter MR pos) ∧ BlkV 42 wx B CS ∧ Below B w wx ∧ G ≤ wx.heap.size ∧ ((pos = 0 ∧ BlkV 61 wx T [.slice none 0 0]) ∨ (pos = 1 ∧ ∃ g c, BlkV 61 wx T [.slice (some ⟨g, 0, none⟩) 16 c] ∧ OwnM wx G (.slice (some ⟨g, 0, none⟩) 16 c) 16 f) ∨ (pos = 2 ∧ ∃ g c, BlkV 61 wx T [.slice (some ⟨g, 0, none⟩) (bodyB f rs).length c] ∧ OwnM wx G (.slice (some ⟨g, 0, none⟩) (bodyB f rs).length c) (bodyB f rs).length (bodyB f rs))))
 case atStart => exact ⟨0, by omega, hI5, hY5, bb5, hG5, Or.inl ⟨rfl, hT5⟩⟩
 case round =>
  obtain ⟨pos, hpg, hit, hYr, bbr, hGr, hcase⟩ := hrel
  rcases hcase with ⟨rfl, hTr⟩ | ⟨rfl, gq, cq, hTr, hOr⟩ | ⟨rfl, gq, cq, hTr, hOr⟩
  ·obtain rfl : gk = 1 + 1 := by omega
   clear hpg
   go_wp2_with (first | (refine wl_nextStr rfl _ rfl MR 0 I 109 1 hit (by decide) dec0 rfl ?_; intro y1 hI1 hg1 hs1))
   have hY1 := hYr.grown hg1 (by intro e; injection e with e; omega)
   have hT1 := hTr.grown hg1 (by intro e; injection e with e; omega)
   have b1 : Below B w y1 := bbr.grown hg1 (by omega) (fun k hk => by injection hk with hk; omega)
   clear hYr hTr bbr hit
   refine wp_region_held_drew (S := (fun w' => w'.cell? ⟨B, 0, none⟩ = some (.string ⟨#[]⟩))) (by kernel_rfl) ((hcells _ _ (show BlkV 42 y1.drew B CS from hY1)).out).1 (fun hHeld => ?_)
   obtain ⟨x0, HX0⟩ := hidE y1.drew
   rw [← HX0.out] at hHeld ⊢
   have hY2 : BlkV 42 x0 B CS := by rw [HX0.out]; exact hY1
   have hT2 : BlkV 61 x0 T [.slice none 0 0] := by rw [HX0.out]; exact hT1
   have b2 : Below B w x0 := by rw [HX0.out]; exact b1.drew
   have hI2 : x0.heap[I]? = some (.stringIter MR (0 + 1)) := by rw [HX0.out]; exact hI1
   have hs2 : G ≤ x0.heap.size := by rw [HX0.out]; show G ≤ y1.heap.size; omega
   clear hY1 hT1 b1 hI1
   have ct : x0.cell? ⟨T, 0, none⟩ = some (.slice none 0 0) := hT2.cell 0
   refine tq 1 rfl ?_
   refine tq 2 rfl ?_
   refine e1 0 rfl fun K' hK' => ?_
   rw [if_pos (by rfl)]
   go_simp
   refine ko hK' ((hcells _ _ hY2).out).1 fun hHeld => ?_
   clear hK' K'
   refine e1 3 rfl fun K' hK' => ?_
   refine step_appendS rfl _ _ 61 rfl 5 (.int .u8 0) 1 1 Tryz.underlying61 info8 rfl (by decide) G _ 0 [] rfl (Mine.nil _ _ _ _) (some ⟨B, 1, none⟩) 16 16 rfl (fun h => by cases h) (f.map (Value.int .u8)) hFl (at_row hY2.lt (hmem _ _ hY2).out) hF1 (by unfold maxLen; omega) (by omega) hs2 16 rfl ?_
   intro ga ca y3 row3 hc3 hM3 hV3 hg3 hr3
   rw [List.nil_append] at hM3
   have hb3 := grownNone hg3 hr3
   have hO3 : OwnM y3 G (.slice ga 16 ca) 16 f := OwnM.of (mine_own hM3 (by decide)) (by decide) (Nat.le_refl _)
   obtain ⟨g3, c3, hv3, hO3'⟩ : ∃ g c, ga = some ⟨g, 0, none⟩ ∧ c = ca := by
    obtain ⟨g, c, e, _⟩ := hO3.at
    injection e with e1 e2 e3
    exact ⟨g, ca, e1, rfl⟩
   subst hv3
   clear hO3'
   have hY3 := hY2.below hb3 hY2.lt
   have hT3 := hT2.below hb3 hT2.lt
   have b3 : Below B w y3 := b2.trans (hb3.mono (by omega))
   have hI3 : y3.heap[I]? = some (.stringIter MR (0 + 1)) := (hb3.block I (by omega)).trans hI2
   refine ko hK' ((hcells _ _ hY3).out).1 fun hHeld => ?_
   clear hK' K'
   refine e1 4 rfl fun K' hK' => ?_
   refine step_set1 rfl 61 _ _ rfl 61 T 0 rfl (.slice (some ⟨g3, 0, none⟩) 16 ca) rfl rfl rfl (by kernel_rfl) _ hT3 (by decide) ?_
   intro y4 hT4 hg4 hbl4 hs4
   have hY4 := hY3.grown hg4 (by intro e; injection e with e; omega)
   have hO4 := hO3.kept hg4 (fun e => by have := (hO3.lt T e).1; omega)
   have b4 : Below B w y4 := b3.grown hg4 (by have := hb3.size; omega) (fun k hk => by injection hk with hk; omega)
   have hI4 : y4.heap[I]? = some (.stringIter MR (0 + 1)) := (hg4.block I (by have := hb3.size; omega) (by intro e; injection e with e; omega)).trans hI3
   refine ko hK' ((hcells _ _ hY4).out).1 fun hHeld => ?_
   clear hK' K'
   refine wpAnyH_done (by kernel_rfl) ?_ _
   clear hHeld
   go_wp2_with fail
   go_roundg 1
   case measure => omega
   case rel =>
    exact ⟨1, by omega, hI4, hY4, b4, by have := hb3.size; omega, Or.inr (Or.inl ⟨rfl, g3, ca, hT4, hO4⟩)⟩
  ·obtain rfl : gk = 0 + 1 := by omega
   clear hpg
   have ct : wr.cell? ⟨T, 0, none⟩ = some (.slice (some ⟨gq, 0, none⟩) 16 cq) := hTr.cell 0
   go_wp2_with (first
    | (refine wl_nextStr rfl _ rfl MR 1 I 114 1 hit (by decide) dec1 rfl ?_; intro y1 hI1 hg1 hs1; have hY1 := hYr.grown hg1 (by intro e; injection e with e; omega); have hT1 := hTr.grown hg1 (by intro e; injection e with e; omega); have b1 : Below B w y1 := bbr.grown hg1 (by omega) (fun k hk => by injection hk with hk; omega); have hO1 := hOr.kept hg1 (fun e => by have := (hOr.lt I e).1; omega); have ct1 : y1.cell? ⟨T, 0, none⟩ = some (.slice (some ⟨gq, 0, none⟩) 16 cq) := hT1.cell 0; obtain ⟨c0, c17, c18, c51, c52, c53, c54, c55, c56, c57⟩ := (hcells _ _ hY1).out)
    | (refine wl_setV rfl 61 _ _ rfl 61 T 0 rfl (.slice (some ⟨g3, 0, none⟩) 17 c3) rfl rfl rfl (by kernel_rfl) _ hT3 (by simp) ?_; intro y4 hT4 hg4 hs4; have hY4 := hY3.grown hg4 (by intro e; injection e with e; omega); have hO4 := hO3.kept hg4 (fun e => by have := (hO3.lt T e).1; omega); have b4 : Below B w y4 := b3.grown hg4 (by omega) (fun k hk => by injection hk with hk; omega); have hI4 : y4.heap[I]? = some (.stringIter MR (1 + 1)) := (hg4.block I (by omega) (by intro e; injection e with e; omega)).trans hI3; have hz4 : G ≤ y4.heap.size := (by omega); have c17d := ((hcells _ _ hY4).out).2.1)
    | (at_builtin; refine wl_appendM rfl _ _ rfl G _ 16 f rfl (hO1.below hb2 (Nat.le_of_eq HK7.out.symm)) ⟨K7, 0, none⟩ 1 1 rfl [(n : Int)] rfl hL2.at0 (by omega) (by omega) 17 rfl ?_; intro g3 c3 y3 hO3 hb3; have hY3 := hY2.below hb3 (by omega); have hT3 := hT2.below hb3 (by omega); have b3 : Below B w y3 := b2.trans (hb3.mono (by omega)); have hI3 : y3.heap[I]? = some (.stringIter MR (1 + 1)) := (hb3.block I (by omega)).trans hI2; have hz3 : G ≤ y3.heap.size := (by have := hb3.size; omega))
    | (obtain ⟨K7, HK7⟩ := hidE y1.heap.size; have hGK : G ≤ K7 := (by rw [HK7.out]; omega); refine wl_lit1 rfl 61 5 _ rfl Tryz.underlying61 (.int .u8 0) 1 info8 rfl (.int .u8 (n : Int)) rfl rfl K7 HK7.out.symm ?_; intro y2 hL2 hb2 hs2; have hY2 := hY1.below hb2 (by omega); have hT2 := hT1.below hb2 (by omega); have b2 : Below B w y2 := b1.trans (hb2.mono (by omega)); have hI2 : y2.heap[I]? = some (.stringIter MR (1 + 1)) := (hb2.block I (by omega)).trans hI1))
   obtain ⟨P0, HP0⟩ := hidE (f ++ [(n : Int)])
   rw [← HP0.out] at hO4
   have HP17 : Hid (P0.length = 17) := hid hO4.1
   have HL0 : Hid (P0 ++ rolesB rs = bodyB f rs) := hid (by rw [HP0.out]; unfold bodyB; rw [Hn.out]; simp)
   clear hO3 hT3 hY3 hI3 b3 hO1 hT1 hY1 hT2 hY2 hI2 hI1 b1 b2 hit hTr hYr hOr ct ct1 c0 c17 c18 c51 c52 c53 c54 c55 c56 c57 c17d
   obtain ⟨wo, hwo⟩ : ∃ wo, wo = wr := ⟨_, rfl⟩
   subst hwo
   go_loopw [53] (fun i wx => ∃ (k g c N : Nat), k ≤ n ∧ i = .int .i64 k ∧ BlkV 61 wx T [.slice (some ⟨g, 0, none⟩) N c] ∧ OwnM wx G (.slice (some ⟨g, 0, none⟩) N c) N (P0 ++ rolesB (rs.take k)) ∧ BlkV 42 wx B CS ∧ wx.heap[I]? = some (.stringIter MR 2) ∧ Below B w wx ∧ G ≤ wx.heap.size) (fun i _ => n - (intOf i).toNat)
   case atStart => exact ⟨0, g3, c3, 17, Nat.zero_le _, rfl, hT4, by rw [List.take_zero, show rolesB [] = [] from rfl, List.append_nil]; exact hO4, hY4, hI4, b4, hz4⟩
   case round =>
    obtain ⟨k, gk, ck, N, hk, rfl, hTk, hOk, hYk, hIk, bbk, hzk⟩ := hrel
    have HNN : Hid (N = 17 + (rolesB (rs.take k)).length) := hid (by rw [← hOk.1, List.length_append, HP17.out])
    have hN545 : N ≤ 545 := by
     have h1 := rolesB_len (rs := rs.take k) (fun t ht => HSM.out t (List.mem_of_mem_take ht))
     have h3 := HNN.out
     have h4 : (rs.take k).length ≤ 16 := by rw [List.length_take]; have := Hn.out; omega
     omega
    by_cases h0k : k < n
    ·have hkI : (k : Int) < (n : Int) := by omega
     have hkr : k < rs.length := by rw [← Hn.out]; exact h0k
     obtain ⟨b, off, hao, hb, hc⟩ := ((HR wr bbk).out).at hkr
     subst hao
     obtain ⟨s, Hs⟩ := hidE (roleAt rs k)
     rw [← Hs.out] at hc
     have hs255 : s.size ≤ 255 := by rw [Hs.out]; exact Nat.le_trans (HS32.out k hkr) (by decide)
     obtain ⟨N2, HN2⟩ : ∃ q, q = N + (s.size + 1) := ⟨_, rfl⟩
     have hpt := hid (textC_ok T G (.slice (some ⟨gk, 0, none⟩) N ck) N _ s wr hTk rfl hOk (by omega) hzk hs255 (by omega) N2 HN2)
     have HTK : Hid (P0 ++ rolesB (rs.take (k + 1)) = P0 ++ rolesB (rs.take k) ++ textB s) := hid (by rw [rolesB_take rs hkr, ← Hs.out]; simp only [List.append_assoc])
     clear HN2 hN545
     go_wp2_with (first | (go_at_call 160; refine hpt.out.mono ?_; rintro e w9 ⟨rfl, g9, c9, hT9, hO9, ho9⟩))
     go_roundw
     case rel => exact ⟨k + 1, g9, c9, N2, by omega, by go_num, hT9, by rw [HTK.out]; exact hO9, ho9.blk hYk (by omega) (by simp; omega), (ho9.block I (by omega) (by simp; omega)).trans hIk, bbk.trans ((ho9.mono (by omega) (fun k hk => Or.inl hk)).below (fun k hk => by rw [List.mem_singleton.1 hk]; omega)), by have := ho9.size; omega⟩
     case measure => simp [intOf] <;> omega
    ·have hkI : ¬ (k : Int) < (n : Int) := by omega
     have HKN : Hid (rs.take k = rs) := hid (List.take_of_length_le (by rw [← Hn.out]; omega))
     have HNF : Hid (N = (bodyB f rs).length) := hid (by rw [← hOk.1, ← HL0.out, HKN.out])
     have hOf : OwnM wr G (.slice (some ⟨gk, 0, none⟩) N ck) N (bodyB f rs) := by rw [← HL0.out]; have := hOk; rw [HKN.out] at this; exact this
     clear hOk HNN
     go_wp2
     go_roundg 0
     case measure => omega
     case rel => exact ⟨2, by omega, hIk, hYk, bbk, hzk, Or.inr (Or.inr ⟨rfl, gk, ck, by rw [← HNF.out]; exact hTk, by rw [← HNF.out]; exact hOf⟩)⟩
  ·obtain rfl : gk = 0 := by omega
   have ct : wr.cell? ⟨T, 0, none⟩ = some (.slice (some ⟨gq, 0, none⟩) (bodyB f rs).length cq) := hTr.cell 0
   obtain ⟨NN, HNN⟩ := hidE ((bodyB f rs).length)
   rw [← HNN.out] at ct hOr HP
   go_wp2_with (first | (refine wl_nextEnd rfl _ rfl MR 2 I hit (by decide) rfl ?_))
   exact HP.out _ _ _ bbr (hOr.mono (by omega))
end Go.Proofs.YtdhipjoplkpgmaaGreatDoor.hf
namespace Go.Proofs.YtdhipjoplkpgmaaGreatDoor.hf
open Go.RowKit st hs wr shr sh lk
def RdAt (w : World) (g D : Nat) (L : List Int) : Prop := ∃ ao c, BlkV 264 w g [.slice ao L.length c, .bool false] ∧ Pt.Ok w ⟨ao, c, L⟩ ∧ (∀ b, ao = some b → b.block < D) ∧ D ≤ g
theorem RdAt.below {w w' : World} {g D B : Nat} {L : List Int} (h : RdAt w g D L) (hb : Below B w w') (hg : g < B) : RdAt w' g D L := by
 obtain ⟨ao, c, h1, h2, h3, h4⟩ := h
 exact ⟨ao, c, h1.below hb hg, ptLow h2 hb (fun b e => by have := h3 b e; omega), h3, h4⟩
theorem RdAt.drew {w : World} {g D : Nat} {L : List Int} (h : RdAt w g D L) : RdAt w.drew g D L := by
 obtain ⟨ao, c, h1, h2, h3, h4⟩ := h
 exact ⟨ao, c, h1.drew, ptDr h2, h3, h4⟩
theorem RdAt.grown {w w' : World} {g D X : Nat} {L : List Int} (h : RdAt w g D L) (hg : w.grownBy w' (some X)) (hX : g ≠ X) (hD : D ≤ X) : RdAt w' g D L := by
 obtain ⟨ao, c, h1, h2, h3, h4⟩ := h
 exact ⟨ao, c, h1.grown hg (by intro e; injection e with e; omega), ptGrown h2 hg (fun b e h => by injection h with h; have := h3 b e; omega), h3, h4⟩
theorem refTake_ok (g D : Nat) (L : List Int) (m : Nat) (w : World) (hR : RdAt w g D L) (h0 : 0 < m) (hm : m ≤ L.length) (hL : L.length ≤ 1048576) :
  Calls Tryz.prog 170 #[.pointer (some ⟨g, 0, none⟩), .int .i64 m] w fun e w' => ∃ ao c2, e = .returned (.slice ao m c2) ∧ Pt.Ok w' ⟨ao, c2, L.take m⟩ ∧ RdAt w' g D (L.drop m) ∧ w.grownBy w' (some g) ∧ (∀ b, ao = some b → b.block < D) := by
 obtain ⟨ao, c, hB, HP, hne, hDg⟩ := hR
 have HD := hid (List.length_drop (i := m) (l := L))
 have HSM : Hid (∃ d0, ao = some d0) := hid (by obtain ⟨b, off, h1, _⟩ := HP.row.at (i := 0) (by show 0 < L.length; omega); exact ⟨_, h1⟩)
 obtain ⟨n, Hn⟩ := hidE L.length
 have hcn : n ≤ c := by rw [Hn.out]; exact HP.len
 rw [← Hn.out] at hB hm hL HD
 have hmI : ¬ (n : Int) < (m : Int) := by omega
 have c0 : w.cell? ⟨g, 0, none⟩ = some (.slice ao n c) := hB.cell 0
 have c1 : w.cell? ⟨g, 1, none⟩ = some (.bool false) := hB.cell 1
 go_enter Tryz.func170, Tryz.ntmps170
 go_wp2_with (first
  | (refine wl_setV rfl 61 _ _ rfl 264 g 0 rfl (.slice ao2 (n - m) (c - m)) rfl rfl rfl (by kernel_rfl) [.slice ao n c, .bool false] hB (by simp) ?_; intro w1 hB1 hg1 hs1)
  | (refine wl_cutL rfl _ _ rfl ao n c L rfl m _ rfl rfl Hn.out HP hm _ _ rfl rfl ?_; intro ao2 hao2 HP2)
  | (refine wl_cutH (by rfl) _ _ rfl ao n c L rfl m _ rfl rfl Hn.out HP hm h0 ?_; intro HP1))
 go_ret
 have hb2 : ∀ b, ao2 = some b → b.block < D := fun b e => by
  obtain ⟨d0, e0⟩ := HSM.out
  obtain ⟨d, h1, h2⟩ := hao2 d0 e0
  rw [h1] at e; injection e with e; subst e; rw [h2]; exact hne _ e0
 exact ⟨ao, c, rfl, ptGrown HP1 hg1 (fun b e h => by injection h with h; have := hne b e; omega), ⟨ao2, c - m, by rw [HD.out]; exact hB1, ptGrown HP2 hg1 (fun b e h => by injection h with h; have := hb2 b e; omega), hb2, hDg⟩, hg1, hne⟩
theorem refOne_ok (g D : Nat) (x : Int) (L : List Int) (w : World) (hR : RdAt w g D (x :: L)) (hL : L.length ≤ 1048575) :
  Calls Tryz.prog 171 #[.pointer (some ⟨g, 0, none⟩)] w fun e w' => e = .returned (.int .i64 x) ∧ RdAt w' g D L ∧ w.grownBy w' (some g) := by
 have hx : Oct x := by obtain ⟨ao, c, _, HP, _, _⟩ := hR; exact HP.oct x (List.mem_cons_self ..)
 obtain ⟨hx0, hx1⟩ := hx
 have htk := hid (refTake_ok g D (x :: L) 1 w hR (by decide) (by simp) (by simp; omega))
 have hwx : RowKit.wrap64 x = x := by unfold RowKit.wrap64; omega
 have hwx2 : IntKind.i64.wrap x = x := IntWalk.i64_in _ (by omega)
 clear hR
 go_enter Tryz.func171, Tryz.ntmps171
 go_wp2_with (go_at_call 170; refine htk.out.mono ?_; rintro e w1 ⟨ao, c2, rfl, HP1, HR1, hg1, hlt1⟩; obtain ⟨b, off, rfl, hb, hc⟩ := HP1.row.at (i := 0) (by simp); have hc0 : w1.cell? ⟨b, off, none⟩ = some (.int .u8 x) := hc 0 (by simp); clear hc)
 go_ret
 exact ⟨rfl, HR1, hg1⟩
end Go.Proofs.YtdhipjoplkpgmaaGreatDoor.hf
namespace Go.Proofs.YtdhipjoplkpgmaaGreatDoor.hf
open Go.RowKit st hs wr shr sh lk
theorem RefParseBody_ok (f : List Int) (rs : List ByteArray) (ao : Option Addr) (n c : Nat) (w : World) (hf : f.length = 16) (h0 : f ≠ List.replicate 16 0) (hE : bodyE rs = 0) (hn : n = (bodyB f rs).length) (HP : Pt.Ok w ⟨ao, c, bodyB f rs⟩) :
  Calls Tryz.prog 96 #[.int .i64 2, .slice ao n c] w (ParsePost f rs w) := by
 obtain ⟨hl1, hl2⟩ := bodyB_len (f := f) hf hE
 have hlen := hid hl2
 rw [← hn] at hl1 hl2
 obtain ⟨hn16, hsm⟩ := bodyE_small hE
 have HNM := hid (bodyE_names hE).2
 have hsz32 : ∀ i, i < rs.length → (roleAt rs i).size ≤ maxLen := fun i hi => by rw [roleAt_get rs hi]; exact Nat.le_trans (hsm _ (List.getElem_mem hi)) (by decide)
 have hFl : (f.map (Value.int .u8)).length = 16 := by rw [List.length_map, hf]
 have hbf := fun (ao : Option Addr) (cap : Nat) (w' : World) (h : RowS w' ao rs) => hid (BodyError_any f hf h0 ao cap rs w' h hsz32 (by omega))
 rw [hE] at hbf
 have HCL := fun v => hid (bodyC_len (ro := v) hFl)
 have HC1 := fun v hv => hid (bodyC_one (fv := f.map (Value.int .u8)) (ro := v) (ints_one _ _) hv)
 obtain ⟨B, HB⟩ := hidE w.heap.size
 have hidc := fun (w' : World) (g : Nat) (L : List Int) (h : RdAt w' g B (f ++ L)) (hL : L.length ≤ 1048560) => hid (show Calls Tryz.prog 170 #[.pointer (some ⟨g, 0, none⟩), .int .i64 (16 : Nat)] w' fun e w'' => ∃ ao c2, e = .returned (.slice ao 16 c2) ∧ Pt.Ok w'' ⟨ao, c2, f⟩ ∧ RdAt w'' g B L ∧ w'.grownBy w'' (some g) ∧ (∀ b, ao = some b → b.block < B) by
  have e1 : (f ++ L).take 16 = f := by rw [← hf]; exact List.take_left
  have e2 : (f ++ L).drop 16 = L := by rw [← hf]; exact List.drop_left
  have h := refTake_ok g B (f ++ L) 16 w' h (by decide) (by rw [List.length_append]; omega) (by rw [List.length_append]; omega)
  rw [e1, e2] at h; exact h)
 obtain ⟨F, HF⟩ := hidE (f.map (Value.int .u8))
 have hF1 : ∀ u ∈ F, u.oneCell' = true := by rw [HF.out]; exact ints_one _ _
 have HPo : Hid (∀ ao c w', RowS w' ao rs → (∀ b, ao = some b → rs ≠ [] → w.heap.size ≤ b.block) → Below w.heap.size w w' → ParsePost f rs w (.returned (.tuple #[.agg (bodyC F (.slice ao rs.length c)).toArray, .int .i64 0])) w') := hid (fun ao c w' h1 h2 h3 => ⟨ao, c, by rw [HF.out], h1, h2, h3⟩)
 rw [← HF.out] at hbf HCL HC1 hFl
 have HPtF : Hid (∀ (w' : World) ao c, Pt.Ok w' ⟨ao, c, f⟩ → ∃ b off, ao = some ⟨b, off, none⟩ ∧ At w' ⟨b, off, none⟩ F) := hid (fun w' ao c h => by
  obtain ⟨b, off, h1, h2, h3⟩ := h.row.at (i := 0) (by show 0 < f.length; omega)
  exact ⟨b, off, h1, by rw [HF.out]; intro j u hu; rw [addr_add]; have hj := (List.getElem?_eq_some_iff.1 hu).1; rw [List.length_map] at hj; rw [h3 j hj]; rw [List.getElem?_map] at hu; simp [List.getD_eq_getElem?_getD, hj] at hu ⊢; exact hu⟩)
 obtain ⟨Q, HQ⟩ := hidE (ParsePost f rs w)
 rw [← HQ.out] at HPo ⊢
 have hz := hid zeroBody
 have HZ0 : Hid ((bodyC zID (.slice none 0 0)).length = 58) := hid (bodyC_len rfl)
 have HZP : Hid ((bodyC zID (.slice none 0 0)).take 1 ++ F ++ (bodyC zID (.slice none 0 0)).drop (1 + 16) = bodyC F (.slice none 0 0)) := hid (bodyC_put rfl hFl)
 obtain ⟨Z, HZ⟩ := hidE (bodyC zID (.slice none 0 0))
 rw [← HZ.out] at HZ0 hz HZP
 have hsz : w.heap.size = B := HB.out.symm
 rw [hsz] at HPo
 have HPB := fun (w' : World) (hb : Below B w w') => hid (HP.below (hsz ▸ hb))
 have HPlt := hid HP.lt
 have hNN := hid hn
 have hnI : ¬ (32768 : Int) < (n : Int) := by omega
 have HRL : Hid ((((rs.length : Nat) : Int) :: rolesB rs).length ≤ 1048560) := hid (by have := hlen.out; unfold bodyB at this; rw [List.length_append, hf] at this; omega)
 have HRL2 : Hid ((rolesB rs).length ≤ 1048575) := hid (by have := HRL.out; rw [List.length_cons] at this; omega)
 have HOC := fun (w' : World) (g : Nat) (h : RdAt w' g B (((rs.length : Nat) : Int) :: rolesB rs)) => hid (refOne_ok g B _ _ w' h HRL2.out)
 obtain ⟨m, Hm⟩ := hidE rs.length
 rw [← Hm.out] at HPo hbf hn16 HOC HRL
 have hAA := fun w a n cap h => run_arrayID w a n cap h
 clear hn HP hsm hsz32 hE hl1 hl2 h0
 go_enter Tryz.func96, Tryz.ntmps96
 go_wp2_with (first
  | (obtain ⟨I, HI⟩ := hidE w4.heap.size; have hgI : B + 2 < I := (by rw [HI.out]; have := hb4.size; omega); refine wl_rangeStr rfl 9 _ rfl Tryz.underlying9 MR rfl I HI.out.symm ?_; intro w5 hI5 hb5 hs5; have hT5 := hT4.below hb5 (by omega); have hX5 := hX4.below hb5 (by omega); have hR5 := hR4.below hb5 (by omega); have bb5 : Below B w w5 := bb4.trans (hb5.mono (by omega)))
  | (go_at_call 161; refine (uses_two w3).mono ?_; rintro e w4 ⟨rfl, hb4⟩; have hT4 := hT3.below hb4 (by omega); have hX4 := hX3.below hb4 (by omega); have hR4 := hR3.below hb4 (by omega); have bb4 : Below B w w4 := bb3.trans (hb4.mono (by omega)))
  | (refine wl_boxV rfl 264 _ rfl [.slice ao n c, .bool false] rfl (B + 2) (by omega) ?_; intro w3 hG3 hb3 hs3; have hT3 := hT2.below hb3 (by omega); have hX3 := hX2.below hb3 (by omega); have bb3 : Below B w w3 := bb2.trans (hb3.mono (by omega)); have hR3 : RdAt w3 (B + 2) B (bodyB f rs) := ⟨ao, c, (by rw [← hNN.out]; exact hG3), (HPB w3 bb3).out, fun b e => by have := HPlt.out b e; (try dsimp only at this); omega, by omega⟩)
  | (refine wl_build1 rfl 264 0 _ rfl _ rfl [.slice ao n c, .bool false] (by rfl) ?_)
  | (refine wl_allocV rfl 42 rfl Z hz.out (B + 1) (by omega) ?_; intro w2 hX2 hb2 hs2; have hT2 := hT1.below hb2 (by omega); have bb2 : Below B w w2 := bb1.trans (hb2.mono (by omega)))
  | (refine wl_allocV rfl 42 rfl Z hz.out B hsz ?_; intro w1 hT1 bb1 hs1))
 unfold bodyB at hR5
 rw [← Hm.out] at hR5
 obtain ⟨g, hgl, hgu⟩ : ∃ q, B + 2 ≤ q ∧ q ≤ B + 2 := ⟨B + 2, Nat.le_refl _, Nat.le_refl _⟩
 obtain rfl : g = B + 2 := by omega
 obtain ⟨G, HG⟩ := hidE w5.heap.size
 have hIG : I < G := by rw [HG.out]; omega
 have hG5 : G ≤ w5.heap.size := Nat.le_of_eq HG.out
 clear hT1 hT2 hT3 hT4 hX2 hX3 hX4 hR3 hR4 bb1 bb2 bb3 bb4 hG3
 simp only [Act.put, fpA, fpZ, fpN]
 go_loopg [] 2 (fun gf wx => ∃ pos : Nat, pos + gf = 2 ∧ wx.heap[I]? = some (.stringIter MR pos) ∧ BlkV 42 wx B Z ∧ Below B w wx ∧ G ≤ wx.heap.size ∧ ((pos = 0 ∧ BlkV 42 wx (B + 1) Z ∧ RdAt wx (B + 2) B (f ++ ((m : Int) :: rolesB rs))) ∨ (pos = 1 ∧ BlkV 42 wx (B + 1) (bodyC F (.slice none 0 0)) ∧ RdAt wx (B + 2) B ((m : Int) :: rolesB rs)) ∨ (pos = 2 ∧ ∃ v, BlkV 42 wx (B + 1) (bodyC F v) ∧ Mine wx G 9 1 v m (strV rs) ∧ RdAt wx (B + 2) B [])))
 case atStart => exact ⟨0, by omega, hI5, hT5, bb5, hG5, Or.inl ⟨rfl, hX5, hR5⟩⟩
 case round =>
  obtain ⟨pos, hpg, hit, hTr, bbr, hGr, hcase⟩ := hrel
  rcases hcase with ⟨rfl, hXr, hRr⟩ | ⟨rfl, hXr, hRr⟩ | ⟨rfl, v, hXr, hMr, hRr⟩
  ·obtain rfl : gk = 1 + 1 := by omega
   clear hpg
   go_wp2_with (first
    | (refine wl_storeP rfl 25 _ _ rfl 42 (B + 1) 1 rfl F rfl 16 aggIDT hFl Z hX2 (by rw [HZ0.out]; decide) hF1 _ HZP.out ?_; intro y3 hX3 hb3 hg3 hs3; have hT3 := hT2.below hb3 (by omega); have b3 : Below B w y3 := b2.trans (hb3.mono (by omega)); have hI3 : y3.heap[I]? = some (.stringIter MR (0 + 1)) := (hg3.block I (by omega) (by intro e; injection e with e; omega)).trans hI2; have hR3 := hR2.grown hg3 (by omega) (by omega); have hz3 : G ≤ y3.heap.size := (by omega))
    | (refine wl_loadG (by rfl) 25 _ rfl ⟨b, off, none⟩ rfl 16 F hFl aggIDT hA2 ?_)
    | (go_at_call 170; refine (hidc y1 (B + 2) _ hR1 HRL.out).out.mono ?_; rintro e y2 ⟨a2, c2, rfl, HP2, hR2, hg2, hlt2⟩; obtain ⟨b, off, rfl, hA2⟩ := HPtF.out _ _ _ HP2; have hX2 := hX1.grown hg2 (by intro e; injection e with e; omega); have hT2 := hT1.grown hg2 (by intro e; injection e with e; omega); have b2 : Below B w y2 := b1.grown hg2 (by omega) (fun k hk => by injection hk with hk; omega); have hI2 : y2.heap[I]? = some (.stringIter MR (0 + 1)) := (hg2.block I (by omega) (by intro e; injection e with e; omega)).trans hI1; have hz2 : G ≤ y2.heap.size := (by have := hg2.size; omega))
    | (refine wl_nextStr rfl _ rfl MR 0 I 109 1 hit (by decide) dec0 rfl ?_; intro y1 hI1 hg1 hs1; have hX1 := hXr.grown hg1 (by intro e; injection e with e; omega); have hT1 := hTr.grown hg1 (by intro e; injection e with e; omega); have hR1 := hRr.grown hg1 (by omega) (by omega); have b1 : Below B w y1 := bbr.grown hg1 (by omega) (fun k hk => by injection hk with hk; omega)))
   go_roundg 1
   case measure => omega
   case rel => exact ⟨1, by omega, hI3, hT3, b3, hz3, Or.inr (Or.inl ⟨rfl, hX3, hR3⟩)⟩
  ·obtain rfl : gk = 0 + 1 := by omega
   clear hpg
   go_wp2_with (first
    | (go_at_call 171; refine (HOC y1 (B + 2) hR1).out.mono ?_; rintro e y2 ⟨rfl, hR2, hg2⟩; have hX2 := hX1.grown hg2 (by intro e; injection e with e; omega); have hT2 := hT1.grown hg2 (by intro e; injection e with e; omega); have b2 : Below B w y2 := b1.grown hg2 (by omega) (fun k hk => by injection hk with hk; omega); have hI2 : y2.heap[I]? = some (.stringIter MR (1 + 1)) := (hg2.block I (by omega) (by intro e; injection e with e; omega)).trans hI1; have hz2 : G ≤ y2.heap.size := (by have := hg2.size; omega))
    | (refine wl_nextStr rfl _ rfl MR 1 I 114 1 hit (by decide) dec1 rfl ?_; intro y1 hI1 hg1 hs1; have hX1 := hXr.grown hg1 (by intro e; injection e with e; omega); have hT1 := hTr.grown hg1 (by intro e; injection e with e; omega); have hR1 := hRr.grown hg1 (by omega) (by omega); have b1 : Below B w y1 := bbr.grown hg1 (by omega) (fun k hk => by injection hk with hk; omega)))
   clear hXr hTr hRr bbr hit hX1 hT1 hR1 b1 hI1
   obtain ⟨wo, hwo⟩ : ∃ wo, wo = wr := ⟨_, rfl⟩
   subst hwo
   go_loopw [54] (fun i wx => ∃ (k : Nat) (v : Value), k ≤ m ∧ i = .int .i64 k ∧ BlkV 42 wx (B + 1) (bodyC F v) ∧ Mine wx G 9 1 v k (strV (rs.take k)) ∧ RdAt wx (B + 2) B (rolesB (rs.drop k)) ∧ BlkV 42 wx B Z ∧ wx.heap[I]? = some (.stringIter MR 2) ∧ Below B w wx ∧ G ≤ wx.heap.size) (fun i _ => m - (intOf i).toNat)
   case atStart => exact ⟨0, .slice none 0 0, Nat.zero_le _, rfl, hX2, by rw [List.take_zero]; exact Mine.nil _ _ _ _, by rw [List.drop_zero]; exact hR2, hT2, hI2, b2, hz2⟩
   case round =>
    obtain ⟨k, v, hk, rfl, hXk, hMk, hRk, hTk, hIk, bbk, hzk⟩ := hrel
    by_cases hkm : k < m
    ·have hkI : (k : Int) < (m : Int) := by omega
     have hkr : k < rs.length := by rw [← Hm.out]; exact hkm
     obtain ⟨s, Hs⟩ := hidE (roleAt rs k)
     have hss : 0 < s.size := by rw [Hs.out]; exact (isName_size (HNM.out k hkr)).1
     have HRD : Hid (rolesB (rs.drop k) = (s.size : Int) :: (numsOf s ++ rolesB (rs.drop (k + 1)))) := hid (by rw [rolesB_drop rs hkr, Hs.out]; (try rfl))
     have HTK : Hid (strV (rs.take (k + 1)) = strV (rs.take k) ++ [.string s]) := hid (by unfold strV; rw [List.take_succ_eq_append_getElem hkr, List.map_append, Hs.out, roleAt_get rs hkr]; rfl)
     have HLL : Hid ((numsOf s ++ rolesB (rs.drop (k + 1))).length ≤ 1048575) := hid (by
      have h1 : rolesB rs = rolesB (rs.take k) ++ rolesB (rs.drop k) := by unfold rolesB; rw [← List.flatten_append, ← List.map_append, List.take_append_drop]
      have h2 := congrArg List.length h1
      rw [List.length_append, HRD.out, List.length_cons] at h2
      have := HRL2.out
      omega)
     have e1 : (numsOf s ++ rolesB (rs.drop (k + 1))).take s.size = numsOf s := by rw [← numsOf_length]; exact List.take_left
     have e2 : (numsOf s ++ rolesB (rs.drop (k + 1))).drop s.size = rolesB (rs.drop (k + 1)) := by rw [← numsOf_length]; exact List.drop_left
     rw [HRD.out] at hRk
     have hone := hid (fun (w' : World) (h : RdAt w' (B + 2) B ((s.size : Int) :: (numsOf s ++ rolesB (rs.drop (k + 1))))) => refOne_ok (B + 2) B (s.size : Int) _ w' h HLL.out)
     have htk := hid (fun (w' : World) (h : RdAt w' (B + 2) B (numsOf s ++ rolesB (rs.drop (k + 1)))) => refTake_ok (B + 2) B (numsOf s ++ rolesB (rs.drop (k + 1))) s.size w' h hss (by rw [List.length_append, numsOf_length]; omega) (Nat.le_trans HLL.out (by decide)))
     rw [e1, e2] at htk
     have HNl : Hid (s.size = (numsOf s).length) := hid (by rw [numsOf_length])
     have HST := hid (strOf_nums s)
     obtain ⟨ms, hms⟩ : ∃ q, s.size = q := ⟨_, rfl⟩
     rw [hms] at hone htk HNl hRk
     obtain ⟨T, HT⟩ := hidE (numsOf s)
     rw [← HT.out] at hone htk HNl HST hRk
     clear e1 e2 HLL
     go_wp2_with fail
     refine wp_region_held_drew (S := (fun _ => True)) (by kernel_rfl) trivial (fun hHeld => ?_)
     obtain ⟨x0, HX0⟩ := hidE wr.drew
     rw [← HX0.out]
     have hX0 : BlkV 42 x0 (B + 1) (bodyC F v) := by rw [HX0.out]; exact hXk
     have hT0 : BlkV 42 x0 B Z := by rw [HX0.out]; exact hTk
     have hM0 : Mine x0 G 9 1 v k (strV (rs.take k)) := by rw [HX0.out]; exact hMk
     have hR0 : RdAt x0 (B + 2) B ((ms : Int) :: (T ++ rolesB (rs.drop (k + 1)))) := by rw [HX0.out]; exact hRk.drew
     have bb0 : Below B w x0 := by rw [HX0.out]; exact bbk.drew
     have hI0 : x0.heap[I]? = some (.stringIter MR 2) := by rw [HX0.out]; exact hIk
     have hs0 : G ≤ x0.heap.size := by rw [HX0.out]; exact hzk
     clear hXk hTk hMk hRk bbk hIk hzk
     refine tq 0 rfl ?_
     refine tq 2 rfl ?_
     refine tq 3 rfl ?_
     refine e2 1 4 rfl rfl (fun K' hK' => ?_) fun K' hK' => ?_
     focus
      rw [if_pos (by rfl)]
      have c17e : x0.cell? ⟨B + 1, 17, none⟩ = some v := (hX0.cell 17).trans (bodyC_tail hFl 0)
      go_simp
      refine hK'.out _ _ trivial (fun hHeld => ?_)
      clear c17e
      clear hK' K'
      try simp only [Act.put, fpA, fpZ, fpN]
      refine e1 4 rfl fun K' hK' => ?_
      rw [if_pos (by rfl)]
      go_simp
      go_at_call 171
      refine (hone.out x0 hR0).mono ?_
      rintro e x1 ⟨rfl, hR1, hg1⟩
      have hX1 := hX0.grown hg1 (by intro e; injection e with e; omega)
      have hT1 := hT0.grown hg1 (by intro e; injection e with e; omega)
      have hM1 := mine_grown hM0 hg1 (by omega)
      have bb1 : Below B w x1 := bb0.grown hg1 (by omega) (fun k hk => by injection hk with hk; omega)
      have hI1 : x1.heap[I]? = some (.stringIter MR 2) := (hg1.block I (by omega) (by intro e; injection e with e; omega)).trans hI0
      have hs1 : G ≤ x1.heap.size := by have := hg1.size; omega
      refine ko hK' trivial fun hHeld => ?_
      clear hK' K'
      refine e1 5 rfl fun K' hK' => ?_
      rw [if_pos (by rfl)]
      go_simp
      go_at_call 170
      refine (htk.out x1 hR1).mono ?_
      rintro e x2 ⟨aq, cq, rfl, HPq, hR2, hg2, hltq⟩
      have hX2 := hX1.grown hg2 (by intro e; injection e with e; omega)
      have hT2 := hT1.grown hg2 (by intro e; injection e with e; omega)
      have hM2 := mine_grown hM1 hg2 (by omega)
      have bb2 : Below B w x2 := bb1.grown hg2 (by omega) (fun k hk => by injection hk with hk; omega)
      have hI2 : x2.heap[I]? = some (.stringIter MR 2) := (hg2.block I (by omega) (by intro e; injection e with e; omega)).trans hI1
      have hs2 : G ≤ x2.heap.size := by have := hg2.size; omega
      refine ko hK' trivial fun hHeld => ?_
      clear hK' K'
      refine e1 6 rfl fun K' hK' => ?_
      have hcv := run_convStr x2 aq ms cq T HNl.out HPq.row
      rw [HST.out] at hcv
      rw [if_pos (by rfl)]
      go_simp
      refine hK'.out _ _ trivial (fun hHeld => ?_)
      clear hcv
      clear hK' K'
      try simp only [Act.put, fpA, fpZ, fpN]
      refine e1 7 rfl fun K' hK' => ?_
      obtain ⟨L3, HL3⟩ := hidE x2.heap.size
      refine step_lit1 rfl 26 9 _ rfl Tryz.underlying26 (.string ⟨#[]⟩) 16 infoStr rfl (.string s) rfl rfl L3 HL3.out.symm ?_
      intro x3 hL3 hb3 hsz3
      have hLG : G ≤ L3 := by rw [HL3.out]; exact hs2
      have hX3 := hX2.below hb3 (by omega)
      have hT3 := hT2.below hb3 (by omega)
      have hM3 := hM2.belowAll (HL3.out ▸ hb3)
      have hR3 := hR2.below hb3 (by omega)
      have bb3 : Below B w x3 := bb2.trans (hb3.mono (by omega))
      have hI3 : x3.heap[I]? = some (.stringIter MR 2) := (hb3.block I (by omega)).trans hI2
      have hs3 : G ≤ x3.heap.size := by omega
      refine ko hK' trivial fun hHeld => ?_
      clear hK' K'
      refine e1 8 rfl fun K' hK' => ?_
      refine step_appendS rfl _ _ 26 rfl 9 (.string ⟨#[]⟩) 1 16 Tryz.underlying26 infoStr rfl (by decide) G v k _ rfl hM3 (some ⟨L3, 0, none⟩) 1 1 rfl (fun h => by cases h) [.string s] rfl (at_row hL3.lt hL3.at0) (by intro u hu; rw [List.mem_singleton.1 hu]; rfl) (by unfold maxLen; omega) (by omega) (by omega) (k + 1) rfl ?_
      intro ao4 c4 x4 row4 hc4 hM4 hV4 hg4 hr4
      have hb4 := (Below.refl G x3).grown hg4 (by omega) (fun k hk => (hr4 k hk).1)
      have hX4 := hX3.below hb4 (by omega)
      have hT4 := hT3.below hb4 (by omega)
      have hR4 := hR3.below hb4 (by omega)
      have bb4 : Below B w x4 := bb3.trans (hb4.mono (by omega))
      have hI4 : x4.heap[I]? = some (.stringIter MR 2) := (hb4.block I (by omega)).trans hI3
      have hs4 : G ≤ x4.heap.size := by have := hg4.size; omega
      refine ko hK' trivial fun hHeld => ?_
      clear hK' K'
      refine tq 9 rfl ?_
     rotate_left 1
     focus
      rw [if_pos (by rfl)]
      go_simp
      go_at_call 171
      refine (hone.out x0 hR0).mono ?_
      rintro e x1 ⟨rfl, hR1, hg1⟩
      have hX1 := hX0.grown hg1 (by intro e; injection e with e; omega)
      have hT1 := hT0.grown hg1 (by intro e; injection e with e; omega)
      have hM1 := mine_grown hM0 hg1 (by omega)
      have bb1 : Below B w x1 := bb0.grown hg1 (by omega) (fun k hk => by injection hk with hk; omega)
      have hI1 : x1.heap[I]? = some (.stringIter MR 2) := (hg1.block I (by omega) (by intro e; injection e with e; omega)).trans hI0
      have hs1 : G ≤ x1.heap.size := by have := hg1.size; omega
      refine ko hK' trivial fun hHeld => ?_
      clear hK' K'
      refine e2 1 5 rfl rfl (fun K' hK' => ?_) fun K' hK' => ?_
      focus
       rw [if_pos (by rfl)]
       have c17e : x1.cell? ⟨B + 1, 17, none⟩ = some v := (hX1.cell 17).trans (bodyC_tail hFl 0)
       go_simp
       refine hK'.out _ _ trivial (fun hHeld => ?_)
       clear c17e
       clear hK' K'
       try simp only [Act.put, fpA, fpZ, fpN]
       refine e1 5 rfl fun K' hK' => ?_
       rw [if_pos (by rfl)]
       go_simp
       go_at_call 170
       refine (htk.out x1 hR1).mono ?_
       rintro e x2 ⟨aq, cq, rfl, HPq, hR2, hg2, hltq⟩
       have hX2 := hX1.grown hg2 (by intro e; injection e with e; omega)
       have hT2 := hT1.grown hg2 (by intro e; injection e with e; omega)
       have hM2 := mine_grown hM1 hg2 (by omega)
       have bb2 : Below B w x2 := bb1.grown hg2 (by omega) (fun k hk => by injection hk with hk; omega)
       have hI2 : x2.heap[I]? = some (.stringIter MR 2) := (hg2.block I (by omega) (by intro e; injection e with e; omega)).trans hI1
       have hs2 : G ≤ x2.heap.size := by have := hg2.size; omega
       refine ko hK' trivial fun hHeld => ?_
       clear hK' K'
       refine e1 6 rfl fun K' hK' => ?_
       have hcv := run_convStr x2 aq ms cq T HNl.out HPq.row
       rw [HST.out] at hcv
       rw [if_pos (by rfl)]
       go_simp
       refine hK'.out _ _ trivial (fun hHeld => ?_)
       clear hcv
       clear hK' K'
       try simp only [Act.put, fpA, fpZ, fpN]
       refine e1 7 rfl fun K' hK' => ?_
       obtain ⟨L3, HL3⟩ := hidE x2.heap.size
       refine step_lit1 rfl 26 9 _ rfl Tryz.underlying26 (.string ⟨#[]⟩) 16 infoStr rfl (.string s) rfl rfl L3 HL3.out.symm ?_
       intro x3 hL3 hb3 hsz3
       have hLG : G ≤ L3 := by rw [HL3.out]; exact hs2
       have hX3 := hX2.below hb3 (by omega)
       have hT3 := hT2.below hb3 (by omega)
       have hM3 := hM2.belowAll (HL3.out ▸ hb3)
       have hR3 := hR2.below hb3 (by omega)
       have bb3 : Below B w x3 := bb2.trans (hb3.mono (by omega))
       have hI3 : x3.heap[I]? = some (.stringIter MR 2) := (hb3.block I (by omega)).trans hI2
       have hs3 : G ≤ x3.heap.size := by omega
       refine ko hK' trivial fun hHeld => ?_
       clear hK' K'
       refine e1 8 rfl fun K' hK' => ?_
       refine step_appendS rfl _ _ 26 rfl 9 (.string ⟨#[]⟩) 1 16 Tryz.underlying26 infoStr rfl (by decide) G v k _ rfl hM3 (some ⟨L3, 0, none⟩) 1 1 rfl (fun h => by cases h) [.string s] rfl (at_row hL3.lt hL3.at0) (by intro u hu; rw [List.mem_singleton.1 hu]; rfl) (by unfold maxLen; omega) (by omega) (by omega) (k + 1) rfl ?_
       intro ao4 c4 x4 row4 hc4 hM4 hV4 hg4 hr4
       have hb4 := (Below.refl G x3).grown hg4 (by omega) (fun k hk => (hr4 k hk).1)
       have hX4 := hX3.below hb4 (by omega)
       have hT4 := hT3.below hb4 (by omega)
       have hR4 := hR3.below hb4 (by omega)
       have bb4 : Below B w x4 := bb3.trans (hb4.mono (by omega))
       have hI4 : x4.heap[I]? = some (.stringIter MR 2) := (hb4.block I (by omega)).trans hI3
       have hs4 : G ≤ x4.heap.size := by have := hg4.size; omega
       refine ko hK' trivial fun hHeld => ?_
       clear hK' K'
       refine tq 9 rfl ?_
      rotate_left 1
      focus
       rw [if_pos (by rfl)]
       go_simp
       go_at_call 170
       refine (htk.out x1 hR1).mono ?_
       rintro e x2 ⟨aq, cq, rfl, HPq, hR2, hg2, hltq⟩
       have hX2 := hX1.grown hg2 (by intro e; injection e with e; omega)
       have hT2 := hT1.grown hg2 (by intro e; injection e with e; omega)
       have hM2 := mine_grown hM1 hg2 (by omega)
       have bb2 : Below B w x2 := bb1.grown hg2 (by omega) (fun k hk => by injection hk with hk; omega)
       have hI2 : x2.heap[I]? = some (.stringIter MR 2) := (hg2.block I (by omega) (by intro e; injection e with e; omega)).trans hI1
       have hs2 : G ≤ x2.heap.size := by have := hg2.size; omega
       refine ko hK' trivial fun hHeld => ?_
       clear hK' K'
       refine e2 1 6 rfl rfl (fun K' hK' => ?_) fun K' hK' => ?_
       focus
        rw [if_pos (by rfl)]
        have c17e : x2.cell? ⟨B + 1, 17, none⟩ = some v := (hX2.cell 17).trans (bodyC_tail hFl 0)
        go_simp
        refine hK'.out _ _ trivial (fun hHeld => ?_)
        clear c17e
        clear hK' K'
        try simp only [Act.put, fpA, fpZ, fpN]
        refine e1 6 rfl fun K' hK' => ?_
        have hcv := run_convStr x2 aq ms cq T HNl.out HPq.row
        rw [HST.out] at hcv
        rw [if_pos (by rfl)]
        go_simp
        refine hK'.out _ _ trivial (fun hHeld => ?_)
        clear hcv
        clear hK' K'
        try simp only [Act.put, fpA, fpZ, fpN]
        refine e1 7 rfl fun K' hK' => ?_
        obtain ⟨L3, HL3⟩ := hidE x2.heap.size
        refine step_lit1 rfl 26 9 _ rfl Tryz.underlying26 (.string ⟨#[]⟩) 16 infoStr rfl (.string s) rfl rfl L3 HL3.out.symm ?_
        intro x3 hL3 hb3 hsz3
        have hLG : G ≤ L3 := by rw [HL3.out]; exact hs2
        have hX3 := hX2.below hb3 (by omega)
        have hT3 := hT2.below hb3 (by omega)
        have hM3 := hM2.belowAll (HL3.out ▸ hb3)
        have hR3 := hR2.below hb3 (by omega)
        have bb3 : Below B w x3 := bb2.trans (hb3.mono (by omega))
        have hI3 : x3.heap[I]? = some (.stringIter MR 2) := (hb3.block I (by omega)).trans hI2
        have hs3 : G ≤ x3.heap.size := by omega
        refine ko hK' trivial fun hHeld => ?_
        clear hK' K'
        refine e1 8 rfl fun K' hK' => ?_
        refine step_appendS rfl _ _ 26 rfl 9 (.string ⟨#[]⟩) 1 16 Tryz.underlying26 infoStr rfl (by decide) G v k _ rfl hM3 (some ⟨L3, 0, none⟩) 1 1 rfl (fun h => by cases h) [.string s] rfl (at_row hL3.lt hL3.at0) (by intro u hu; rw [List.mem_singleton.1 hu]; rfl) (by unfold maxLen; omega) (by omega) (by omega) (k + 1) rfl ?_
        intro ao4 c4 x4 row4 hc4 hM4 hV4 hg4 hr4
        have hb4 := (Below.refl G x3).grown hg4 (by omega) (fun k hk => (hr4 k hk).1)
        have hX4 := hX3.below hb4 (by omega)
        have hT4 := hT3.below hb4 (by omega)
        have hR4 := hR3.below hb4 (by omega)
        have bb4 : Below B w x4 := bb3.trans (hb4.mono (by omega))
        have hI4 : x4.heap[I]? = some (.stringIter MR 2) := (hb4.block I (by omega)).trans hI3
        have hs4 : G ≤ x4.heap.size := by have := hg4.size; omega
        refine ko hK' trivial fun hHeld => ?_
        clear hK' K'
        refine tq 9 rfl ?_
       rotate_left 1
       focus
        have hcv := run_convStr x2 aq ms cq T HNl.out HPq.row
        rw [HST.out] at hcv
        rw [if_pos (by rfl)]
        go_simp
        refine hK'.out _ _ trivial (fun hHeld => ?_)
        clear hcv
        clear hK' K'
        try simp only [Act.put, fpA, fpZ, fpN]
        refine e2 1 7 rfl rfl (fun K' hK' => ?_) fun K' hK' => ?_
        focus
         rw [if_pos (by rfl)]
         have c17e : x2.cell? ⟨B + 1, 17, none⟩ = some v := (hX2.cell 17).trans (bodyC_tail hFl 0)
         go_simp
         refine hK'.out _ _ trivial (fun hHeld => ?_)
         clear c17e
         clear hK' K'
         try simp only [Act.put, fpA, fpZ, fpN]
         refine e1 7 rfl fun K' hK' => ?_
         obtain ⟨L3, HL3⟩ := hidE x2.heap.size
         refine step_lit1 rfl 26 9 _ rfl Tryz.underlying26 (.string ⟨#[]⟩) 16 infoStr rfl (.string s) rfl rfl L3 HL3.out.symm ?_
         intro x3 hL3 hb3 hsz3
         have hLG : G ≤ L3 := by rw [HL3.out]; exact hs2
         have hX3 := hX2.below hb3 (by omega)
         have hT3 := hT2.below hb3 (by omega)
         have hM3 := hM2.belowAll (HL3.out ▸ hb3)
         have hR3 := hR2.below hb3 (by omega)
         have bb3 : Below B w x3 := bb2.trans (hb3.mono (by omega))
         have hI3 : x3.heap[I]? = some (.stringIter MR 2) := (hb3.block I (by omega)).trans hI2
         have hs3 : G ≤ x3.heap.size := by omega
         refine ko hK' trivial fun hHeld => ?_
         clear hK' K'
         refine e1 8 rfl fun K' hK' => ?_
         refine step_appendS rfl _ _ 26 rfl 9 (.string ⟨#[]⟩) 1 16 Tryz.underlying26 infoStr rfl (by decide) G v k _ rfl hM3 (some ⟨L3, 0, none⟩) 1 1 rfl (fun h => by cases h) [.string s] rfl (at_row hL3.lt hL3.at0) (by intro u hu; rw [List.mem_singleton.1 hu]; rfl) (by unfold maxLen; omega) (by omega) (by omega) (k + 1) rfl ?_
         intro ao4 c4 x4 row4 hc4 hM4 hV4 hg4 hr4
         have hb4 := (Below.refl G x3).grown hg4 (by omega) (fun k hk => (hr4 k hk).1)
         have hX4 := hX3.below hb4 (by omega)
         have hT4 := hT3.below hb4 (by omega)
         have hR4 := hR3.below hb4 (by omega)
         have bb4 : Below B w x4 := bb3.trans (hb4.mono (by omega))
         have hI4 : x4.heap[I]? = some (.stringIter MR 2) := (hb4.block I (by omega)).trans hI3
         have hs4 : G ≤ x4.heap.size := by have := hg4.size; omega
         refine ko hK' trivial fun hHeld => ?_
         clear hK' K'
         refine tq 9 rfl ?_
        rotate_left 1
        focus
         obtain ⟨L3, HL3⟩ := hidE x2.heap.size
         refine step_lit1 rfl 26 9 _ rfl Tryz.underlying26 (.string ⟨#[]⟩) 16 infoStr rfl (.string s) rfl rfl L3 HL3.out.symm ?_
         intro x3 hL3 hb3 hsz3
         have hLG : G ≤ L3 := by rw [HL3.out]; exact hs2
         have hX3 := hX2.below hb3 (by omega)
         have hT3 := hT2.below hb3 (by omega)
         have hM3 := hM2.belowAll (HL3.out ▸ hb3)
         have hR3 := hR2.below hb3 (by omega)
         have bb3 : Below B w x3 := bb2.trans (hb3.mono (by omega))
         have hI3 : x3.heap[I]? = some (.stringIter MR 2) := (hb3.block I (by omega)).trans hI2
         have hs3 : G ≤ x3.heap.size := by omega
         refine ko hK' trivial fun hHeld => ?_
         clear hK' K'
         refine e1 1 rfl fun K' hK' => ?_
         rw [if_pos (by rfl)]
         have c17e : x3.cell? ⟨B + 1, 17, none⟩ = some v := (hX3.cell 17).trans (bodyC_tail hFl 0)
         go_simp
         refine hK'.out _ _ trivial (fun hHeld => ?_)
         clear c17e
         clear hK' K'
         try simp only [Act.put, fpA, fpZ, fpN]
         refine e1 8 rfl fun K' hK' => ?_
         refine step_appendS rfl _ _ 26 rfl 9 (.string ⟨#[]⟩) 1 16 Tryz.underlying26 infoStr rfl (by decide) G v k _ rfl hM3 (some ⟨L3, 0, none⟩) 1 1 rfl (fun h => by cases h) [.string s] rfl (at_row hL3.lt hL3.at0) (by intro u hu; rw [List.mem_singleton.1 hu]; rfl) (by unfold maxLen; omega) (by omega) (by omega) (k + 1) rfl ?_
         intro ao4 c4 x4 row4 hc4 hM4 hV4 hg4 hr4
         have hb4 := (Below.refl G x3).grown hg4 (by omega) (fun k hk => (hr4 k hk).1)
         have hX4 := hX3.below hb4 (by omega)
         have hT4 := hT3.below hb4 (by omega)
         have hR4 := hR3.below hb4 (by omega)
         have bb4 : Below B w x4 := bb3.trans (hb4.mono (by omega))
         have hI4 : x4.heap[I]? = some (.stringIter MR 2) := (hb4.block I (by omega)).trans hI3
         have hs4 : G ≤ x4.heap.size := by have := hg4.size; omega
         refine ko hK' trivial fun hHeld => ?_
         clear hK' K'
         refine tq 9 rfl ?_
        rotate_left 1
       rotate_left 2
      rotate_left 3
     rotate_left 4
     all_goals
      refine e1 10 rfl fun K' hK' => ?_
      refine step_set1 rfl 26 _ _ rfl 42 (B + 1) 17 rfl (.slice ao4 (k + 1) c4) rfl rfl rfl (by kernel_rfl) _ hX4 (by rw [bodyC_len hFl]; decide) ?_
      intro x5 hX5 hg5 hb5 hsz5
      rw [bodyC_set hFl] at hX5
      have hT5 := hT4.grown hg5 (by intro e; injection e with e; omega)
      have hM5 := mine_grown hM4 hg5 (by omega)
      have hR5 := hR4.grown hg5 (by omega) (by omega)
      have bb5 : Below B w x5 := bb4.grown hg5 (by omega) (fun k hk => by injection hk with hk; omega)
      have hI5 : x5.heap[I]? = some (.stringIter MR 2) := (hg5.block I (by omega) (by intro e; injection e with e; omega)).trans hI4
      have hs5 : G ≤ x5.heap.size := by omega
      refine ko hK' trivial fun hHeld => ?_
      clear hK' K'
      refine wpAnyH_done (by kernel_rfl) ?_ _
      clear hHeld
      go_wp2
      go_roundw
      case rel => exact ⟨k + 1, .slice ao4 (k + 1) c4, by omega, by go_num, hX5, by rw [HTK.out]; exact hM5, hR5, hT5, hI5, bb5, hs5⟩
      case measure => simp [intOf] <;> omega
    ·have hkI : ¬ (k : Int) < (m : Int) := by omega
     have HKT : Hid (rs.take k = rs) := hid (List.take_of_length_le (by rw [← Hm.out]; omega))
     have hRe : RdAt wr (B + 2) B [] := by
      have h := hRk
      rw [show rs.drop k = [] from List.drop_eq_nil_of_le (by rw [← Hm.out]; omega)] at h
      exact h
     have hkn : k = m := by omega
     subst hkn
     rw [HKT.out] at hMk
     clear hRk
     go_wp2
     go_roundg 0
     case measure => omega
     case rel => exact ⟨2, by omega, hIk, hTk, bbk, hzk, Or.inr (Or.inr ⟨rfl, v, hXk, hMk, hRe⟩)⟩
  ·obtain rfl : gk = 0 := by omega
   clear hpg
   have hMr' := hMr
   rw [Hm.out] at hMr'
   obtain ⟨ra, rc, rfl, hRW⟩ := rowS_of hMr'
   have hlow : ∀ b, ra = some b → rs ≠ [] → G ≤ b.block := fun b e hne => mineLow hMr' (List.length_pos_iff.2 hne) b e
   rw [← Hm.out] at hXr
   clear hMr hMr'
   obtain ⟨ga, gc, hG, _⟩ := hRr
   have g0 : wr.cell? ⟨B + 2, 0, none⟩ = some (.slice ga 0 gc) := hG.cell 0
   have g1 : wr.cell? ⟨B + 2, 1, none⟩ = some (.bool false) := hG.cell 1
   have hbf' := hbf ra rc
   have hCSl := (HCL (.slice ra m rc)).out
   have hCS1 := (HC1 (.slice ra m rc) rfl).out
   obtain ⟨CS, HCS⟩ := hidE (bodyC F (.slice ra m rc))
   rw [← HCS.out] at hbf' hCSl hCS1 hXr
   go_wp2_with (first
    | (refine wl_storeK rfl 42 _ _ rfl 42 B rfl CS rfl 58 aggBody hCSl Z hT6 HZ0.out hCS1 ?_; intro w7 hT7 hb7 hg7 hs7; have bb7 : Below B w w7 := bb6.trans hb7; have hRW7 := rowS_grown hRW6 hg7 (fun b e hne => by have := hlow b e hne; omega))
    | (go_at_call 159; refine (hbf' wr hRW).out.mono ?_; rintro e w6 ⟨rfl, hb6⟩; have hX6 := hXr.below hb6 hXr.lt; have hT6 := hTr.below hb6 hTr.lt; have hRW6 := hRW.below hb6; have bb6 : Below B w w6 := bbr.trans (hb6.mono (by omega)))
    | (refine wl_loadG (by rfl) 42 _ rfl ⟨B + 1, 0, none⟩ rfl 58 CS hCSl aggBody hX6.at0 ?_)
    | (refine wl_loadG (by rfl) 42 _ rfl ⟨B + 1, 0, none⟩ rfl 58 CS hCSl aggBody hXr.at0 ?_)
    | (refine wl_nextEnd rfl _ rfl MR 2 I hit (by decide) rfl ?_))
   (try simp only [Exit.inBlock, Exit.then]); refine bodyPost_ret (results_cell2 rfl _ _ _ _ rfl CS (by rw [hCSl]; exact aggBody) hT7.at0) rfl ?_
   rw [HCS.out]
   exact HPo.out ra rc w7 hRW7 (fun b e hne => by have := hlow b e hne; omega) bb7
end Go.Proofs.YtdhipjoplkpgmaaGreatDoor.hf
