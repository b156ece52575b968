/-
  HousesFound: State.Digest and House.Digest of a founded house. Conditions: such a house; the table of powers is laid. HousesFound, the reference: State.Digest of a founded state. Conditions: such a state; the table of powers is laid. HousesFound, the law: equality of rows of strings, of empty rows of key states and of held keys. Conditions: equal rows. HousesFound, the law: sameMembers of one equal member each. Conditions: such rows. HousesFound, the law: keylaw2.houses is true. No condition. HousesFound, the law: heads and seals are equal to themselves. Conditions: sums of 32 octets, seals of 64. HousesFound, the law: Same of a founded house and its reference. Conditions: such houses in one world.
-/
import Derived.Test.YtdhipjoplkpgmaaGreatDoorHHkT
import Derived.Test.YtdhipjoplkpgmaaGreatDoorHHkK
import Derived.Test.YtdhipjoplkpgmaaGreatDoorHHkL
import Derived.Test.YtdhipjoplkpgmaaGreatDoorHHkH
set_option maxRecDepth 100000
set_option linter.unusedSimpArgs false
set_option linter.unusedVariables false
set_option maxHeartbeats 16000000
namespace Go.Proofs.YtdhipjoplkpgmaaGreatDoor.hf
open Go.RowKit st hs wr shr sh lk
theorem join_le {ws : List (List UInt8)} {n : Nat} (h : (lineL ws).length ≤ n) : (Lib.join ws [32]).length ≤ n := by
 unfold lineL at h
 rw [List.length_append] at h
 omega
structure DF (w : World) (B : Nat) (Z : List Value) (bs : List UInt8) (x : World) : Prop where
 res : BlkV 39 x B Z
 bld : LinesAt (B + 1) (B + 1) (Lib.byteCells bs) x
 bel : Below B w x
theorem DF.drew {w x : World} {B : Nat} {Z : List Value} {bs : List UInt8} (k : DF w B Z bs x) : DF w B Z bs x.drew := ⟨k.res, k.bld, k.bel.drew⟩
theorem DF.step {w x x' : World} {B : Nat} {Z : List Value} {bs : List UInt8} (k : DF w B Z bs x) (hb : Below x.heap.size x x') : DF w B Z bs x' :=
 ⟨k.res.below hb k.res.lt, linesBelow k.bld hb, k.bel.trans (hb.mono (Nat.le_of_lt k.res.lt))⟩
theorem DF.sz {w x : World} {B : Nat} {Z : List Value} {bs : List UInt8} (k : DF w B Z bs x) : B + 2 ≤ x.heap.size := by
 rcases k.bld with ⟨_, v, h, _⟩ | ⟨_, v, h, _⟩
 ·exact (Array.getElem?_eq_some_iff.1 h).1
 ·exact (Array.getElem?_eq_some_iff.1 h).1
theorem lineW (w x : World) (B n c : Nat) (ao : Option Addr) (Z : List Value) (bs : List UInt8) (xs : List ByteArray) (ws : List (List UInt8)) (hw : xs.map (·.data.toList) = ws) (hl : (lineL ws).length ≤ 2000) (hbs : bs.length ≤ 100000) (hn : n = xs.length) (hne : xs ≠ []) (hN : n ≤ 1000) (hc : n ≤ c) (k : DF w B Z bs x) (hR : RowV x ao (strV xs)) :
  Calls Tryz.prog 114 #[.pointer (some ⟨B + 1, 0, none⟩), .slice ao n c] x fun e x' => e = .returned (.tuple #[]) ∧ DF w B Z (bs ++ lineL ws) x' := by
 subst hw
 rcases hR with h | ⟨g, off, rfl, h2, h3⟩
 ·exact absurd (List.map_eq_nil_iff.1 h) hne
 ·refine (line_ok (B + 1) (B + 1) bs g off c n xs x k.bld (by omega) hn (fun j s hs => h3 j _ (by unfold strV; rw [List.getElem?_map, hs]; rfl)) h2 hc hN (Nat.le_trans (join_le hl) (by decide)) (by have := k.sz; omega)).mono ?_
  rintro e x' ⟨rfl, h4, h5⟩
  exact ⟨rfl, k.res.below h5 (by omega), h4, k.bel.trans (h5.mono (by omega))⟩
theorem linesStr (w x : World) (B : Nat) (Z : List Value) (l : List UInt8) (h0 : l ≠ []) (k : DF w B Z l x) :
  Calls Tryz.prog 122 #[.pointer (some ⟨B + 1, 0, none⟩)] x fun e x' => e = .returned (.string (strL l)) ∧ BlkV 39 x' B Z ∧ Below B w x' := by
 rcases k.bld with h | h
 ·refine (BString_ok _ _ _ l x h h0).mono ?_
  rintro e x' ⟨rfl, hb⟩
  exact ⟨rfl, k.res.below hb (by omega), k.bel.trans (hb.mono (by omega))⟩
 ·refine (BString_ok _ _ _ l x h h0).mono ?_
  rintro e x' ⟨rfl, hb⟩
  exact ⟨rfl, k.res.below hb (by omega), k.bel.trans (hb.mono (by omega))⟩
def linesZ : List Value := [.pointer none, .slice none 0 0]
theorem builtLines : Tryz.prog.built 196 [] = some linesZ.toArray := by kernel_rfl
theorem aggMem17 : Agg Tryz.prog 120 17 := .str Tryz.underlying120 (by kernel_rfl)
theorem zeroMem : (Tryz.prog.info? 120).map (·.zero) = some (some (.agg memZ.toArray)) := by kernel_rfl
theorem rowAt {w : World} {g : Nat} {cs : List Value} (h : RowV w (some ⟨g, 0, none⟩) cs) (h0 : cs ≠ []) : g < w.heap.size ∧ At w ⟨g, 0, none⟩ cs := by
 rcases h with h | ⟨b, off, e, h2, h3⟩
 ·exact absurd h h0
 ·injection e with e
  injection e with e1 e2
  subst e1
  subst e2
  exact ⟨h2, fun j u hu => by rw [addr_add]; exact h3 j u hu⟩
def digestL (t : Int) (S f : List Int) (rs : List ByteArray) : List Int := sumL 0 (wr.numsOf (strL (digL t S f rs)))
theorem Digest_ok (g mm mk mv : Nat) (t : Int) (ht : 0 ≤ t ∧ t ≤ 9223372036854775807) (S : List Int) (hS : S.length = 32) (oS : Octs S) (f : List Int) (hf : f.length = 16) (of : Octs f) (ra : Option Addr) (rc : Nat) (rs : List ByteArray) (hE : bodyE rs = 0) (w : World) (hSt : StAfter w g mm mk mv 1 t (S.map (Value.int .u8)) (f.map (Value.int .u8)) f (.slice ra rs.length rc)) (hRS : RowS w ra rs) (hpow : PowTab w) :
  Calls Tryz.prog 56 #[.pointer (some ⟨g, 0, none⟩)] w fun e w' => e = .returned (.agg ((digestL t S f rs).map (Value.int .u8)).toArray) ∧ Below w.heap.size w w' := by
 have hrs : rs.length ≤ 16 := (bodyE_small hE).1
 have hSl : (S.map (Value.int .u8)).length = 32 := by rw [List.length_map, hS]
 have hFl : (f.map (Value.int .u8)).length = 16 := by rw [List.length_map, hf]
 obtain ⟨hd1, hd2, hd3⟩ := digL_le (t := t) (S := S) (f := f) (rs := rs) ht hS hf hE
 have hgw := hSt.blk.lt
 have hmw := hSt.mem.lt
 have hkw := hSt.keys.lt
 have hvw := (Array.getElem?_eq_some_iff.1 hSt.vot).1
 obtain ⟨B, hsz⟩ := szE w
 have hCE := fun (x : World) (hb : Below B w x) => hid (by
  have h := st_cells hSl hFl (hSt.blk.below hb (by omega))
  exact (⟨h.1, h.2.1, h.2.2.2.1, h.2.2.2.2.2.2⟩ : x.cell? ⟨g, 0, none⟩ = some (.int .i64 1) ∧ x.cell? ⟨g, 1, none⟩ = some (.int .i64 t) ∧ x.cell? ⟨g, 35, none⟩ = some (.bool false) ∧ x.cell? ⟨g, 54, none⟩ = some (.map (some mv))))
 have hLa := fun (x : World) (hb : Below B w x) => hid (show Pt.Ok x ⟨some ⟨g, 2, none⟩, 32, S⟩ from ptAt (Nat.lt_of_lt_of_le (by omega) hb.size) (st_last (hSt.blk.below hb (by omega))) oS (Nat.le_of_eq hS) (by decide))
 have hFo := fun (x : World) (hb : Below B w x) => hid (show Pt.Ok x ⟨some ⟨g, 36, none⟩, 16, f⟩ from ptAt (Nat.lt_of_lt_of_le (by omega) hb.size) (st_founder hSl (hSt.blk.below hb (by omega))) of (Nat.le_of_eq hf) (by decide))
 have hx3 := fun (x : World) (hb : Below B w x) => hid (Hex_ok (some ⟨g, 2, none⟩) 32 32 S x hS.symm (hLa x hb).out (by decide))
 have hx4 := fun (x : World) (hb : Below B w x) => hid (Hex_ok (some ⟨g, 36, none⟩) 16 16 f x hf.symm (hFo x hb).out (by decide))
 have hx5 := fun (x : World) (V : Nat) (hV : At x ⟨V, 0, none⟩ (f.map (Value.int .u8))) (hl : V < x.heap.size) => hid (Hex_ok (some ⟨V, 0, none⟩) 16 16 f x hf.symm (ptAt hl hV of (Nat.le_of_eq hf) (by decide)) (by decide))
 have hi1 := fun (x : World) (hb : Below B w x) => hid (Itoa_ok 1 (by decide) (by decide) x (hpow.on hb (by omega)))
 have hi2 := fun (x : World) (hb : Below B w x) => hid (Itoa_ok t (by omega) (by omega) x (hpow.on hb (by omega)))
 have hme := fun (x : World) (hb : Below B w x) => hid (Members_ok g mm mk mv 1 t _ hSl f hf ra rc rs hrs x ⟨hSt.blk.below hb (by omega), hSt.mem.below hb (by omega), hSt.keys.below hb (by omega), (hb.block _ (by omega)).trans hSt.vot⟩ (hRS.below (by rw [hsz]; exact hb)))
 have hke := fun (x : World) (hb : Below B w x) => hid (KeysS_ok g mm mk mv 1 t _ _ hSl hFl x (hSt.blk.below hb (by omega)) (hSt.keys.below hb (by omega)))
 have hvo := fun (x : World) (hb : Below B w x) => hid (show MapD x mv (fun _ => none) from MapD.new ((hb.block _ (by omega)).trans hSt.vot))
 clear hSt hRS hpow hLa hFo hgw hmw hkw hvw
 have HT1 : Hid (strL (Lib.itoa 1) = ⟨#[49]⟩) := hid (by rw [show Lib.itoa 1 = [49] from by decide +kernel]; rfl)
 obtain ⟨T2, HT2⟩ := hidE (strL (Lib.itoa t))
 obtain ⟨T3, HT3⟩ := hidE (strL (hexL S))
 obtain ⟨T4, HT4⟩ := hidE (strL (hexL f))
 have hw1 : [⟨#[99, 111, 117, 110, 116]⟩, ⟨#[49]⟩, ⟨#[116, 105, 109, 101]⟩, T2, ⟨#[108, 97, 115, 116]⟩, T3].map (fun s : ByteArray => s.data.toList) = dig1 t S := by
  simp only [List.map_cons, List.map_nil, HT2.out, HT3.out, strL_list]; rfl
 have hw2 : [⟨#[102, 111, 117, 110, 100, 101, 114]⟩, T4].map (fun s : ByteArray => s.data.toList) = dig2 f := by
  simp only [List.map_cons, List.map_nil, HT4.out, strL_list]; rfl
 have hw3 : (⟨#[109, 101, 109, 98, 101, 114]⟩ :: T4 :: rs).map (fun s : ByteArray => s.data.toList) = dig3 f rs := by
  simp only [List.map_cons, HT4.out, strL_list]; rfl
 rw [HT1.out] at hi1
 rw [← HT2.out] at hi2
 rw [← HT3.out] at hx3
 rw [← HT4.out] at hx4 hx5
 obtain ⟨L1, HL1⟩ := hidE (lineL (dig1 t S))
 obtain ⟨L2, HL2⟩ := hidE (lineL (dig2 f))
 obtain ⟨L3, HL3⟩ := hidE (lineL (dig3 f rs))
 have hDL : Hid (digL t S f rs = [] ++ L1 ++ L2 ++ L3) := hid (by unfold digL; rw [HL1.out, HL2.out, HL3.out, List.nil_append, List.append_assoc])
 have hZ := hid zeroSumZ
 have hZl : zSum.length = 32 := rfl
 obtain ⟨Z, HZ⟩ := hidE zSum
 rw [← HZ.out] at hZ hZl
 have hli1 := fun (x : World) (N : Nat) (k : DF w B Z [] x) (hN : BlkV 9 x N (strV [⟨#[99, 111, 117, 110, 116]⟩, ⟨#[49]⟩, ⟨#[116, 105, 109, 101]⟩, T2, ⟨#[108, 97, 115, 116]⟩, T3])) => hid (lineW w x B 6 6 (some ⟨N, 0, none⟩) Z [] _ _ hw1 (by omega) (by decide) rfl (by simp) (by decide) (Nat.le_refl _) k (at_row hN.lt hN.at0))
 have hli2 := fun (x : World) (N : Nat) (k : DF w B Z ([] ++ L1) x) (hN : BlkV 9 x N (strV [⟨#[102, 111, 117, 110, 100, 101, 114]⟩, T4])) => hid (lineW w x B 2 2 (some ⟨N, 0, none⟩) Z _ _ _ hw2 (by omega) (by rw [HL1.out]; simp only [List.nil_append]; omega) rfl (by simp) (by decide) (Nat.le_refl _) k (at_row hN.lt hN.at0))
 have hli3 := fun (x : World) (n : Nat) (hn : n = 2 + rs.length) (ao : Option Addr) (c : Nat) (hc : n ≤ c) (k : DF w B Z ([] ++ L1 ++ L2) x) (hN : RowV x ao (strV (⟨#[109, 101, 109, 98, 101, 114]⟩ :: T4 :: rs))) => hid (lineW w x B n c ao Z _ _ _ hw3 (by omega) (by rw [HL1.out, HL2.out]; simp only [List.nil_append, List.length_append]; omega) (by rw [hn]; simp only [List.length_cons]; omega) (by simp) (by omega) hc k hN)
 rw [← HL1.out] at hli1
 rw [← HL2.out] at hli2
 rw [← HL3.out] at hli3
 have hTl : (strL (digL t S f rs)).size ≤ 4000 := by rw [strL_size]; unfold digL; simp only [List.length_append]; omega
 have hne : Hid ([] ++ L1 ++ L2 ++ L3 ≠ []) := hid (by
  intro h
  have h2 := congrArg List.length h
  simp only [List.nil_append, List.length_append, List.length_nil, HL1.out] at h2
  unfold lineL at h2
  simp only [List.length_append, List.length_cons, List.length_nil] at h2
  omega)
 have hst := fun (x : World) (k : DF w B Z ([] ++ L1 ++ L2 ++ L3) x) => hid (linesStr w x B Z _ hne.out k)
 rw [← hDL.out] at hst
 have HDG : Hid (digestL t S f rs = sumL 0 (wr.numsOf (strL (digL t S f rs)))) := hid rfl
 obtain ⟨TT, HTT⟩ := hidE (strL (digL t S f rs))
 rw [← HTT.out] at hTl hst HDG
 obtain ⟨TS, HTS⟩ := hidE TT.size
 rw [← HTS.out] at hTl
 have hsu := fun (x : World) (a : Option Addr) (c : Nat) (h : Pt.Ok x ⟨a, c, wr.numsOf TT⟩) => hid (sumOf_in 0 ⟨by decide, by decide⟩ a c TS (wr.numsOf TT) x (by rw [HTS.out, wr.numsOf_length]) h (by omega))
 rw [← HDG.out] at hsu
 have hNo := hid (wr.numsOf_octs TT)
 have hDl : ((digestL t S f rs).map (Value.int .u8)).length = 32 := by rw [List.length_map]; exact sumL_length _ _
 have hD1 := ints_one .u8 (digestL t S f rs)
 obtain ⟨DV, HDV⟩ := hidE ((digestL t S f rs).map (Value.int .u8))
 rw [← HDV.out] at hsu hDl hD1 ⊢
 have hF1 := ints_one .u8 f
 obtain ⟨F, HF⟩ := hidE (f.map (Value.int .u8))
 rw [← HF.out] at hFl hF1 hx5
 have HMP : Hid (∀ (x : World) (e : Ending) (x' : World), MemPost f rs x e x' → ∃ M c a' c', e = .returned (.slice (some ⟨M, 0, none⟩) 1 c) ∧ RowV x' (some ⟨M, 0, none⟩) (memC F (.slice a' rs.length c')) ∧ RowS x' a' rs ∧ (a' = none → c' = 0) ∧ Below x.heap.size x x') := hid (fun x e x' h => by rw [HF.out]; exact h)
 have hMl := fun ro => hid (show (memC F ro).length = 17 by unfold memC; rw [List.length_append, hFl]; rfl)
 have hM1 := fun a n c => hid (show ∀ u ∈ memC F (.slice a n c), u.oneCell' = true from fun u hu => by
  unfold memC at hu
  rcases List.mem_append.1 hu with h | h
  ·exact hF1 u h
  ·rw [List.mem_singleton.1 h]; rfl)
 obtain ⟨MP, HMPE⟩ := hidE (MemPost f rs)
 rw [← HMPE.out] at HMP hme
 have hzm := hid zeroMem
 have hzml : memZ.length = 17 := rfl
 obtain ⟨MZ, HMZ⟩ := hidE memZ
 rw [← HMZ.out] at hzm hzml
 have hSV := hid (fun (x : World) (a : Option Addr) (h : RowS x a rs) => rowV_of h)
 have hSV1 := hid (strV_one rs)
 have hSVl : Hid ((strV rs).length = rs.length * 1) := hid (by unfold strV; rw [List.length_map, Nat.mul_one])
 have hal2 : Tryz.prog.arrayLen 39 = 32 := by kernel_rfl
 have hal3 : Tryz.prog.arrayLen 25 = 16 := by kernel_rfl
 obtain ⟨m, Hm⟩ := hidE rs.length
 rw [← Hm.out] at HMP hSVl hli3 hrs
 have hbl := hid builtLines
 obtain ⟨LZ, HLZ⟩ := hidE linesZ
 rw [← HLZ.out] at hbl
 rw [hsz]
 obtain ⟨Q, HQ⟩ : ∃ Q : Ending → World → Prop, Hid (Q = fun e w' => e = .returned (.agg DV.toArray) ∧ Below B w w') := ⟨_, hid rfl⟩
 rw [← HQ.out]
 have HPQ : Hid (∀ w', Below B w w' → Q (.returned (.agg DV.toArray)) w') := hid (by rw [HQ.out]; exact fun w' h => ⟨rfl, h⟩)
 clear hd1 hd2 hd3 hw1 hw2 hw3 hS oS hf of hE ht HL1 HL2 HL3 HT1 HT2 HT3 HT4
 go_enter Tryz.func56, Tryz.ntmps56
 go_wp2_with (first
  | (refine wl_boxV rfl 196 _ rfl LZ rfl (B + 1) (by omega) ?_; intro w2 hD2 hb2 hs2; have hA2 := hA1.below hb2 (by omega); have bb2 : Below B w w2 := bb1.trans (hb2.mono (by omega)))
  | (refine wl_build0G (by kernel_rfl) 196 rfl LZ hbl.out ?_)
  | (refine wl_allocV rfl 39 rfl Z hZ.out B hsz ?_; intro w1 hA1 bb1 hs1))
 have k2 : DF w B Z [] w2 := ⟨hA2, Or.inl ⟨Nat.le_refl _, .slice none 0 0, by rw [HLZ.out] at hD2; exact hD2, World.ownsRow_nil _ _ _ _, by simp [Value.ownBlock]⟩, bb2⟩
 clear hA1 hA2 hD2 bb1 bb2 hb2 hs1 hs2
 have hSS : ∀ x, DF w B Z [] x → (fun x => x.cell? ⟨g, 0, none⟩ = some (.int .i64 1) ∧ x.cell? ⟨g, 1, none⟩ = some (.int .i64 t)) x := fun x k => ⟨(hCE x k.bel).out.1, (hCE x k.bel).out.2.1⟩
 refine wp_region_held_drew (S := fun x => x.cell? ⟨g, 0, none⟩ = some (.int .i64 1) ∧ x.cell? ⟨g, 1, none⟩ = some (.int .i64 t)) (by kernel_rfl) (hSS _ k2.drew) (fun hHeld => ?_)
 obtain ⟨x0, HX0⟩ := hidE w2.drew
 have k0 := k2.drew
 rw [← HX0.out] at hHeld k0 ⊢
 clear k2
 refine tq 0 rfl ?_
 refine tq 1 rfl ?_
 refine tq 2 rfl ?_
 refine tq 3 rfl ?_
 refine tq 4 rfl ?_
 refine tq 6 rfl ?_
 refine tq 7 rfl ?_
 refine tq 8 rfl ?_
 refine tq 9 rfl ?_
 refine tq 11 rfl ?_
 refine tq 12 rfl ?_
 refine tq 13 rfl ?_
 refine tq 14 rfl ?_
 refine e1 5 rfl fun K' hK' => ?_
 rw [if_pos (by rfl)]
 go_simp
 go_at_call 57
 refine (hi1 x0 k0.bel).out.mono ?_
 rintro e x1 ⟨rfl, hb1⟩
 have k1 := k0.step hb1
 refine ko hK' (hSS _ k1) fun hHeld => ?_
 clear hK' K'
 refine e1 10 rfl fun K' hK' => ?_
 rw [if_pos (by rfl)]
 go_simp
 go_at_call 57
 refine (hi2 x1 k1.bel).out.mono ?_
 rintro e x2 ⟨rfl, hb2⟩
 have k2 := k1.step hb2
 refine ko hK' (hSS _ k2) fun hHeld => ?_
 clear hK' K'
 refine e1 15 rfl fun K' hK' => ?_
 rw [if_pos (by rfl)]
 go_simp
 go_at_call 115
 refine (hx3 x2 k2.bel).out.mono ?_
 rintro e x3 ⟨rfl, hb3⟩
 have k3 := k2.step hb3
 refine ko hK' (hSS _ k3) fun hHeld => ?_
 clear hK' K'
 refine e1 16 rfl fun K' hK' => ?_
 obtain ⟨N, HN⟩ := hidE x3.heap.size
 refine step_lit rfl 26 9 6 _ rfl Tryz.underlying26 (.string ⟨#[]⟩) 1 16 infoStr (by decide) (by decide) (strV [⟨#[99, 111, 117, 110, 116]⟩, ⟨#[49]⟩, ⟨#[116, 105, 109, 101]⟩, T2, ⟨#[108, 97, 115, 116]⟩, T3]) (by kernel_rfl) N HN.out.symm ?_
 intro x4 hN4 hb4 hs4
 have k4 := k3.step (by rw [← HN.out]; exact hb4)
 refine ko hK' (hSS _ k4) fun hHeld => ?_
 clear hK' K'
 refine e1 17 rfl fun K' hK' => ?_
 rw [if_pos (by rfl)]
 go_simp
 go_at_call 114
 refine (hli1 x4 N k4 hN4).out.mono ?_
 rintro e x5 ⟨rfl, k5⟩
 have c5 := (hCE x5 k5.bel).out.1
 refine ko hK' ⟨(hCE _ k5.bel).out.1, (hCE _ k5.bel).out.2.1⟩ fun hHeld => ?_
 clear hK' K'
 refine wpAnyH_done (by kernel_rfl) ?_ _
 clear hHeld hSS k0 k1 k2 k3 k4 hb1 hb2 hb3 hb4 hN4 hi1 hi2 hx3 hli1
 go_wp2_with (first
  | (go_at_call 40; refine (hme x8 k8.bel).out.mono ?_; intro e x9 hMPo; obtain ⟨M, mc, a1, c1, rfl, hM9, hR9, hno9, hb9⟩ := HMP.out _ _ _ hMPo; clear hMPo; have k9 := k8.step hb9)
  | (go_at_call 114; refine (hli2 x7 N2 k7 hN7).out.mono ?_; rintro e x8 ⟨rfl, k8⟩; have c8 := (hCE x8 k8.bel).out.2.2.1)
  | (obtain ⟨N2, HN2⟩ := hidE x6.heap.size; refine wl_lit rfl 26 9 2 _ rfl Tryz.underlying26 (.string ⟨#[]⟩) 1 16 infoStr (by decide) (by decide) (strV [⟨#[102, 111, 117, 110, 100, 101, 114]⟩, T4]) (by kernel_rfl) N2 HN2.out.symm ?_; intro x7 hN7 hb7 hs7; have k7 := k6.step (by rw [← HN2.out]; exact hb7))
  | (go_at_call 115; refine (hx4 x5 k5.bel).out.mono ?_; rintro e x6 ⟨rfl, hb6⟩; have k6 := k5.step hb6))
 obtain ⟨hMl9, hMA9⟩ := rowAt hM9 (by unfold memC; simp)
 clear hme HMP hli2 hx4 k5 k6 k7 k8 c5 c8 hN7 hb6 hb7 hb9 hM9
 go_loopw [72] (fun i wr => (i = .int .i64 0 ∧ wr = x9) ∨ (i = .int .i64 1 ∧ DF w B Z ([] ++ L1 ++ L2 ++ L3) wr)) (fun i _ => 2 - (intOf i).toNat)
 case atStart => exact Or.inl ⟨rfl, rfl⟩
 case round =>
  rcases hrel with ⟨rfl, rfl⟩ | ⟨rfl, kE⟩
  ·go_wp2_with (first
    | (refine wl_storeV rfl 120 _ _ rfl 120 V rfl MC rfl 17 aggMem17 hMCl MZ hV2 hzml hMC1 ?_; intro y2 hV3 hb3 hs3; have hbA : Below wr.heap.size wr y2 := (by rw [← HV.out]; exact hb2.trans hb3))
    | (obtain ⟨V, HV⟩ := hidE wr.heap.size; refine wl_allocV rfl 120 rfl MZ hzm.out V HV.out.symm ?_; intro y1 hV2 hb2 hs2)
    | (obtain ⟨MC, HMC⟩ := hidE (memC F (.slice a1 m c1)); have hMCl := (hMl (.slice a1 m c1)).out; have hMC1 := (hM1 a1 m c1).out; rw [← HMC.out] at hMCl hMC1 hMA9; refine wl_loadG (by rfl) 120 _ rfl ⟨M, 0, none⟩ rfl 17 MC hMCl aggMem17 hMA9 ?_))
   have k2 := k9.step hbA
   have hR2 := hR9.below hbA
   have hMF := fun (y : World) (h : BlkV 120 y V MC) => hid (show At y ⟨V, 0, none⟩ F ∧ y.cell? ⟨V, 16, none⟩ = some (.slice a1 m c1) from ⟨h.at 0 F fun j u hu => by
    have hj := (List.getElem?_eq_some_iff.1 hu).1
    rw [HMC.out]; unfold memC
    rw [Nat.zero_add, List.getElem?_append_left hj]; exact hu, (h.cell 16).trans (by rw [HMC.out]; unfold memC; rw [← hFl, List.getElem?_append_right (Nat.le_refl _), Nat.sub_self]; rfl)⟩)
   refine wp_region_held_drew (S := fun _ => True) (by kernel_rfl) trivial (fun hHeld => ?_)
   obtain ⟨z, HZ0⟩ := hidE y2.drew
   have kz := k2.drew
   have hVz : BlkV 120 y2.drew V MC := hV3
   have hRz : RowS y2.drew a1 rs := hR2
   rw [← HZ0.out] at kz hVz hRz ⊢
   clear k2 hR2 hV3 hV2 hb2 hb3 hbA hMA9 hs2 hs3 k9 hR9
   refine tq 0 rfl ?_
   try simp only [Act.put, fpA, fpZ, fpN]
   refine tq 1 rfl ?_
   try simp only [Act.put, fpA, fpZ, fpN]
   refine tq 2 rfl ?_
   try simp only [Act.put, fpA, fpZ, fpN]
   refine tq 5 rfl ?_
   try simp only [Act.put, fpA, fpZ, fpN]
   refine e2 3 6 rfl rfl (fun K' hK' => ?_) fun K' hK' => ?_
   ·rw [if_pos (by rfl)]
    go_simp
    go_at_call 115
    refine (hx5 z V (hMF _ hVz).out.1 hVz.lt).out.mono ?_
    rintro e z ⟨rfl, hb1⟩
    have kz := kz.step hb1
    have hVz := hVz.below hb1 hVz.lt
    have hRz := hRz.below hb1
    clear hb1
    refine ko hK' trivial fun hHeld => ?_
    clear hK' K'
    refine e2 4 6 rfl rfl (fun K' hK' => ?_) fun K' hK' => ?_
    ·obtain ⟨N3, HN3⟩ := hidE z.heap.size
     refine step_lit rfl 26 9 2 _ rfl Tryz.underlying26 (.string ⟨#[]⟩) 1 16 infoStr (by decide) (by decide) [.string ⟨#[109, 101, 109, 98, 101, 114]⟩, .string T4] (by kernel_rfl) N3 HN3.out.symm ?_
     intro z hN2 hbq hs2
     have hVz := hVz.below hbq (by rw [HN3.out]; exact hVz.lt)
     have hRz := hRz.below (by rw [← HN3.out]; exact hbq)
     have kq := kz
     clear hs2
     refine ko hK' trivial fun hHeld => ?_
     clear hK' K'
     refine e1 6 rfl fun K' hK' => ?_
     rw [if_pos (by rfl)]
     have c16 := (hMF _ hVz).out.2
     go_simp
     clear c16
     refine ko hK' trivial fun hHeld => ?_
     clear hK' K'
     refine e1 7 rfl fun K' hK' => ?_
     refine step_appendS rfl _ _ 26 rfl 9 (.string ⟨#[]⟩) 1 16 Tryz.underlying26 infoStr rfl (by decide) N3 _ 2 [.string ⟨#[109, 101, 109, 98, 101, 114]⟩, .string T4] rfl (mine_blk hN2 (Nat.le_refl _) rfl (by decide)) a1 m c1 rfl hno9 (strV rs) hSVl.out (hSV.out _ _ hRz) hSV1.out (by unfold maxLen; omega) (by omega) (by rw [HN3.out]; exact hbq.size) (2 + m) rfl ?_
     intro ao4 c4 z row4 hc4 hM4 hV4 hg4 hr4
     have hb4 := (Below.refl N3 _).grown hg4 (by rw [HN3.out]; exact hbq.size) (fun k hk => (hr4 k hk).1)
     have kz := kq.step (by rw [← HN3.out]; exact hbq.trans hb4)
     clear kq hbq hb4 hM4 hg4 hr4
     refine ko hK' trivial fun hHeld => ?_
     clear hK' K'
     refine e1 8 rfl fun K' hK' => ?_
     rw [if_pos (by rfl)]
     go_simp
     go_at_call 114
     refine (hli3 z (2 + m) rfl ao4 c4 hc4 kz hV4).out.mono ?_
     rintro e z ⟨rfl, kx⟩
     refine ko hK' trivial fun hHeld => ?_
     clear hK' K'
     refine wpAnyH_done (by kernel_rfl) ?_ _
     go_wp2_with fail
     go_roundw
     case rel => exact Or.inr ⟨rfl, kx⟩
     case measure => exact (by decide : (2 - ((1 : Int)).toNat) < 2 - ((0 : Int)).toNat)
    ·rw [if_pos (by rfl)]
     have c16 := (hMF _ hVz).out.2
     go_simp
     clear c16
     refine ko hK' trivial fun hHeld => ?_
     clear hK' K'
     refine e1 4 rfl fun K' hK' => ?_
     obtain ⟨N3, HN3⟩ := hidE z.heap.size
     refine step_lit rfl 26 9 2 _ rfl Tryz.underlying26 (.string ⟨#[]⟩) 1 16 infoStr (by decide) (by decide) [.string ⟨#[109, 101, 109, 98, 101, 114]⟩, .string T4] (by kernel_rfl) N3 HN3.out.symm ?_
     intro z hN2 hbq hs2
     have hVz := hVz.below hbq (by rw [HN3.out]; exact hVz.lt)
     have hRz := hRz.below (by rw [← HN3.out]; exact hbq)
     have kq := kz
     clear hs2
     refine ko hK' trivial fun hHeld => ?_
     clear hK' K'
     refine e1 7 rfl fun K' hK' => ?_
     refine step_appendS rfl _ _ 26 rfl 9 (.string ⟨#[]⟩) 1 16 Tryz.underlying26 infoStr rfl (by decide) N3 _ 2 [.string ⟨#[109, 101, 109, 98, 101, 114]⟩, .string T4] rfl (mine_blk hN2 (Nat.le_refl _) rfl (by decide)) a1 m c1 rfl hno9 (strV rs) hSVl.out (hSV.out _ _ hRz) hSV1.out (by unfold maxLen; omega) (by omega) (by rw [HN3.out]; exact hbq.size) (2 + m) rfl ?_
     intro ao4 c4 z row4 hc4 hM4 hV4 hg4 hr4
     have hb4 := (Below.refl N3 _).grown hg4 (by rw [HN3.out]; exact hbq.size) (fun k hk => (hr4 k hk).1)
     have kz := kq.step (by rw [← HN3.out]; exact hbq.trans hb4)
     clear kq hbq hb4 hM4 hg4 hr4
     refine ko hK' trivial fun hHeld => ?_
     clear hK' K'
     refine e1 8 rfl fun K' hK' => ?_
     rw [if_pos (by rfl)]
     go_simp
     go_at_call 114
     refine (hli3 z (2 + m) rfl ao4 c4 hc4 kz hV4).out.mono ?_
     rintro e z ⟨rfl, kx⟩
     refine ko hK' trivial fun hHeld => ?_
     clear hK' K'
     refine wpAnyH_done (by kernel_rfl) ?_ _
     go_wp2_with fail
     go_roundw
     case rel => exact Or.inr ⟨rfl, kx⟩
     case measure => exact (by decide : (2 - ((1 : Int)).toNat) < 2 - ((0 : Int)).toNat)
   ·rw [if_pos (by rfl)]
    have c16 := (hMF _ hVz).out.2
    go_simp
    clear c16
    refine ko hK' trivial fun hHeld => ?_
    clear hK' K'
    refine e1 3 rfl fun K' hK' => ?_
    rw [if_pos (by rfl)]
    go_simp
    go_at_call 115
    refine (hx5 z V (hMF _ hVz).out.1 hVz.lt).out.mono ?_
    rintro e z ⟨rfl, hb1⟩
    have kz := kz.step hb1
    have hVz := hVz.below hb1 hVz.lt
    have hRz := hRz.below hb1
    clear hb1
    refine ko hK' trivial fun hHeld => ?_
    clear hK' K'
    refine e1 4 rfl fun K' hK' => ?_
    obtain ⟨N3, HN3⟩ := hidE z.heap.size
    refine step_lit rfl 26 9 2 _ rfl Tryz.underlying26 (.string ⟨#[]⟩) 1 16 infoStr (by decide) (by decide) [.string ⟨#[109, 101, 109, 98, 101, 114]⟩, .string T4] (by kernel_rfl) N3 HN3.out.symm ?_
    intro z hN2 hbq hs2
    have hVz := hVz.below hbq (by rw [HN3.out]; exact hVz.lt)
    have hRz := hRz.below (by rw [← HN3.out]; exact hbq)
    have kq := kz
    clear hs2
    refine ko hK' trivial fun hHeld => ?_
    clear hK' K'
    refine e1 7 rfl fun K' hK' => ?_
    refine step_appendS rfl _ _ 26 rfl 9 (.string ⟨#[]⟩) 1 16 Tryz.underlying26 infoStr rfl (by decide) N3 _ 2 [.string ⟨#[109, 101, 109, 98, 101, 114]⟩, .string T4] rfl (mine_blk hN2 (Nat.le_refl _) rfl (by decide)) a1 m c1 rfl hno9 (strV rs) hSVl.out (hSV.out _ _ hRz) hSV1.out (by unfold maxLen; omega) (by omega) (by rw [HN3.out]; exact hbq.size) (2 + m) rfl ?_
    intro ao4 c4 z row4 hc4 hM4 hV4 hg4 hr4
    have hb4 := (Below.refl N3 _).grown hg4 (by rw [HN3.out]; exact hbq.size) (fun k hk => (hr4 k hk).1)
    have kz := kq.step (by rw [← HN3.out]; exact hbq.trans hb4)
    clear kq hbq hb4 hM4 hg4 hr4
    refine ko hK' trivial fun hHeld => ?_
    clear hK' K'
    refine e1 8 rfl fun K' hK' => ?_
    rw [if_pos (by rfl)]
    go_simp
    go_at_call 114
    refine (hli3 z (2 + m) rfl ao4 c4 hc4 kz hV4).out.mono ?_
    rintro e z ⟨rfl, kx⟩
    refine ko hK' trivial fun hHeld => ?_
    clear hK' K'
    refine wpAnyH_done (by kernel_rfl) ?_ _
    go_wp2_with fail
    go_roundw
    case rel => exact Or.inr ⟨rfl, kx⟩
    case measure => exact (by decide : (2 - ((1 : Int)).toNat) < 2 - ((0 : Int)).toNat)
  ·go_wp2_with (go_at_call 67; refine (hke wr kE.bel).out.mono ?_; rintro e y0 ⟨rfl, hb0⟩; have kF := kE.step hb0)
   clear kE hb0 hke
   go_loopw [89] (fun i wr => i = .int .i64 0 ∧ DF w B Z ([] ++ L1 ++ L2 ++ L3) wr) (fun _ _ => 0)
   case atStart => exact ⟨rfl, kF⟩
   case round =>
    obtain ⟨rfl, kG⟩ := hrel
    clear kF
    have c54 := (hCE wr kG.bel).out.2.2.2
    go_wp2_with (first
     | (go_at_call 117; refine (VotesSorted_ok _ mv y1 (by omega) hcV (hvo y1 kH.bel).out _).mono ?_; rintro e y2 ⟨rfl, hb2⟩; have kI := kH.step hb2)
     | (go_at_call 118; refine (VotesKeys_ok mv wr).mono ?_; rintro e y1 ⟨rfl, hcV, hb1, hs1⟩; have kH := kG.step hb1))
    clear kG kH hb1 hb2 hcV hs1 c54
    go_loopw [125] (fun i wr => i = .int .i64 0 ∧ DF w B Z ([] ++ L1 ++ L2 ++ L3) wr) (fun _ _ => 0)
    case atStart => exact ⟨rfl, kI⟩
    case round =>
     obtain ⟨rfl, kJ⟩ := hrel
     clear kI
     rw [← hDL.out] at kJ
     go_wp2_with (first
      | (refine wl_storeV rfl 39 _ _ rfl 39 B rfl DV rfl 32 aggSumT hDl Z hZ5 hZl hD1 ?_; intro v6 hZ6 hb6 hs6; have bb6 := bb5.trans hb6)
      | (refine wl_loadG (by rfl) 39 _ rfl ⟨I, 0, none⟩ rfl 32 DV hDl aggSumT hI5.at0 ?_)
      | (refine wl_storeV rfl 39 _ _ rfl 39 I rfl DV rfl 32 aggSumT hDl Z hI4 hZl hD1 ?_; intro v5 hI5 hb5 hs5; have hZ5 := hZ4.below hb5 hBI; have bb5 := bb4.trans (hb5.mono (Nat.le_of_lt hBI)))
      | (obtain ⟨I, HI⟩ := hidE v3.heap.size; have hBI : B < I := (by rw [HI.out]; exact hZ3.lt); refine wl_allocV rfl 39 rfl Z hZ.out I HI.out.symm ?_; intro v4 hI4 hb4 hs4; have hZ4 := hZ3.below hb4 hBI; have bb4 := bb3.trans (hb4.mono (Nat.le_of_lt hBI)))
      | (go_at_call 100; refine (hsu v2 _ _ HP2).out.mono ?_; rintro e v3 ⟨rfl, hb3⟩; have hZ3 := hZ2.below hb3 hZ2.lt; have bb3 := bb2.trans (hb3.mono (Nat.le_of_lt hZ2.lt)))
      | (obtain ⟨G, HG⟩ := hidE v1.heap.size; have hBG : B < G := (by rw [HG.out]; exact hZ1.lt); refine wl_convM rfl _ rfl TT TS HTS.out.symm (by omega) rfl G HG.out.symm ?_; intro cc v2 hO2 hb2 hs2; have hZ2 := hZ1.below hb2 hBG; have bb2 := bb1.trans (hb2.mono (Nat.le_of_lt hBG)); obtain ⟨gq, cq, hvq, _, _, HP2⟩ := hO2.pt hNo.out; injection hvq with hv1 hv2 hv3; injection hv1 with hv1; injection hv1 with hv1; subst hv1; subst hv3)
      | (go_at_call 122; refine (hst wr kJ).out.mono ?_; rintro e v1 ⟨rfl, hZ1, bb1⟩))
     (try simp only [Exit.inBlock, Exit.then]); refine bodyPost_ret (results_cell rfl _ _ _ _ rfl DV (by rw [hDl]; exact aggSumT) hZ6.at0) rfl ?_
     exact HPQ.out _ bb6
theorem HDigest_ok (h g mm mk mv L ms : Nat) (R : List Value) (hR : R.length = 32) (t : Int) (ht : 0 ≤ t ∧ t ≤ 9223372036854775807) (S : List Int) (hS : S.length = 32) (oS : Octs S) (f : List Int) (hf : f.length = 16) (of : Octs f) (ra : Option Addr) (rc : Nat) (rs : List ByteArray) (hE : bodyE rs = 0) (w : World) (hH : BlkV 81 w h (houC R g L ms)) (hSt : StAfter w g mm mk mv 1 t (S.map (Value.int .u8)) (f.map (Value.int .u8)) f (.slice ra rs.length rc)) (hRS : RowS w ra rs) (hpow : PowTab w) :
  Calls Tryz.prog 23 #[.pointer (some ⟨h, 0, none⟩)] w fun e w' => e = .returned (.agg ((digestL t S f rs).map (Value.int .u8)).toArray) ∧ Below w.heap.size w w' := by
 have hdg := fun (w' : World) (hb : Below w.heap.size w w') => hid (Digest_ok g mm mk mv t ht S hS oS f hf of ra rc rs hE w' ⟨hSt.blk.below hb hSt.blk.lt, hSt.mem.below hb hSt.mem.lt, hSt.keys.below hb hSt.keys.lt, (hb.block _ (Array.getElem?_eq_some_iff.1 hSt.vot).1).trans hSt.vot⟩ (hRS.below hb) (hpow.on hb (Nat.le_refl _)))
 have hDl : ((digestL t S f rs).map (Value.int .u8)).length = 32 := by rw [List.length_map]; exact sumL_length _ _
 have hD1 := ints_one .u8 (digestL t S f rs)
 obtain ⟨DV, HDV⟩ := hidE ((digestL t S f rs).map (Value.int .u8))
 rw [← HDV.out] at hDl hD1 hdg ⊢
 have hHc := fun (w' : World) (k : BlkV 81 w' h (houC R g L ms)) => hid (hou_cells hR k)
 obtain ⟨HC, HHC⟩ := hidE (houC R g L ms)
 rw [← HHC.out] at hHc hH
 have hZ := hid zeroSumZ
 have hZl : zSum.length = 32 := rfl
 obtain ⟨Z, HZ⟩ := hidE zSum
 rw [← HZ.out] at hZ hZl
 have hhw := hH.lt
 obtain ⟨B, hsz⟩ := szE w
 rw [hsz] at hdg hhw ⊢
 clear hSt hRS hpow hE of hf oS hS ht
 go_enter Tryz.func23, Tryz.ntmps23
 go_wp2_with (first
  | (refine wl_storeV rfl 39 _ _ rfl 39 B rfl DV rfl 32 aggSumT hDl Z hX2 hZl hD1 ?_; intro w3 hX3 hb3 hs3; have bb3 : Below B w w3 := bb2.trans (hb3.mono (by omega)))
  | (go_at_call 56; refine (hdg w1 bb1).out.mono ?_; rintro e w2 ⟨rfl, hb2⟩; have hX2 := hX1.below hb2 hX1.lt; have bb2 : Below B w w2 := bb1.trans (hb2.mono (by omega)))
  | (refine wl_allocV rfl 39 rfl Z hZ.out B hsz ?_; intro w1 hX1 bb1 hs1; have hH1 := hH.below bb1 hhw; have hcc := ((hHc _ hH1).out).1))
 (try simp only [Exit.inBlock, Exit.then]); refine bodyPost_ret (results_cell rfl _ _ _ _ rfl DV (by rw [hDl]; exact aggSumT) hX3.at0) rfl ?_
 exact ⟨rfl, bb3⟩
end Go.Proofs.YtdhipjoplkpgmaaGreatDoor.hf
namespace Go.Proofs.YtdhipjoplkpgmaaGreatDoor.hf
open Go.RowKit st hs wr shr sh lk
theorem rs_founder {cnt tm : Int} {lv gv : List Value} {mm mk mv : Nat} {w : World} {g : Nat} (hl : lv.length = 32) (hB : BlkV 92 w g (rsC cnt tm lv gv mm mk mv)) : At w ⟨g, 34, none⟩ gv := hB.at 34 gv fun j u hu => by
 have hj := (List.getElem?_eq_some_iff.1 hu).1
 unfold rsC
 rw [show 34 + j = (lv.length + j) + 1 + 1 by omega, List.getElem?_cons_succ, List.getElem?_cons_succ, List.getElem?_append_right (by omega), Nat.add_sub_cancel_left, List.getElem?_append_left hj]; exact hu
theorem wl_rangeK {w : World} {ops : Array Oper} {rest : List Oper} {o : Oper} {a : Act} {Q : Exit → Act → World → Prop} (hgd : o.guard = none) (t kt et : TypeId) (m : Operand) (ho : o.op = .range t m) (ht : Tryz.prog.underlying t = some (.map kt et)) (b : Nat) (D : Mp Value) (h : MapD w b D) (hmv : a.eval m = .map (some b)) (N : Nat) (hN : w.heap.size = N)
  (hK : ∀ w' cnt, IterD w' b N D (fun k => (D k).isSome = true) cnt → Below N w w' → w'.heap.size = N + 1 → wpList Tryz.prog ops Q rest (a.put o.dst (.pointer (some ⟨N, 0, none⟩))) w') : wpList Tryz.prog ops Q (o :: rest) a w := by
 subst hN
 obtain ⟨w', cnt, hrun, h1, h2, h3⟩ := run_rangeK h t kt et ht
 refine wpList_plain hgd fun K hK' => ?_
 unfold Oper.wp
 simp [execOp, ho, hmv, hrun, Result.andThen]
 exact hK' _ _ (hK w' cnt h1 h2 h3)
theorem cat_le {a b : ByteArray} {m n : Nat} (ha : a.size ≤ m) (hb : b.size ≤ n) : (a ++ b).size ≤ m + n := by rw [ByteArray.size_append]; omega
structure RD (w : World) (B : Nat) (Z : List Value) (x : World) : Prop where
 res : BlkV 39 x B Z
 bel : Below B w x
theorem RD.drew {w x : World} {B : Nat} {Z : List Value} (k : RD w B Z x) : RD w B Z x.drew := ⟨k.res, k.bel.drew⟩
theorem RD.step {w x x' : World} {B : Nat} {Z : List Value} (k : RD w B Z x) (hb : Below x.heap.size x x') : RD w B Z x' := ⟨k.res.below hb k.res.lt, k.bel.trans (hb.mono (Nat.le_of_lt k.res.lt))⟩
theorem RefDigest_ok (g mm mk mv : Nat) (t : Int) (ht : 0 ≤ t ∧ t ≤ 9223372036854775807) (S : List Int) (hS : S.length = 32) (oS : Octs S) (f : List Int) (hf : f.length = 16) (of : Octs f) (ra : Option Addr) (rc : Nat) (rs : List ByteArray) (hE : bodyE rs = 0) (w : World) (hSt : RsAfter w g mm mk mv 1 t (S.map (Value.int .u8)) (f.map (Value.int .u8)) f (.slice ra rs.length rc)) (hRS : RowS w ra rs) (hpow : PowTab w) :
  Calls Tryz.prog 24 #[.pointer (some ⟨g, 0, none⟩)] w fun e w' => e = .returned (.agg ((digestL t S f rs).map (Value.int .u8)).toArray) ∧ Below w.heap.size w w' := by
 have hrs : rs.length ≤ 16 := (bodyE_small hE).1
 have hSl : (S.map (Value.int .u8)).length = 32 := by rw [List.length_map, hS]
 have hFl : (f.map (Value.int .u8)).length = 16 := by rw [List.length_map, hf]
 obtain ⟨hd1, hd2, hd3⟩ := digL_le (t := t) (S := S) (f := f) (rs := rs) ht hS hf hE
 have hit := Lib.itoa_length_le t (by omega) (by omega)
 have hgw := hSt.blk.lt
 have hmw := hSt.mem.lt
 have hkw := hSt.keys.lt
 have hvw := (Array.getElem?_eq_some_iff.1 hSt.vot).1
 obtain ⟨B, hsz⟩ := szE w
 have hCE := fun (x : World) (hb : Below B w x) => hid (by
  have h := rs_cells hSl hFl (hSt.blk.below hb (by omega))
  exact (⟨h.1, h.2.1, h.2.2.1, h.2.2.2.2.2⟩ : x.cell? ⟨g, 0, none⟩ = some (.int .i64 1) ∧ x.cell? ⟨g, 1, none⟩ = some (.int .i64 t) ∧ x.cell? ⟨g, 50, none⟩ = some (.pointer none) ∧ x.cell? ⟨g, 53, none⟩ = some (.map (some mv))))
 have hx3 := fun (x : World) (hb : Below B w x) => hid (RefHex_ok (some ⟨g, 2, none⟩) 32 32 S x hS.symm (ptAt (Nat.lt_of_lt_of_le (by omega) hb.size) (rs_last (hSt.blk.below hb (by omega))) oS (Nat.le_of_eq hS) (by decide)) (by decide))
 have hx4 := fun (x : World) (hb : Below B w x) => hid (RefHex_ok (some ⟨g, 34, none⟩) 16 16 f x hf.symm (ptAt (Nat.lt_of_lt_of_le (by omega) hb.size) (rs_founder hSl (hSt.blk.below hb (by omega))) of (Nat.le_of_eq hf) (by decide)) (by decide))
 have hx5 := fun (x : World) (V : Nat) (hV : At x ⟨V, 0, none⟩ (f.map (Value.int .u8))) (hl : V < x.heap.size) => hid (RefHex_ok (some ⟨V, 0, none⟩) 16 16 f x hf.symm (ptAt hl hV of (Nat.le_of_eq hf) (by decide)) (by decide))
 have hi1 := fun (x : World) (hb : Below B w x) => hid (Itoa_ok 1 (by decide) (by decide) x (hpow.on hb (by omega)))
 have hi2 := fun (x : World) (hb : Below B w x) => hid (Itoa_ok t (by omega) (by omega) x (hpow.on hb (by omega)))
 have hme := fun (x : World) (hb : Below B w x) => hid (RefMembers_ok g mm mk mv 1 t _ hSl f hf ra rc rs hrs x ⟨hSt.blk.below hb (by omega), hSt.mem.below hb (by omega), hSt.keys.below hb (by omega), (hb.block _ (by omega)).trans hSt.vot⟩ (hRS.below (by rw [hsz]; exact hb)))
 have hke := fun (x : World) (hb : Below B w x) => hid (RefKeys_ok g mm mk mv 1 t _ _ hSl hFl x (hSt.blk.below hb (by omega)) (hSt.keys.below hb (by omega)))
 have hvo := fun (x : World) (hb : Below B w x) => hid (show MapD x mv (fun _ => none) from MapD.new ((hb.block _ (by omega)).trans hSt.vot))
 clear hSt hRS hpow hgw hmw hkw hvw
 have HT1 : Hid (strL (Lib.itoa 1) = ⟨#[49]⟩) := hid (by rw [show Lib.itoa 1 = [49] from by decide +kernel]; rfl)
 have hT2s : (strL (Lib.itoa t)).size ≤ 100 := by rw [strL_size]; omega
 have hT3s : (strL (hexL S)).size ≤ 100 := by rw [strL_size, hexL_length, hS]; decide
 have hT4s : (strL (hexL f)).size ≤ 100 := by rw [strL_size, hexL_length, hf]; decide
 have hw1 : Hid ((((((⟨#[99, 111, 117, 110, 116, 32]⟩ ++ ⟨#[49]⟩) ++ ⟨#[32, 116, 105, 109, 101, 32]⟩) ++ strL (Lib.itoa t)) ++ ⟨#[32, 108, 97, 115, 116, 32]⟩) ++ strL (hexL S)) ++ ⟨#[10]⟩ = strL (lineL (dig1 t S))) := hid (by
  rw [dig1_eq]
  simp only [← strL_app]
  rfl)
 have hw2 : Hid ((⟨#[102, 111, 117, 110, 100, 101, 114, 32]⟩ ++ strL (hexL f)) ++ ⟨#[10]⟩ = strL (lineL (dig2 f))) := hid (by
  rw [dig2_eq]
  simp only [← strL_app]
  rfl)
 have hw3 : (⟨#[109, 101, 109, 98, 101, 114]⟩ :: strL (hexL f) :: rs).map (fun s : ByteArray => s.data.toList) = dig3 f rs := by
  simp only [List.map_cons, strL_list]; rfl
 obtain ⟨J3, HJ3⟩ := hidE (strL (Lib.join (dig3 f rs) [32]))
 have hJ3s : J3.size ≤ 2000 := by rw [HJ3.out, strL_size]; exact join_le hd3
 have hw4 : Hid (J3 ++ ⟨#[10]⟩ = strL (lineL (dig3 f rs))) := hid (by rw [HJ3.out]; unfold lineL; rw [← strL_app]; rfl)
 have hjo := fun (x : World) (n : Nat) (hn : n = 2 + rs.length) (a : Option Addr) (c : Nat) (hc : n ≤ c) (hR : RowV x a (strV (⟨#[109, 101, 109, 98, 101, 114]⟩ :: strL (hexL f) :: rs))) => hid (show Calls Tryz.prog 60 #[.slice a n c, .string ⟨#[32]⟩] x (fun e w' => e = .returned (.string J3) ∧ Below x.heap.size x w') by
  rcases hR with h | ⟨q, off, rfl, h2, h3⟩
  ·cases h
  ·have h := Join_ok q off c n (⟨#[109, 101, 109, 98, 101, 114]⟩ :: strL (hexL f) :: rs) x (by rw [hn]; simp only [List.length_cons]; omega) (fun j s hs => h3 j _ (by unfold strV; rw [List.getElem?_map, hs]; rfl)) h2 hc (by omega) (by rw [hw3]; exact Nat.le_trans (join_le hd3) (by decide))
   rw [hw3, ← HJ3.out] at h
   exact h)
 rw [HT1.out] at hi1
 obtain ⟨T2, HT2⟩ := hidE (strL (Lib.itoa t))
 rw [← HT2.out] at hi2 hT2s hw1
 obtain ⟨T3, HT3⟩ := hidE (strL (hexL S))
 rw [← HT3.out] at hx3 hT3s hw1
 obtain ⟨T4, HT4⟩ := hidE (strL (hexL f))
 rw [← HT4.out] at hx4 hx5 hT4s hw2 hjo
 have hDL : Hid (strL (digL t S f rs) = (strL (lineL (dig1 t S)) ++ strL (lineL (dig2 f))) ++ strL (lineL (dig3 f rs))) := hid (by unfold digL; rw [strL_app, strL_app, List.append_assoc])
 have hl1s : (strL (lineL (dig1 t S))).size ≤ 1000 := by rw [strL_size]; exact hd1
 have hl2s : (strL (lineL (dig2 f))).size ≤ 1000 := by rw [strL_size]; exact hd2
 have hl3s : (strL (lineL (dig3 f rs))).size ≤ 2000 := by rw [strL_size]; exact hd3
 have HDG : Hid (digestL t S f rs = sumL 0 (wr.numsOf (strL (digL t S f rs)))) := hid rfl
 rw [hDL.out] at HDG
 obtain ⟨N1, HN1⟩ := hidE (strL (lineL (dig1 t S)))
 obtain ⟨N2, HN2⟩ := hidE (strL (lineL (dig2 f)))
 obtain ⟨N3, HN3⟩ := hidE (strL (lineL (dig3 f rs)))
 rw [← HN1.out] at hw1 HDG hl1s
 rw [← HN2.out] at hw2 HDG hl2s
 rw [← HN3.out] at hw4 HDG hl3s
 have hZ := hid zeroSumZ
 have hZl : zSum.length = 32 := rfl
 obtain ⟨Z, HZ⟩ := hidE zSum
 rw [← HZ.out] at hZ hZl
 obtain ⟨TT, HTT⟩ := hidE ((N1 ++ N2) ++ N3)
 have hTl : TT.size ≤ 4000 := by rw [HTT.out]; exact cat_le (cat_le hl1s hl2s) hl3s
 rw [← HTT.out] at HDG
 obtain ⟨TS, HTS⟩ := hidE TT.size
 rw [← HTS.out] at hTl
 have hsu := fun (x : World) (a : Option Addr) (c : Nat) (h : Pt.Ok x ⟨a, c, wr.numsOf TT⟩) (hno : a = none → c = 0 ∧ TS = 0) => hid (sumR 0 ⟨by decide, by decide⟩ a c TS (wr.numsOf TT) x (by rw [HTS.out, wr.numsOf_length]) h hno (by omega))
 rw [← HDG.out] at hsu
 have hNo := hid (wr.numsOf_octs TT)
 have hDl : ((digestL t S f rs).map (Value.int .u8)).length = 32 := by rw [List.length_map]; exact sumL_length _ _
 have hD1 := ints_one .u8 (digestL t S f rs)
 obtain ⟨DV, HDV⟩ := hidE ((digestL t S f rs).map (Value.int .u8))
 rw [← HDV.out] at hsu hDl hD1 ⊢
 have hF1 := ints_one .u8 f
 obtain ⟨F, HF⟩ := hidE (f.map (Value.int .u8))
 rw [← HF.out] at hFl hF1 hx5
 have HMP : Hid (∀ (x : World) (e : Ending) (x' : World), MemPost f rs x e x' → ∃ M c a' c', e = .returned (.slice (some ⟨M, 0, none⟩) 1 c) ∧ RowV x' (some ⟨M, 0, none⟩) (memC F (.slice a' rs.length c')) ∧ RowS x' a' rs ∧ (a' = none → c' = 0) ∧ Below x.heap.size x x') := hid (fun x e x' h => by rw [HF.out]; exact h)
 have hMl := fun ro => hid (show (memC F ro).length = 17 by unfold memC; rw [List.length_append, hFl]; rfl)
 have hM1 := fun a n c => hid (show ∀ u ∈ memC F (.slice a n c), u.oneCell' = true from fun u hu => by
  unfold memC at hu
  rcases List.mem_append.1 hu with h | h
  ·exact hF1 u h
  ·rw [List.mem_singleton.1 h]; rfl)
 obtain ⟨MP, HMPE⟩ := hidE (MemPost f rs)
 rw [← HMPE.out] at HMP hme
 have hzm := hid zeroMem
 have hzml : memZ.length = 17 := rfl
 obtain ⟨MZ, HMZ⟩ := hidE memZ
 rw [← HMZ.out] at hzm hzml
 have hSV := hid (fun (x : World) (a : Option Addr) (h : RowS x a rs) => rowV_of h)
 have hSV1 := hid (strV_one rs)
 have hSVl : Hid ((strV rs).length = rs.length * 1) := hid (by unfold strV; rw [List.length_map, Nat.mul_one])
 have hal2 : Tryz.prog.arrayLen 39 = 32 := by kernel_rfl
 have hal3 : Tryz.prog.arrayLen 25 = 16 := by kernel_rfl
 obtain ⟨m, Hm⟩ := hidE rs.length
 rw [← Hm.out] at HMP hSVl hjo hrs
 rw [hsz]
 obtain ⟨Q, HQ⟩ : ∃ Q : Ending → World → Prop, Hid (Q = fun e w' => e = .returned (.agg DV.toArray) ∧ Below B w w') := ⟨_, hid rfl⟩
 rw [← HQ.out]
 have HPQ : Hid (∀ w', Below B w w' → Q (.returned (.agg DV.toArray)) w') := hid (by rw [HQ.out]; exact fun w' h => ⟨rfl, h⟩)
 clear hd1 hd2 hd3 hw3 hS oS hf of hE ht HT1 HT2 HT3 HT4 hit HJ3 HN1 HN2 HN3 hDL HDG HDV HMPE
 go_enter Tryz.func24, Tryz.ntmps24
 go_wp2_with (refine wl_allocV rfl 39 rfl Z hZ.out B hsz ?_; intro w1 hA1 bb1 hs1)
 have k1 : RD w B Z w1 := ⟨hA1, bb1⟩
 have hSS : ∀ x, RD w B Z x → (fun x => x.cell? ⟨g, 0, none⟩ = some (.int .i64 1) ∧ x.cell? ⟨g, 1, none⟩ = some (.int .i64 t)) x := fun x k => ⟨(hCE x k.bel).out.1, (hCE x k.bel).out.2.1⟩
 refine wp_region_held_drew (S := fun x => x.cell? ⟨g, 0, none⟩ = some (.int .i64 1) ∧ x.cell? ⟨g, 1, none⟩ = some (.int .i64 t)) (by kernel_rfl) (hSS _ k1.drew) (fun hHeld => ?_)
 obtain ⟨x0, HX0⟩ := hidE w1.drew
 have k0 := k1.drew
 rw [← HX0.out] at hHeld k0 ⊢
 clear k1 hA1 bb1 hs1
 refine tq 0 rfl ?_
 refine tq 1 rfl ?_
 refine tq 2 rfl ?_
 refine tq 3 rfl ?_
 refine tq 4 rfl ?_
 refine tq 8 rfl ?_
 refine tq 9 rfl ?_
 refine tq 10 rfl ?_
 refine tq 11 rfl ?_
 refine tq 12 rfl ?_
 refine tq 16 rfl ?_
 refine tq 17 rfl ?_
 refine tq 18 rfl ?_
 refine tq 19 rfl ?_
 refine e1 5 rfl fun K' hK' => ?_
 rw [if_pos (by rfl)]
 go_simp
 go_at_call 57
 refine (hi1 x0 k0.bel).out.mono ?_
 rintro e x1 ⟨rfl, hb1⟩
 have k1 := k0.step hb1
 refine ko hK' (hSS _ k1) fun hHeld => ?_
 clear hK' K'
 obtain ⟨U1, HU1⟩ : ∃ q : ByteArray, Hid (q = ⟨#[99, 111, 117, 110, 116, 32]⟩ ++ ⟨#[49]⟩) := ⟨_, hid rfl⟩
 have hU1 : U1.size ≤ 7 := by rw [HU1.out]; exact Nat.le_trans (cat_le (m := 6) (by decide) (n := 1) (by decide)) (by decide)
 refine tk 6 rfl (yieldsIf_cat (by rfl) _ _ _ _ rfl ⟨#[99, 111, 117, 110, 116, 32]⟩ ⟨#[49]⟩ rfl rfl (by rw [← ByteArray.size_append, ← HU1.out]; omega)) ?_
 rw [← HU1.out]
 obtain ⟨U2, HU2⟩ : ∃ q : ByteArray, Hid (q = U1 ++ ⟨#[32, 116, 105, 109, 101, 32]⟩) := ⟨_, hid rfl⟩
 have hU2 : U2.size ≤ 13 := by rw [HU2.out]; exact Nat.le_trans (cat_le hU1 (n := 6) (by decide)) (by decide)
 refine tk 7 rfl (yieldsIf_cat (by rfl) _ _ _ _ rfl U1 ⟨#[32, 116, 105, 109, 101, 32]⟩ rfl rfl (by rw [← ByteArray.size_append, ← HU2.out]; omega)) ?_
 rw [← HU2.out]
 refine e1 13 rfl fun K' hK' => ?_
 rw [if_pos (by rfl)]
 go_simp
 go_at_call 57
 refine (hi2 x1 k1.bel).out.mono ?_
 rintro e x2 ⟨rfl, hb2⟩
 have k2 := k1.step hb2
 refine ko hK' (hSS _ k2) fun hHeld => ?_
 clear hK' K'
 obtain ⟨U3, HU3⟩ : ∃ q : ByteArray, Hid (q = U2 ++ T2) := ⟨_, hid rfl⟩
 have hU3 : U3.size ≤ 113 := by rw [HU3.out]; exact Nat.le_trans (cat_le hU2 hT2s) (by decide)
 refine tk 14 rfl (yieldsIf_cat (by rfl) _ _ _ _ rfl U2 T2 rfl rfl (by rw [← ByteArray.size_append, ← HU3.out]; omega)) ?_
 rw [← HU3.out]
 obtain ⟨U4, HU4⟩ : ∃ q : ByteArray, Hid (q = U3 ++ ⟨#[32, 108, 97, 115, 116, 32]⟩) := ⟨_, hid rfl⟩
 have hU4 : U4.size ≤ 119 := by rw [HU4.out]; exact Nat.le_trans (cat_le hU3 (n := 6) (by decide)) (by decide)
 refine tk 15 rfl (yieldsIf_cat (by rfl) _ _ _ _ rfl U3 ⟨#[32, 108, 97, 115, 116, 32]⟩ rfl rfl (by rw [← ByteArray.size_append, ← HU4.out]; omega)) ?_
 rw [← HU4.out]
 refine e1 20 rfl fun K' hK' => ?_
 rw [if_pos (by rfl)]
 go_simp
 go_at_call 58
 refine (hx3 x2 k2.bel).out.mono ?_
 rintro e x3 ⟨rfl, hb3⟩
 have k3 := k2.step hb3
 obtain ⟨c0, _, c50, _⟩ := (hCE x3 k3.bel).out
 refine ko hK' (hSS _ k3) fun hHeld => ?_
 clear hK' K'
 obtain ⟨U5, HU5⟩ : ∃ q : ByteArray, Hid (q = U4 ++ T3) := ⟨_, hid rfl⟩
 have hU5 : U5.size ≤ 219 := by rw [HU5.out]; exact Nat.le_trans (cat_le hU4 hT3s) (by decide)
 refine tk 21 rfl (yieldsIf_cat (by rfl) _ _ _ _ rfl U4 T3 rfl rfl (by rw [← ByteArray.size_append, ← HU5.out]; omega)) ?_
 rw [← HU5.out]
 obtain ⟨U6, HU6⟩ : ∃ q : ByteArray, Hid (q = U5 ++ ⟨#[10]⟩) := ⟨_, hid rfl⟩
 have hU6 : U6.size ≤ 220 := by rw [HU6.out]; exact Nat.le_trans (cat_le hU5 (n := 1) (by decide)) (by decide)
 refine tk 22 rfl (yieldsIf_cat (by rfl) _ _ _ _ rfl U5 ⟨#[10]⟩ rfl rfl (by rw [← ByteArray.size_append, ← HU6.out]; omega)) ?_
 rw [← HU6.out]
 have hUN : U6 = N1 := by rw [HU6.out, HU5.out, HU4.out, HU3.out, HU2.out, HU1.out]; exact hw1.out
 rw [hUN]
 refine tq 23 rfl ?_
 refine wpAnyH_done (by kernel_rfl) ?_ _
 clear hHeld hSS k0 k1 k2 hb1 hb2 hb3 HU1 HU2 HU3 HU4 HU5 HU6 hU1 hU2 hU3 hU4 hU5 hU6 hUN hi1 hi2 hx3
 go_wp2_with (first
  | (go_at_call 29; refine (hme x4 k4.bel).out.mono ?_; intro e x5 hMPo; obtain ⟨M, mc, a1, c1, rfl, hM9, hR9, hno9, hb5⟩ := HMP.out _ _ _ hMPo; clear hMPo; have k5 := k4.step hb5)
  | (refine wl_cat rfl _ _ _ _ rfl N1 N2 rfl rfl (Nat.le_trans (Nat.add_le_add hl1s hl2s) (by decide)) ?_)
  | (refine wl_cat rfl _ _ _ _ rfl (⟨#[102, 111, 117, 110, 100, 101, 114, 32]⟩ ++ T4) ⟨#[10]⟩ rfl rfl (Nat.le_trans (Nat.add_le_add (cat_le (m := 8) (by decide) hT4s) (by decide : ByteArray.size ⟨#[10]⟩ ≤ 1)) (by decide)) ?_; rw [hw2.out])
  | (refine wl_cat rfl _ _ _ _ rfl ⟨#[102, 111, 117, 110, 100, 101, 114, 32]⟩ T4 rfl rfl (Nat.le_trans (Nat.add_le_add (by decide : ByteArray.size ⟨#[102, 111, 117, 110, 100, 101, 114, 32]⟩ ≤ 8) hT4s) (by decide)) ?_)
  | (go_at_call 58; refine (hx4 x3 k3.bel).out.mono ?_; rintro e x4 ⟨rfl, hb4⟩; have k4 := k3.step hb4; have c50' := (hCE x4 k4.bel).out.2.2.1))
 obtain ⟨hMl9, hMA9⟩ := rowAt hM9 (by unfold memC; simp)
 clear hme HMP hx4 k3 k4 c0 c50 c50' hb4 hb5 hM9
 go_loopw [4, 83] (fun s i wr => (i = .int .i64 0 ∧ s = .string (N1 ++ N2) ∧ wr = x5) ∨ (i = .int .i64 1 ∧ s = .string TT ∧ RD w B Z wr)) (fun _ i _ => 2 - (intOf i).toNat)
 case atStart => exact Or.inl ⟨rfl, rfl, rfl⟩
 case round =>
  rcases hrel with ⟨rfl, rfl, rfl⟩ | ⟨rfl, rfl, kE⟩
  ·go_wp2_with (first
    | (refine wl_storeV rfl 120 _ _ rfl 120 V rfl MC rfl 17 aggMem17 hMCl MZ hV2 hzml hMC1 ?_; intro y2 hV3 hb3 hs3; have hbA : Below wr.heap.size wr y2 := (by rw [← HV.out]; exact hb2.trans hb3))
    | (obtain ⟨V, HV⟩ := hidE wr.heap.size; refine wl_allocV rfl 120 rfl MZ hzm.out V HV.out.symm ?_; intro y1 hV2 hb2 hs2)
    | (obtain ⟨MC, HMC⟩ := hidE (memC F (.slice a1 m c1)); have hMCl := (hMl (.slice a1 m c1)).out; have hMC1 := (hM1 a1 m c1).out; rw [← HMC.out] at hMCl hMC1 hMA9; refine wl_loadG (by rfl) 120 _ rfl ⟨M, 0, none⟩ rfl 17 MC hMCl aggMem17 hMA9 ?_))
   have k2 := k5.step hbA
   have hR2 := hR9.below hbA
   have hMF := fun (y : World) (h : BlkV 120 y V MC) => hid (show At y ⟨V, 0, none⟩ F ∧ y.cell? ⟨V, 16, none⟩ = some (.slice a1 m c1) from ⟨h.at 0 F fun j u hu => by
    have hj := (List.getElem?_eq_some_iff.1 hu).1
    rw [HMC.out]; unfold memC
    rw [Nat.zero_add, List.getElem?_append_left hj]; exact hu, (h.cell 16).trans (by rw [HMC.out]; unfold memC; rw [← hFl, List.getElem?_append_right (Nat.le_refl _), Nat.sub_self]; rfl)⟩)
   have hSS : ∀ y, BlkV 120 y V MC → (fun y => y.cell? ⟨V, 16, none⟩ = some (.slice a1 m c1)) y := fun y h => (hMF y h).out.2
   refine wp_region_held_drew (S := fun y => y.cell? ⟨V, 16, none⟩ = some (.slice a1 m c1)) (by kernel_rfl) (hSS y2.drew hV3) (fun hHeld => ?_)
   obtain ⟨z0, HZ0⟩ := hidE y2.drew
   have kz0 := k2.drew
   have hVz0 : BlkV 120 y2.drew V MC := hV3
   have hRz0 : RowS y2.drew a1 rs := hR2
   rw [← HZ0.out] at hHeld kz0 hVz0 hRz0 ⊢
   clear k2 hR2 hV3 hV2 hb2 hb3 hbA hMA9 hs2 hs3
   refine tq 0 rfl ?_
   refine tq 1 rfl ?_
   refine tq 2 rfl ?_
   refine tq 5 rfl ?_
   refine tq 6 rfl ?_
   refine e1 3 rfl fun K' hK' => ?_
   rw [if_pos (by rfl)]
   go_simp
   go_at_call 58
   refine (hx5 z0 V (hMF _ hVz0).out.1 hVz0.lt).out.mono ?_
   rintro e z1 ⟨rfl, hb1⟩
   have kz1 := kz0.step hb1
   have hVz1 := hVz0.below hb1 hVz0.lt
   have hRz1 := hRz0.below hb1
   refine ko hK' (hSS _ hVz1) fun hHeld => ?_
   clear hK' K'
   refine e1 4 rfl fun K' hK' => ?_
   obtain ⟨G3, HG3⟩ := hidE z1.heap.size
   refine step_lit rfl 26 9 2 _ rfl Tryz.underlying26 (.string ⟨#[]⟩) 1 16 infoStr (by decide) (by decide) [.string ⟨#[109, 101, 109, 98, 101, 114]⟩, .string T4] (by kernel_rfl) G3 HG3.out.symm ?_
   intro z2 hN2 hb2 hs2
   have hb2' : Below z1.heap.size z1 z2 := by rw [← HG3.out]; exact hb2
   have kz2 := kz1.step hb2'
   have hVz2 := hVz1.below hb2' hVz1.lt
   have hRz2 := hRz1.below hb2'
   refine ko hK' (hSS _ hVz2) fun hHeld => ?_
   clear hK' K'
   refine e1 7 rfl fun K' hK' => ?_
   refine step_appendS rfl _ _ 26 rfl 9 (.string ⟨#[]⟩) 1 16 Tryz.underlying26 infoStr rfl (by decide) G3 _ 2 [.string ⟨#[109, 101, 109, 98, 101, 114]⟩, .string T4] rfl (mine_blk hN2 (Nat.le_refl _) rfl (by decide)) a1 m c1 rfl hno9 (strV rs) hSVl.out (hSV.out _ _ hRz2) hSV1.out (by unfold maxLen; omega) (by omega) (by rw [HG3.out]; exact hb2'.size) (2 + m) rfl ?_
   intro ao4 c4 z3 row4 hc4 hM4 hV4 hg4 hr4
   have hb4 : Below G3 z2 z3 := (Below.refl _ _).grown hg4 (by rw [HG3.out]; exact hb2'.size) (fun k hk => (hr4 k hk).1)
   have hVz3 := hVz2.below hb4 (by rw [HG3.out]; exact hVz1.lt)
   have kz3 := kz1.step (by rw [← HG3.out]; exact hb2.trans hb4)
   refine ko hK' (hSS _ hVz3) fun hHeld => ?_
   clear hK' K'
   refine e1 8 rfl fun K' hK' => ?_
   rw [if_pos (by rfl)]
   go_simp
   go_at_call 60
   refine (hjo z3 (2 + m) rfl ao4 c4 hc4 hV4).out.mono ?_
   rintro e z4 ⟨rfl, hb5⟩
   have kz4 := kz3.step hb5
   have hVz4 := hVz3.below hb5 hVz3.lt
   refine ko hK' (hSS _ hVz4) fun hHeld => ?_
   clear hK' K'
   refine tk 9 rfl (yieldsIf_cat (by rfl) _ _ _ _ rfl J3 ⟨#[10]⟩ rfl rfl (Nat.le_trans (Nat.add_le_add hJ3s (by decide : ByteArray.size ⟨#[10]⟩ ≤ 1)) (by decide))) ?_
   rw [hw4.out]
   refine tk 10 rfl (yieldsIf_cat (by rfl) _ _ _ _ rfl (N1 ++ N2) N3 rfl rfl (Nat.le_trans (Nat.add_le_add (cat_le hl1s hl2s) hl3s) (by decide))) ?_
   rw [← HTT.out]
   refine tq 11 rfl ?_
   refine wpAnyH_done (by kernel_rfl) ?_ _
   clear hHeld hSS
   go_wp2_with fail
   go_roundw
   case rel => exact Or.inr ⟨rfl, rfl, kz4⟩
   case measure => exact (by decide : (2 - ((1 : Int)).toNat) < 2 - ((0 : Int)).toNat)
  ·go_wp2_with (go_at_call 27; refine (hke wr kE.bel).out.mono ?_; rintro e y0 ⟨rfl, hb0⟩; have kF := kE.step hb0)
   clear kE hb0 hke
   go_loopw [4, 102] (fun s i wr => i = .int .i64 0 ∧ s = .string TT ∧ RD w B Z wr) (fun _ _ _ => 0)
   case atStart => exact ⟨rfl, rfl, kF⟩
   case round =>
    obtain ⟨rfl, rfl, kG⟩ := hrel
    clear kF
    have c53 := (hCE wr kG.bel).out.2.2.2
    obtain ⟨I, HI⟩ := hidE wr.heap.size
    go_wp2_with (first
     | (at_range; refine wl_rangeK rfl 89 39 124 _ rfl Tryz.underlying89 mv (fun _ => none) (hvo wr kG.bel).out rfl I HI.out.symm ?_; intro y1 cnt1 hI1 hb1 hs1; have kH := kG.step (by rw [← HI.out]; exact hb1))
     | fail)
    clear kG hb1 hs1 c53
    go_frame
    go_loopw [12, 14] (fun o _ wr => ∃ (left : lk.Id → Prop) (k : Nat), o = .slice none 0 0 ∧ IterD wr mv I (fun _ => none) left k ∧ RD w B Z wr) (fun _ _ wr => wr.rangeLeft mv I)
    case atStart => exact ⟨_, _, rfl, hI1, kH⟩
    case round =>
     obtain ⟨left, cn, rfl, hIt, kI⟩ := hrel
     clear hI1 kH
     go_wp2_with (first | (at_next; refine wl_nextD rfl _ rfl mv I (fun _ => none) left cn rfl hIt ?_ ?_) | fail)
     intro hc0 hl0
     clear hIt
     go_wp2_with (go_at_call 62; refine (SortFuncW none 0 0 _ wr (by decide)).mono ?_; rintro e w3 ⟨rfl, rfl⟩)
     go_loopw [4, 175] (fun s i wr => i = .int .i64 0 ∧ s = .string TT ∧ RD w B Z wr) (fun _ _ _ => 0)
     case atStart => exact ⟨rfl, rfl, kI⟩
     case round =>
      obtain ⟨rfl, rfl, kJ⟩ := hrel
      clear kI
      go_wp2_with (first
       | (refine wl_storeV rfl 39 _ _ rfl 39 B rfl DV rfl 32 aggSumT hDl Z hZ3 hZl hD1 ?_; intro v4 hZ4 hb4 hs4; have bb4 := bb3.trans hb4)
       | (go_at_call 45; refine (hsu v2 _ _ HP2 (fun e => by cases e)).out.mono ?_; rintro e v3 ⟨rfl, hb3⟩; have hZ3 := hZ2.below hb3 hZ2.lt; have bb3 := bb2.trans (hb3.mono (Nat.le_of_lt hZ2.lt)))
       | (obtain ⟨G, HG⟩ := hidE wr.heap.size; have hBG : B < G := (by rw [HG.out]; exact kJ.res.lt); refine wl_convM rfl _ rfl TT TS HTS.out.symm (by omega) rfl G HG.out.symm ?_; intro cc v2 hO2 hb2 hs2; have hZ2 := kJ.res.below hb2 hBG; have bb2 := kJ.bel.trans (hb2.mono (Nat.le_of_lt hBG)); obtain ⟨gq, cq, hvq, _, _, HP2⟩ := hO2.pt hNo.out; injection hvq with hv1 hv2 hv3; injection hv1 with hv1; injection hv1 with hv1; subst hv1; subst hv3))
      (try simp only [Exit.inBlock, Exit.then]); refine bodyPost_ret (results_cell rfl _ _ _ _ rfl DV (by rw [hDl]; exact aggSumT) hZ4.at0) rfl ?_
      exact HPQ.out _ bb4
end Go.Proofs.YtdhipjoplkpgmaaGreatDoor.hf
namespace Go.Proofs.YtdhipjoplkpgmaaGreatDoor.hf
open Go.RowKit st hs wr shr sh lk
theorem eqK_nil (w : World) : Calls Tryz.prog 25 #[.slice none 0 0, .slice none 0 0] w fun e w' => e = .returned (.bool true) ∧ w = w' := by
 go_enter Tryz.func25, Tryz.ntmps25
 go_wp2
 go_loopw [13] (fun i wr => i = .int .i64 0 ∧ wr = w) (fun _ _ => 0)
 case atStart => exact ⟨rfl, rfl⟩
 case round =>
  obtain ⟨rfl, rfl⟩ := hrel
  go_wp2
  go_ret
  exact ⟨rfl, rfl⟩
theorem eqHeld_nil (cm : Value) (w : World) : Calls Tryz.prog 76 #[.slice none 0 0, .slice none 0 0, cm] w fun e w' => e = .returned (.bool true) ∧ w = w' := by
 go_enter Tryz.func76, Tryz.ntmps76
 go_wp2
 go_loopw [7, 17] (fun _ i wr => i = .int .i64 0 ∧ wr = w) (fun _ _ _ => 0)
 case atStart => exact ⟨rfl, rfl⟩
 case round =>
  obtain ⟨rfl, rfl⟩ := hrel
  go_wp2
  go_ret
  exact ⟨rfl, rfl⟩
theorem sameHeld_nil (w : World) : Calls Tryz.prog 30 #[.slice none 0 0, .slice none 0 0] w fun e w' => e = .returned (.bool true) ∧ w = w' := by
 go_enter Tryz.func30, Tryz.ntmps30
 go_wp2_with (go_at_call 76; refine (eqHeld_nil _ w).mono ?_; rintro e w1 ⟨rfl, rfl⟩)
 go_ret
 exact ⟨rfl, rfl⟩
theorem rowS_at {w : World} {ao : Option Addr} {rs : List ByteArray} (h : RowS w ao rs) {k : Nat} (hk : k < rs.length) : ∃ b off, ao = some ⟨b, off, none⟩ ∧ b < w.heap.size ∧ w.cell? ⟨b, off + k, none⟩ = some (.string (roleAt rs k)) := by
 rcases h with h | ⟨b, off, h1, h2, h3⟩
 ·rw [h] at hk; cases hk
 ·exact ⟨b, off, h1, h2, h3 k hk⟩
theorem equal_strs (ao bo : Option Addr) (c1 c2 n : Nat) (rs : List ByteArray) (w : World) (hn' : n = rs.length) (h1 : RowS w ao rs) (h2 : RowS w bo rs) (hn : n ≤ 1000000) :
  Calls Tryz.prog 72 #[.slice ao n c1, .slice bo n c2] w fun e w' => e = .returned (.bool true) ∧ Below w.heap.size w w' := by
 have HN := hid hn'
 clear hn'
 go_enter Tryz.func72, Tryz.ntmps72
 go_wp2
 go_loopw [5, 13] (fun _ i wr => ∃ k : Nat, k ≤ n ∧ i = .int .i64 k ∧ Below w.heap.size w wr) (fun _ i _ => n - (intOf i).toNat)
 case atStart => exact ⟨0, Nat.zero_le _, rfl, Below.refl _ _⟩
 case round =>
  obtain ⟨k, hk, rfl, hbl⟩ := hrel
  by_cases h0 : k < n
  ·obtain ⟨b, off, rfl, hb, hat⟩ := rowS_at (h1.below hbl) (k := k) (by rw [← HN.out]; exact h0)
   obtain ⟨b2, off2, rfl, hb2, hat2⟩ := rowS_at (h2.below hbl) (k := k) (by rw [← HN.out]; exact h0)
   obtain ⟨s, Hs⟩ := hidE (roleAt rs k)
   rw [← Hs.out] at hat hat2
   have hkI : (k : Int) < (n : Int) := by omega
   have hkI0 : (0 : Int) ≤ (k : Int) := by omega
   have a1 : wr.drew.cell? ⟨b, off + k, none⟩ = some (.string s) := hat
   have a2 : wr.drew.cell? ⟨b2, off2 + k, none⟩ = some (.string s) := hat2
   clear hat hat2
   go_wp2_with fail
   refine wp_region_still_tail 8 (by kernel_rfl) (by kernel_rfl) ?_
   simp only [List.take_succ_cons, List.take_zero, List.drop_succ_cons, List.drop_zero]
   change wpStill _ _ wr.drew (fun a' => wpList _ _ _ _ a' wr.drew) _ _
   iterate 8 still_step
   refine wpStill_nil ?_
   go_wp2
   go_roundw
   case rel => exact ⟨k + 1, by omega, by go_num, hbl.drew⟩
   case measure => simp [intOf] <;> omega
  ·go_wp2
   go_ret
   exact ⟨rfl, hbl⟩
end Go.Proofs.YtdhipjoplkpgmaaGreatDoor.hf
namespace Go.Proofs.YtdhipjoplkpgmaaGreatDoor.hf
open Go.RowKit st hs wr shr sh lk
theorem mem_parts {w : World} {g : Nat} {F : List Value} {ro : Value} (hF : F.length = 16) (h : BlkV 120 w g (memC F ro)) : At w ⟨g, 0, none⟩ F ∧ w.cell? ⟨g, 16, none⟩ = some ro :=
 ⟨h.at 0 F fun j u hu => by
  have hj := (List.getElem?_eq_some_iff.1 hu).1
  unfold memC
  rw [Nat.zero_add, List.getElem?_append_left hj]; exact hu, (h.cell 16).trans (by unfold memC; rw [← hF, List.getElem?_append_right (Nat.le_refl _), Nat.sub_self]; rfl)⟩
theorem sameMember_ok (f : List Int) (hf : f.length = 16) (a1 a2 : Option Addr) (c1 c2 n : Nat) (rs : List ByteArray) (hn : n = rs.length) (hm : n ≤ 1000) (w : World) (h1 : RowS w a1 rs) (h2 : RowS w a2 rs) :
  Calls Tryz.prog 71 #[.agg (memC (f.map (Value.int .u8)) (.slice a1 n c1)).toArray, .agg (memC (f.map (Value.int .u8)) (.slice a2 n c2)).toArray] w fun e w' => e = .returned (.bool true) ∧ Below w.heap.size w w' := by
 have hFl : (f.map (Value.int .u8)).length = 16 := by rw [List.length_map, hf]
 have heq : Hid (∀ w, (Op.equalIn 10000 25 (.agg (f.map (Value.int .u8)).toArray) (.agg (f.map (Value.int .u8)).toArray)).run Tryz.prog w = .ok true w) := hid (fun w => by rw [run_eq_id' w f f hf hf]; simp)
 have hes := fun (x : World) (hb : Below w.heap.size w x) => hid (equal_strs a1 a2 c1 c2 n rs x hn (h1.below hb) (h2.below hb) (by omega))
 obtain ⟨F, HF⟩ := hidE (f.map (Value.int .u8))
 rw [← HF.out] at hFl heq ⊢
 have hp1 := fun (x : World) (g : Nat) (h : BlkV 120 x g (memC F (.slice a1 n c1))) => hid (mem_parts hFl h)
 have hp2 := fun (x : World) (g : Nat) (h : BlkV 120 x g (memC F (.slice a2 n c2))) => hid (mem_parts hFl h)
 obtain ⟨C1, HC1⟩ := hidE (memC F (.slice a1 n c1))
 rw [← HC1.out] at hp1 ⊢
 obtain ⟨C2, HC2⟩ := hidE (memC F (.slice a2 n c2))
 rw [← HC2.out] at hp2
 rw [show memC F (.slice a2 n c2) = C2 from HC2.out.symm]
 obtain ⟨B, hsz⟩ := szE w
 rw [hsz] at hes ⊢
 clear hn h1 h2
 go_enter Tryz.func71, Tryz.ntmps71
 go_wp2_with (first
  | (go_at_call 72; refine (hes w2 bb2).out.mono ?_; rintro e w3 ⟨rfl, hb3⟩; have bb3 : Below B w w3 := bb2.trans (hb3.mono (by omega)))
  | (refine wl_eqK 9 rfl (by kernel_rfl) 25 _ _ _ rfl F.toArray F.toArray rfl rfl true (heq.out _) (by kernel_rfl) ?_)
  | (refine wl_loadG (by rfl) 25 _ rfl ⟨B, 0, none⟩ rfl 16 F hFl aggIDT hq1.1 ?_)
  | (refine wl_loadG (by rfl) 25 _ rfl ⟨B + 1, 0, none⟩ rfl 16 F hFl aggIDT hq2.1 ?_)
  | (refine wl_boxV rfl 120 _ rfl C2 rfl (B + 1) (by omega) ?_; intro w2 hX2 hb2 hs2; have hY2 := hX1.below hb2 (by omega); have bb2 : Below B w w2 := bb1.trans (hb2.mono (by omega)); have hq1 := (hp1 w2 B hY2).out; have hq2 := (hp2 w2 (B + 1) hX2).out; have hc1 := hq1.2; have hc2 := hq2.2)
  | (refine wl_boxV rfl 120 _ rfl C1 rfl B hsz ?_; intro w1 hX1 bb1 hs1))
 go_ret
 exact ⟨rfl, bb3⟩
theorem sameMembers_ok (f : List Int) (hf : f.length = 16) (a1 a2 : Option Addr) (c1 c2 n M1 M2 d1 d2 : Nat) (rs : List ByteArray) (hn : n = rs.length) (hm : n ≤ 1000) (w : World) (h1 : RowS w a1 rs) (h2 : RowS w a2 rs)
  (k1 : RowV w (some ⟨M1, 0, none⟩) (memC (f.map (Value.int .u8)) (.slice a1 n c1))) (k2 : RowV w (some ⟨M2, 0, none⟩) (memC (f.map (Value.int .u8)) (.slice a2 n c2))) :
  Calls Tryz.prog 28 #[.slice (some ⟨M1, 0, none⟩) 1 d1, .slice (some ⟨M2, 0, none⟩) 1 d2] w fun e w' => e = .returned (.bool true) ∧ Below w.heap.size w w' := by
 have hFl : (f.map (Value.int .u8)).length = 16 := by rw [List.length_map, hf]
 have hsm := fun (x : World) (hb : Below w.heap.size w x) => hid (sameMember_ok f hf a1 a2 c1 c2 n rs hn hm x (h1.below hb) (h2.below hb))
 obtain ⟨g1, j1⟩ := rowAt k1 (by unfold memC; simp)
 obtain ⟨g2, j2⟩ := rowAt k2 (by unfold memC; simp)
 have hC1l : (memC (f.map (Value.int .u8)) (.slice a1 n c1)).length = 17 := by unfold memC; rw [List.length_append, hFl]; rfl
 have hC2l : (memC (f.map (Value.int .u8)) (.slice a2 n c2)).length = 17 := by unfold memC; rw [List.length_append, hFl]; rfl
 have hone : ∀ a c, ∀ u ∈ memC (f.map (Value.int .u8)) (.slice a n c), u.oneCell' = true := fun a c u hu => by
  unfold memC at hu
  rcases List.mem_append.1 hu with h | h
  ·exact ints_one _ _ u h
  ·rw [List.mem_singleton.1 h]; rfl
 have hC11 := hone a1 c1
 have hC21 := hone a2 c2
 obtain ⟨C1, HC1⟩ := hidE (memC (f.map (Value.int .u8)) (.slice a1 n c1))
 obtain ⟨C2, HC2⟩ := hidE (memC (f.map (Value.int .u8)) (.slice a2 n c2))
 have hsm : ∀ x, Below w.heap.size w x → Hid (Calls Tryz.prog 71 #[.agg C1.toArray, .agg C2.toArray] x fun e w' => e = .returned (.bool true) ∧ Below x.heap.size x w') := fun x hb => hid (by rw [HC1.out, HC2.out]; exact (hsm x hb).out)
 rw [← HC1.out] at hC1l hC11 j1
 rw [← HC2.out] at hC2l hC21 j2
 have hzm := hid zeroMem
 have hzml : memZ.length = 17 := rfl
 obtain ⟨MZ, HMZ⟩ := hidE memZ
 rw [← HMZ.out] at hzm hzml
 obtain ⟨B, hsz⟩ := szE w
 rw [hsz] at hsm g1 g2
 have hef := hid (show Calls Tryz.prog 70 #[.slice (some ⟨M1, 0, none⟩) 1 d1, .slice (some ⟨M2, 0, none⟩) 1 d2, .func (.func 71) #[] #[]] w (fun e w' => e = .returned (.bool true) ∧ Below B w w') by
  clear h1 h2 k1 k2 hn
  go_enter Tryz.func70, Tryz.ntmps70
  go_wp2
  go_loopw [7, 17] (fun _ i wr => (i = .int .i64 0 ∧ wr = w) ∨ (i = .int .i64 1 ∧ Below B w wr)) (fun _ i _ => 2 - (intOf i).toNat)
  case atStart => exact Or.inl ⟨rfl, rfl⟩
  case round =>
   rcases hrel with ⟨rfl, rfl⟩ | ⟨rfl, bb⟩
   ·go_wp2_with (first
     | (go_at_call 71; refine (hsm w4 bb4).out.mono ?_; rintro e w5 ⟨rfl, hb5⟩; have bb5 : Below B wr w5 := bb4.trans (hb5.mono (by omega)))
     | (refine wl_loadG (by rfl) 120 _ rfl ⟨B, 0, none⟩ rfl 17 C1 hC1l aggMem17 hX4.at0 ?_)
     | (refine wl_loadG (by rfl) 120 _ rfl ⟨B + 1, 0, none⟩ rfl 17 C2 hC2l aggMem17 hY4.at0 ?_)
     | (refine wl_storeV rfl 120 _ _ rfl 120 (B + 1) rfl C2 rfl 17 aggMem17 hC2l MZ hY3 hzml hC21 ?_; intro w4 hY4 hb4 hs4; have hX4 := hX3.below hb4 (by omega); have bb4 : Below B wr w4 := bb3.trans (hb4.mono (by omega)))
     | (refine wl_allocV rfl 120 rfl MZ hzm.out (B + 1) (by omega) ?_; intro w3 hY3 hb3 hs3; have hX3 := hX2.below hb3 (by omega); have bb3 : Below B wr w3 := bb2.trans (hb3.mono (by omega)))
     | (refine wl_loadG (by rfl) 120 _ rfl ⟨M2, 0, none⟩ rfl 17 C2 hC2l aggMem17 hJ2 ?_)
     | (refine wl_storeV rfl 120 _ _ rfl 120 B rfl C1 rfl 17 aggMem17 hC1l MZ hX1 hzml hC11 ?_; intro w2 hX2 hb2 hs2; have bb2 : Below B wr w2 := bb1.trans hb2; have hJ2 : At w2 ⟨M2, 0, none⟩ C2 := fun j u hu => (bb2.cell (p := (⟨M2, 0, none⟩ : Addr).add j) (by rw [addr_add]; exact g2)).trans (j2 j u hu))
     | (refine wl_allocV rfl 120 rfl MZ hzm.out B hsz ?_; intro w1 hX1 bb1 hs1)
     | (refine wl_loadG (by rfl) 120 _ rfl ⟨M1, 0, none⟩ rfl 17 C1 hC1l aggMem17 j1 ?_))
    go_roundw
    case rel => exact Or.inr ⟨rfl, bb5⟩
    case measure => exact (by decide : (2 - ((1 : Int)).toNat) < 2 - ((0 : Int)).toNat)
   ·go_wp2
    go_ret
    exact ⟨rfl, bb⟩)
 rw [hsz]
 clear hsm h1 h2 k1 k2
 go_enter Tryz.func28, Tryz.ntmps28
 go_wp2_with (go_at_call 70; refine hef.out.mono ?_; rintro e w1 ⟨rfl, hb1⟩)
 go_ret
 exact ⟨rfl, hb1⟩
end Go.Proofs.YtdhipjoplkpgmaaGreatDoor.hf
namespace Go.Proofs.YtdhipjoplkpgmaaGreatDoor.hf
open Go.RowKit st hs wr shr sh lk
def id1 : List Int := [1, 0, 0, 0, 0, 0, 0, 0, 0, 0, 0, 0, 0, 0, 0, 0]
theorem found1 : foundE id1 [] 0 = 0 := by decide +kernel
theorem id1_octs : Octs id1 := by intro c hc; simp only [id1, List.mem_cons, List.not_mem_nil, or_false] at hc; unfold Oct; omega
theorem builtKey0 : Tryz.prog.built 23 [] = some ky0.toArray := by kernel_rfl
theorem builtId1 : Tryz.prog.built 25 [(0, .int .u8 1)] = some (id1.map (Value.int .u8)).toArray := by kernel_rfl
theorem houses_ok (w : World) : Calls Tryz.prog 6 #[] w fun e w' => e = .returned (.bool true) ∧ Below w.heap.size w w' := by
 have hnew := hid (show Calls Tryz.prog 4 #[.agg ky0.toArray, .agg (id1.map (Value.int .u8)).toArray, .slice none 0 0, .int .i64 0] w (fun e w' => ∃ h, e = .returned (.tuple #[.pointer (some ⟨h, 0, none⟩), .int .i64 0]) ∧ Below w.heap.size w w' ∧ Hid (Calls Tryz.prog 12 #[.pointer (some ⟨h, 0, none⟩)] w' (MemPost id1 [] w'))) by
  refine (New_any ky0 (by simp [ky0]) 0 id1 rfl id1_octs none 0 [] w (Or.inl rfl) (fun i hi => by cases hi) (by decide)).mono ?_
  rintro e w' ⟨hb, ⟨h, _⟩ | ⟨_, h, g, mm, mk, mv, L, ms, rfl, hN, hF⟩⟩
  ·exact absurd found1 h
  ·obtain ⟨ra, rc, h1, h2, _⟩ := hF.st
   exact ⟨h, rfl, hb, hid (HMembers_ok h g mm mk mv L ms ky0 (by simp [ky0]) 1 0 _ (by rw [List.length_map]; exact sumL_length _ _) id1 rfl ra rc [] (by decide) w' hN.hou h1 h2)⟩)
 have hbk := hid builtKey0
 have hbi := hid builtId1
 obtain ⟨K0, HK0⟩ := hidE ky0
 rw [← HK0.out] at hnew hbk
 obtain ⟨I1, HI1⟩ := hidE (id1.map (Value.int .u8))
 rw [← HI1.out] at hnew hbi
 obtain ⟨B, hsz⟩ := szE w
 rw [hsz] at hnew ⊢
 go_enter Tryz.func6, Tryz.ntmps6
 go_wp2_with (first
  | (go_at_call 12; refine hme1.out.mono ?_; rintro e w2 ⟨M, c, a', c', rfl, _, _, _, hb2⟩; have bb2 : Below B w w2 := bb1.trans (hb2.mono (by have := bb1.size; omega)))
  | (go_at_call 4; refine hnew.out.mono ?_; rintro e w1 ⟨h, rfl, bb1, hme1⟩)
  | (refine wl_buildL rfl 25 _ rfl [(0, .int .u8 1)] rfl I1 hbi.out ?_)
  | (refine wl_build0G (by kernel_rfl) 23 rfl K0 hbk.out ?_))
 go_ret
 exact ⟨rfl, bb2⟩
end Go.Proofs.YtdhipjoplkpgmaaGreatDoor.hf
namespace Go.Proofs.YtdhipjoplkpgmaaGreatDoor.hf
open Go.RowKit st hs wr shr sh lk
theorem run_eq_seal (w : World) (s : List Int) (hs : s.length = 64) : (Op.equalIn 10000 54 (.agg (s.map (Value.int .u8)).toArray) (.agg (s.map (Value.int .u8)).toArray)).run Tryz.prog w = .ok true w := by
 rw [run_equalIn_ints w 9998 54 5 64 .u8 Tryz.underlying54 Tryz.underlying5 size5' s s hs hs]
 simp
theorem ext_h1 {n t : Int} {S R : List Int} (hS : S.length = 32) : (hdC n t (S.map (Value.int .u8)) (R.map (Value.int .u8))).toArray.extract 2 (2 + 32) = (S.map (Value.int .u8)).toArray := by
 rw [show hdC n t (S.map (Value.int .u8)) (R.map (Value.int .u8)) = ([.int .i64 n, .int .i64 t]) ++ S.map (Value.int .u8) ++ R.map (Value.int .u8) by simp [hdC]]
 exact ext_mid _ _ _ 2 32 (by simp) (by simp [hS])
theorem ext_h2 {n t : Int} {S R : List Int} (hS : S.length = 32) (hR : R.length = 32) : (hdC n t (S.map (Value.int .u8)) (R.map (Value.int .u8))).toArray.extract 34 (34 + 32) = (R.map (Value.int .u8)).toArray := by
 rw [show hdC n t (S.map (Value.int .u8)) (R.map (Value.int .u8)) = ([.int .i64 n, .int .i64 t] ++ S.map (Value.int .u8)) ++ R.map (Value.int .u8) ++ [] by simp [hdC]]
 exact ext_mid _ _ _ 34 32 (by simp [hS]) (by simp [hR])
theorem run_eq_head (w : World) (n t : Int) (S R : List Int) (hS : S.length = 32) (hR : R.length = 32) : (Op.equalIn 10000 52 (.agg (hdC n t (S.map (Value.int .u8)) (R.map (Value.int .u8))).toArray) (.agg (hdC n t (S.map (Value.int .u8)) (R.map (Value.int .u8))).toArray)).run Tryz.prog w = .ok true w := by
 have hu : Tryz.prog.underlying 52 = some (.struct (Tryz.prog.fieldsOf 52)) := by
  unfold Program.fieldsOf; rw [Tryz.underlying52]
 rw [run_equalIn_agg w 9999 52 _ _ hu (by kernel_rfl)]
 have hv : (Op.equalIn 9999 3 (.int .i64 n) (.int .i64 n)).run Tryz.prog w = .ok true w := by rw [run_equalIn_int w 9998 3 .i64 .i64 _ _ Tryz.underlying3]; simp
 have he : (Op.equalIn 9999 3 (.int .i64 t) (.int .i64 t)).run Tryz.prog w = .ok true w := by rw [run_equalIn_int w 9998 3 .i64 .i64 _ _ Tryz.underlying3]; simp
 have hb : (Op.equalIn 9999 39 (.agg (S.map (Value.int .u8)).toArray) (.agg (S.map (Value.int .u8)).toArray)).run Tryz.prog w = .ok true w := by rw [run_equalIn_ints (P := Tryz.prog) w 9997 39 5 32 .u8 Tryz.underlying39 Tryz.underlying5 size5' S S hS hS]; simp
 have ho : (Op.equalIn 9999 39 (.agg (R.map (Value.int .u8)).toArray) (.agg (R.map (Value.int .u8)).toArray)).run Tryz.prog w = .ok true w := by rw [run_equalIn_ints (P := Tryz.prog) w 9997 39 5 32 .u8 Tryz.underlying39 Tryz.underlying5 size5' R R hR hR]; simp
 have p0 : ∀ w, (part 3 (hdC n t (S.map (Value.int .u8)) (R.map (Value.int .u8))).toArray 0).run Tryz.prog w = .ok (.int .i64 n) w := fun w => by simp [part, isAgg, run_underlying Tryz.underlying3, hdC]
 have p1 : ∀ w, (part 3 (hdC n t (S.map (Value.int .u8)) (R.map (Value.int .u8))).toArray 1).run Tryz.prog w = .ok (.int .i64 t) w := fun w => by simp [part, isAgg, run_underlying Tryz.underlying3, hdC]
 have p2 := fun w => part_arr w 39 32 2 aggSumT _ _ (ext_h1 (n := n) (t := t) (R := R) hS)
 have p3 := fun w => part_arr w 39 32 34 aggSumT _ _ (ext_h2 (n := n) (t := t) hS hR)
 have hl : ∃ f0 f1 f2 f3 : Field, (Tryz.prog.fieldsOf 52).toList = [f0, f1, f2, f3] ∧ (f0.name ≠ "_" ∧ f0.type = 3 ∧ f0.offset = 0) ∧ (f1.name ≠ "_" ∧ f1.type = 3 ∧ f1.offset = 1) ∧ (f2.name ≠ "_" ∧ f2.type = 39 ∧ f2.offset = 2) ∧ (f3.name ≠ "_" ∧ f3.type = 39 ∧ f3.offset = 34) := by
  unfold Program.fieldsOf
  rw [Tryz.underlying52]
  exact ⟨_, _, _, _, rfl, ⟨by decide, rfl, rfl⟩, ⟨by decide, rfl, rfl⟩, ⟨by decide, rfl, rfl⟩, ⟨by decide, rfl, rfl⟩⟩
 obtain ⟨f0, f1, f2, f3, hl, ⟨n0, t0, o0⟩, ⟨n1, t1, o1⟩, ⟨n2, t2, o2⟩, ⟨n3, t3, o3⟩⟩ := hl
 rw [hl]
 rw [eqFields_cons w 9999 _ _ f0 _ _ _ _ n0 (by rw [t0, o0]; exact p0 w) (by rw [t0, o0]; exact p0 w) (by rw [t0]; exact hv), if_pos rfl]
 rw [eqFields_cons w 9999 _ _ f1 _ _ _ _ n1 (by rw [t1, o1]; exact p1 w) (by rw [t1, o1]; exact p1 w) (by rw [t1]; exact he), if_pos rfl]
 rw [eqFields_cons w 9999 _ _ f2 _ _ _ _ n2 (by rw [t2, o2]; exact p2 w) (by rw [t2, o2]; exact p2 w) (by rw [t2]; exact hb), if_pos rfl]
 rw [eqFields_cons w 9999 _ _ f3 _ _ _ _ n3 (by rw [t3, o3]; exact p3 w) (by rw [t3, o3]; exact p3 w) (by rw [t3]; exact ho), if_pos rfl]
 rfl
end Go.Proofs.YtdhipjoplkpgmaaGreatDoor.hf
namespace Go.Proofs.YtdhipjoplkpgmaaGreatDoor.hf
open Go.RowKit st hs wr shr sh lk
theorem wl_storeW {P : Program} {w : World} {ops : Array Oper} {rest : List Oper} {o : Oper} {a : Act} {Q : Exit → Act → World → Prop} (hgd : o.guard = none) (ty : TypeId) (x y : Operand) (ho : o.op = .store ty x y)
  (t : TypeId) (g : Nat) (hx : a.eval x = .pointer (some ⟨g, 0, none⟩)) (cs : List Value) (hy : a.eval y = .agg cs.toArray) (n : Nat) (hi : Agg P ty n) (hn : cs.length = n) (cur : List Value) (hg : BlkV t w g cur) (hc : cur.length = n) (h1 : ∀ u ∈ cs, u.oneCell' = true)
  (h : ∀ w', BlkV t w' g cs → Below g w w' → w.grownBy w' (some g) → w'.heap.size = w.heap.size → wpList P ops Q rest (a.put o.dst undef) w') : wpList P ops Q (o :: rest) a w :=
 wl_storeAll hgd ty x y ho t g hx cs hy n hi hn cur hg hc h1 fun hb => h _ hb (below_setRow' (Below.refl _ _) (Nat.le_refl _) _) ⟨rfl, rfl, rfl, by simp, fun k _ hk => setRow_other w g k _ (fun e => hk (by rw [e]))⟩ (by simp)
structure SF (w : World) (B X5 X7 X9 : Nat) (CS EV JV : List Value) (x : World) : Prop where
 p : BlkV 52 x X5 CS
 q : BlkV 54 x (X5 + 1) EV
 k : BlkV 23 x X7 JV
 y : BlkV 52 x X9 CS
 bel : Below B w x
theorem SF.drew {w x : World} {B X5 X7 X9 : Nat} {CS EV JV : List Value} (s : SF w B X5 X7 X9 CS EV JV x) : SF w B X5 X7 X9 CS EV JV x.drew := ⟨s.p, s.q, s.k, s.y, s.bel.drew⟩
theorem SF.step {w x x' : World} {B X5 X7 X9 : Nat} {CS EV JV : List Value} (hB : B ≤ X5) (s : SF w B X5 X7 X9 CS EV JV x) (hb : Below x.heap.size x x') : SF w B X5 X7 X9 CS EV JV x' :=
 ⟨s.p.below hb s.p.lt, s.q.below hb s.q.lt, s.k.below hb s.k.lt, s.y.below hb s.y.lt, s.bel.trans (hb.mono (Nat.le_trans hB (Nat.le_of_lt s.p.lt)))⟩
theorem Same_ok (h g mm mk mv L ms B0 h2 g2 mm2 mk2 mv2 ms2 ea ec gb n c : Nat) (k : List Int) (hk : k.length = 32) (ok : Octs k) (t : Int) (ht0 : 0 ≤ t) (ht1 : t ≤ 1099511627776) (f : List Int) (hf : f.length = 16) (of : Octs f) (h0 : f ≠ List.replicate 16 0) (rs : List ByteArray) (hE : bodyE rs = 0) (ra rb : Option Addr) (rc rd : Nat) (w : World)
  (hH : BlkV 81 w h (houC (k.map (Value.int .u8)) g L ms)) (hSt : StAfter w g mm mk mv 1 t ((entryS f t (bodyB f rs)).map (Value.int .u8)) (f.map (Value.int .u8)) f (.slice ra rs.length rc)) (hRS : RowS w ra rs) (hL : LedOk w L B0 t (entryB f t (bodyB f rs)) (entryS f t (bodyB f rs)))
  (hH2 : BlkV 48 w h2 (houR (k.map (Value.int .u8)) g2 (.slice (some ⟨ea, 0, none⟩) 1 ec) ms2)) (hSt2 : RsAfter w g2 mm2 mk2 mv2 1 t ((entryS f t (bodyB f rs)).map (Value.int .u8)) (f.map (Value.int .u8)) f (.slice rb rs.length rd)) (hRS2 : RowS w rb rs) (hO : One w t f rs ea gb n c) (hpow : PowTab w) :
  Calls Tryz.prog 7 #[.pointer (some ⟨h, 0, none⟩), .pointer (some ⟨h2, 0, none⟩)] w fun e w' => e = .returned (.bool true) ∧ Below w.heap.size w w' := by
 have hSl : (entryS f t (bodyB f rs)).length = 32 := sumL_length _ _
 have hSo : Octs (entryS f t (bodyB f rs)) := sumL_octs _ _
 have hKl : (k.map (Value.int .u8)).length = 32 := by rw [List.length_map, hk]
 have hsd := fun (x : World) (hb : Below w.heap.size w x) => hid (SealedHead_ok h g L ms B0 k hk ok t ht0 ht1 _ _ hSl hSo x (hH.below hb hH.lt) (hL.below hb))
 have hdr := fun (x : World) => hid (RefDerive_ok k hk ok [104, 101, 97, 100] (by intro c hc; simp only [List.mem_cons, List.not_mem_nil, or_false] at hc; unfold Oct; omega) headWord 0 ⟨by decide, by decide⟩ x)
 rw [headStr] at hdr
 have hho := fun (x : World) (hb : Below w.heap.size w x) => hid (RefHeadOf_ok ea ec gb n c t f rs h0 x (hO.below hb))
 have hEBl : (entryB f t (bodyB f rs)).length = 121 + n := by rw [entryB_length _ _ hO.ok.hf, ← hO.ok.hn]
 have hEBo := hid (entryB_octs (b := bodyB f rs) t hO.ok.of (bodyB_octs hO.ok.of hO.ok.hE))
 have hle := hO.ok.le
 have hrs := (bodyE_small hE).1
 have hFl : (f.map (Value.int .u8)).length = 16 := by rw [List.length_map, hf]
 have hSm : ((entryS f t (bodyB f rs)).map (Value.int .u8)).length = 32 := by rw [List.length_map, hSl]
 have hStx := fun (x : World) (hb : Below w.heap.size w x) => (⟨hSt.blk.below hb hSt.blk.lt, hSt.mem.below hb hSt.mem.lt, hSt.keys.below hb hSt.keys.lt, (hb.block _ (Array.getElem?_eq_some_iff.1 hSt.vot).1).trans hSt.vot⟩ : StAfter x g mm mk mv 1 t ((entryS f t (bodyB f rs)).map (Value.int .u8)) (f.map (Value.int .u8)) f (.slice ra rs.length rc))
 have ho1 := fun (x : World) (hb : Below w.heap.size w x) => hid (Octets_ok h g L ms _ hKl B0 t _ _ (by omega) (by omega) x (hH.below hb hH.lt) (hL.below hb))
 have ho2 := fun (x : World) (hb : Below w.heap.size w x) => hid (RefOctets_ok h2 g2 ms2 ea ec gb n c _ hKl t f rs h0 x (hH2.below hb hH2.lt) (hO.below hb))
 have hhd := fun (x : World) (hb : Below w.heap.size w x) => hid (HouseHead_ok h g L ms B0 _ hKl t _ _ hSl x (hH.below hb hH.lt) (hL.below hb))
 have hsh := fun (x : World) => hid (RefSealHead_ok (hkL k) (hkL_len k) (hkL_octs k) t ht0 ht1 _ (sumL 1 (entryB f t (bodyB f rs))) hSl hSo (sumL_length _ _) (sumL_octs _ _) x)
 have ht1' := fun (x : World) (hb : Below w.heap.size w x) => hid (Time_ok h g mm mk mv L ms _ hKl 1 t _ _ hSm hFl x (hH.below hb hH.lt) (hStx x hb).blk)
 have ht2' := fun (x : World) (hb : Below w.heap.size w x) => hid (RefTime_ok g2 mm2 mk2 mv2 1 t _ _ hSm hFl x (hSt2.below (hb)).blk)
 have hd1' := fun (x : World) (hb : Below w.heap.size w x) => hid (HDigest_ok h g mm mk mv L ms _ hKl t ⟨ht0, by omega⟩ _ hSl hSo f hf of ra rc rs hE x (hH.below hb hH.lt) (hStx x hb) (hRS.below hb) (hpow.on hb (Nat.le_refl _)))
 have hd2' := fun (x : World) (hb : Below w.heap.size w x) => hid (RefDigest_ok g2 mm2 mk2 mv2 t ⟨ht0, by omega⟩ _ hSl hSo f hf of rb rd rs hE x (hSt2.below hb) (hRS2.below hb) (hpow.on hb (Nat.le_refl _)))
 have hk1' := fun (x : World) (hb : Below w.heap.size w x) => hid (Keys_ok h g mm mk mv L ms _ hKl 1 t _ _ hSm hFl x (hH.below hb hH.lt) (hStx x hb).blk (hStx x hb).keys)
 have hk2' := fun (x : World) (hb : Below w.heap.size w x) => hid (RefKeys_ok g2 mm2 mk2 mv2 1 t _ _ hSm hFl x (hSt2.below hb).blk (hSt2.below hb).keys)
 have hm1' := fun (x : World) (hb : Below w.heap.size w x) => hid (HMembers_ok h g mm mk mv L ms _ hKl 1 t _ hSm f hf ra rc rs hrs x (hH.below hb hH.lt) (hStx x hb) (hRS.below hb))
 have hm2' := fun (x : World) (hb : Below w.heap.size w x) => hid (RefMembers_ok g2 mm2 mk2 mv2 1 t _ hSm f hf rb rd rs hrs x (hSt2.below hb) (hRS2.below hb))
 have hh1' := fun (x : World) (hb : Below w.heap.size w x) => hid (Held_ok h g mm mk mv L ms _ hKl 1 t _ _ hSm hFl x (hH.below hb hH.lt) (hStx x hb).blk (hStx x hb).keys)
 have hh2' := fun (x : World) (hb : Below w.heap.size w x) => hid (RefHeld_ok h2 g2 mm2 mk2 mv2 ms2 _ _ hKl 1 t _ _ hSm hFl x (hH2.below hb hH2.lt) (hSt2.below hb).blk (hSt2.below hb).keys)
 have hrk := fun (x : World) (hb : Below w.heap.size w x) => hid (houR_root (hH2.below hb hH2.lt))
 have hrc := fun (x : World) (hb : Below w.heap.size w x) => hid (houR_cells hKl (hH2.below hb hH2.lt))
 have hCl : (headV t (entryS f t (bodyB f rs)) (sumL 1 (entryB f t (bodyB f rs)))).length = 66 := hdC_len (by rw [List.length_map, hSl]) (by rw [List.length_map, sumL_length])
 have hC1 : ∀ u ∈ headV t (entryS f t (bodyB f rs)) (sumL 1 (entryB f t (bodyB f rs))), u.oneCell' = true := hdC_one (ints_one _ _) (ints_one _ _)
 have hVl : ((hsealL k t (entryS f t (bodyB f rs)) (sumL 1 (entryB f t (bodyB f rs)))).map (Value.int .u8)).length = 64 := by rw [List.length_map]; exact sealL_length _ _
 have hV1 := ints_one .u8 (hsealL k t (entryS f t (bodyB f rs)) (sumL 1 (entryB f t (bodyB f rs))))
 have hJl : ((hkL k).map (Value.int .u8)).length = 32 := by rw [List.length_map, hkL_len]
 have hJ1 := ints_one .u8 (hkL k)
 rw [show deriveL k [104, 101, 97, 100] 0 = hkL k from rfl] at hdr
 have hhe := hid (fun x => run_eq_head x 1 t (entryS f t (bodyB f rs)) (sumL 1 (entryB f t (bodyB f rs))) hSl (sumL_length _ _))
 have hse := hid (fun x => run_eq_seal x (hsealL k t (entryS f t (bodyB f rs)) (sumL 1 (entryB f t (bodyB f rs)))) (sealL_length _ _))
 have hde := hid (fun x => run_eq_sum' x (digestL t (entryS f t (bodyB f rs)) f rs) (digestL t (entryS f t (bodyB f rs)) f rs) (sumL_length _ _) (sumL_length _ _))
 simp only [show hdC 1 t ((entryS f t (bodyB f rs)).map (Value.int .u8)) ((sumL 1 (entryB f t (bodyB f rs))).map (Value.int .u8)) = headV t (entryS f t (bodyB f rs)) (sumL 1 (entryB f t (bodyB f rs))) from rfl, show sealL (hkL k) (sumL 6 (headL t (entryS f t (bodyB f rs)) (sumL 1 (entryB f t (bodyB f rs))))) = hsealL k t (entryS f t (bodyB f rs)) (sumL 1 (entryB f t (bodyB f rs))) from rfl] at hsh hhe
 obtain ⟨CS, HCS⟩ := hidE (headV t (entryS f t (bodyB f rs)) (sumL 1 (entryB f t (bodyB f rs))))
 rw [← HCS.out] at hsd hho hCl hC1 hhd hsh hhe
 obtain ⟨EV, HEV⟩ := hidE ((hsealL k t (entryS f t (bodyB f rs)) (sumL 1 (entryB f t (bodyB f rs)))).map (Value.int .u8))
 rw [← HEV.out] at hsd hVl hV1 hsh hse
 obtain ⟨JV, HJV⟩ := hidE ((hkL k).map (Value.int .u8))
 rw [← HJV.out] at hdr hJl hJ1 hsh
 obtain ⟨KV, HKV⟩ := hidE (k.map (Value.int .u8))
 rw [← HKV.out] at hdr hrk hKl
 obtain ⟨EB, HEB⟩ := hidE (entryB f t (bodyB f rs))
 rw [← HEB.out] at hEBl hEBo ho1 ho2
 rw [hEBl] at ho1
 obtain ⟨NB, HNB⟩ := hidE (121 + n)
 rw [← HNB.out] at hEBl ho1 ho2
 have HEBl := hid hEBl
 clear hEBl
 have heq : Hid (∀ (x : World) (a1 a2 : Option Addr) (c1 c2 : Nat), Pt.Ok x ⟨a1, c1, EB⟩ → Pt.Ok x ⟨a2, c2, EB⟩ → Calls Tryz.prog 16 #[.slice a1 NB c1, .slice a2 NB c2] x fun e w' => e = .returned (.bool true) ∧ x = w') := hid (fun x a1 a2 c1 c2 h1 h2 => (Equal_any a1 a2 c1 c2 NB NB EB EB x HEBl.out.symm HEBl.out.symm h1.row h2.row h1.oct h2.oct).mono (by rintro e w' ⟨rfl, h⟩; exact ⟨by simp, h⟩))
 have hDl : ((digestL t (entryS f t (bodyB f rs)) f rs).map (Value.int .u8)).length = 32 := by rw [List.length_map]; exact sumL_length _ _
 have hde2 := hid (fun x => (hde.out x).trans (by rw [beq_self_eq_true]))
 clear hde
 obtain ⟨DV, HDV⟩ := hidE ((digestL t (entryS f t (bodyB f rs)) f rs).map (Value.int .u8))
 rw [← HDV.out] at hd1' hd2' hde2 hDl
 have hsm : Hid (∀ (x : World) (a1 a2 : Option Addr) (c1 c2 M1 M2 d1 d2 : Nat), RowS x a1 rs → RowS x a2 rs → RowV x (some ⟨M1, 0, none⟩) (memC (f.map (Value.int .u8)) (.slice a1 rs.length c1)) → RowV x (some ⟨M2, 0, none⟩) (memC (f.map (Value.int .u8)) (.slice a2 rs.length c2)) → Calls Tryz.prog 28 #[.slice (some ⟨M1, 0, none⟩) 1 d1, .slice (some ⟨M2, 0, none⟩) 1 d2] x fun e w' => e = .returned (.bool true) ∧ Below x.heap.size x w') := hid (fun x a1 a2 c1 c2 M1 M2 d1 d2 h1 h2 k1 k2 => sameMembers_ok f hf a1 a2 c1 c2 rs.length M1 M2 d1 d2 rs rfl (by omega) x h1 h2 k1 k2)
 have HMP : Hid (∀ (x : World) (e : Ending) (x' : World), MemPost f rs x e x' → ∃ M c a' c', e = .returned (.slice (some ⟨M, 0, none⟩) 1 c) ∧ RowV x' (some ⟨M, 0, none⟩) (memC (f.map (Value.int .u8)) (.slice a' rs.length c')) ∧ RowS x' a' rs ∧ (a' = none → c' = 0) ∧ Below x.heap.size x x') := hid (fun x e x' h => h)
 obtain ⟨MP, HMPE⟩ := hidE (MemPost f rs)
 rw [← HMPE.out] at HMP hm1' hm2'
 obtain ⟨F, HF⟩ := hidE (f.map (Value.int .u8))
 rw [← HF.out] at HMP hsm
 obtain ⟨m, Hm⟩ := hidE rs.length
 rw [← Hm.out] at HMP hsm
 have hiC : (Tryz.prog.info? 52).map (·.size) = some CS.length := by rw [hCl]; exact aggHead.2
 have hiE : (Tryz.prog.info? 54).map (·.size) = some EV.length := by rw [hVl]; exact aggSeal.2
 have hiJ : (Tryz.prog.info? 23).map (·.size) = some JV.length := by rw [hJl]; exact aggKey32.2
 clear hle hrs hFl hSm hSl hSo hEBo hStx
 have hzh := hid zeroHead
 have hZHl : hdZ.length = 66 := rfl
 obtain ⟨ZH, HZH⟩ := hidE hdZ
 rw [← HZH.out] at hzh hZHl
 have hz := hid zeroSeal
 have hZl : slZ.length = 64 := by simp [slZ]
 obtain ⟨Z, HZ⟩ := hidE slZ
 rw [← HZ.out] at hz hZl
 have hzk := hid zeroKey32
 have hZKl : ky0.length = 32 := by simp [ky0]
 obtain ⟨ZK, HZK⟩ := hidE ky0
 rw [← HZK.out] at hzk hZKl
 obtain ⟨B, hsz⟩ := szE w
 rw [hsz] at hsd hho hrk hrc ho1 ho2 hhd ht1' ht2' hd1' hd2' hk1' hk2' hm1' hm2' hh1' hh2' ⊢
 go_enter Tryz.func7, Tryz.ntmps7
 go_wp2_with (first
  | (refine wl_storeV rfl 52 _ _ rfl 52 X9 rfl CS rfl 66 aggHead hCl ZH hX9 hZHl hC1 ?_; intro w11 hY9 hb11 hs11; have bb11 : Below B w w11 := bb10.trans (hb11.mono (by omega)); have hP11 := hP10.below hb11 (by omega); have hQ11 := hQ10.below hb11 (by omega); have hK11 := hK10.below hb11 (by omega))
  | (obtain ⟨X9, HX9⟩ := hidE w9.heap.size; have hX79 : X7 < X9 := (by rw [HX9.out]; exact hK9.lt); refine wl_allocV rfl 52 rfl ZH hzh.out X9 HX9.out.symm ?_; intro w10 hX9 hb10 hs10; have bb10 : Below B w w10 := bb9.trans (hb10.mono (by omega)); have hP10 := hP9.below hb10 (by omega); have hQ10 := hQ9.below hb10 (by omega); have hK10 := hK9.below hb10 (by omega))
  | (go_at_call 15; refine (hho w8 bb8).out.mono ?_; rintro e w9 ⟨rfl, hb9⟩; have bb9 : Below B w w9 := bb8.trans (hb9.mono (by have := bb8.size; omega)); have hP9 := hP8.below hb9 hP8.lt; have hQ9 := hQ8.below hb9 hQ8.lt; have hK9 := hK8.below hb9 hK8.lt)
  | (refine wl_storeV rfl 23 _ _ rfl 23 X7 rfl JV rfl 32 aggKey32 hJl ZK hX7 hZKl hJ1 ?_; intro w8 hK8 hb8 hs8; have bb8 : Below B w w8 := bb7.trans (hb8.mono (by omega)); have hP8 := hP7.below hb8 (by omega); have hQ8 := hQ7.below hb8 (by omega); have c33 := ((hrc w8 bb8).out).2)
  | (obtain ⟨X7, HX7⟩ := hidE w6.heap.size; have hX57 : X5 + 1 < X7 := (by rw [HX7.out]; exact hQ6.lt); refine wl_allocV rfl 23 rfl ZK hzk.out X7 HX7.out.symm ?_; intro w7 hX7 hb7 hs7; have bb7 : Below B w w7 := bb6.trans (hb7.mono (by omega)); have hP7 := hP6.below hb7 (by omega); have hQ7 := hQ6.below hb7 (by omega))
  | (go_at_call 14; refine (hdr w5).out.mono ?_; rintro e w6 ⟨rfl, hb6⟩; have bb6 : Below B w w6 := bb5.trans (hb6.mono (by have := bb5.size; omega)); have hP6 := hP5.below hb6 hP5.lt; have hQ6 := hQ5.below hb6 hQ5.lt)
  | (refine wl_loadG (by rfl) 23 _ rfl ⟨h2, 0, none⟩ rfl 32 KV hKl aggKey32 (hrk w5 bb5).out ?_)
  | (refine wl_storeV rfl 54 _ _ rfl 54 (X5 + 1) rfl EV rfl 64 aggSeal hVl Z hQ4 hZl hV1 ?_; intro w5 hQ5 hb5 hs5; have bb5 : Below B w w5 := bb4.trans (hb5.mono (by omega)); have hP5 := hP4.below hb5 (by omega))
  | (refine wl_storeW rfl 52 _ _ rfl 52 X5 rfl CS rfl 66 aggHead hCl ZH hP3 hZHl hC1 ?_; intro w4 hP4 hb4 hg4 hs4; have bb4 : Below B w w4 := bb3.trans (hb4.mono (by omega)); have hQ4 : BlkV 54 w4 (X5 + 1) Z := hQ3.grown hg4 (by intro e; injection e with e; omega))
  | (refine wl_allocV rfl 54 rfl Z hz.out (X5 + 1) (by omega) ?_; intro w3 hQ3 hb3 hs3; have bb3 : Below B w w3 := bb2.trans (hb3.mono (by omega)); have hP3 := hP2.below hb3 (by omega))
  | (obtain ⟨X5, HX5⟩ := hidE w1.heap.size; have hBX : B ≤ X5 := (by rw [HX5.out]; have := bb1.size; omega); refine wl_allocV rfl 52 rfl ZH hzh.out X5 HX5.out.symm ?_; intro w2 hP2 hb2 hs2; have bb2 : Below B w w2 := bb1.trans (hb2.mono (by omega)))
  | (go_at_call 13; refine (hsd w (Below.refl _ _)).out.mono ?_; rintro e w1 ⟨rfl, bb0⟩; have bb1 : Below B w w1 := (by rw [← hsz]; exact bb0)))
 have k11 : SF w B X5 X7 X9 CS EV JV w11 := ⟨hP11, hQ11, hK11, hY9, bb11⟩
 clear hP11 hQ11 hK11 hY9 bb11
 have hSS : ∀ x, SF w B X5 X7 X9 CS EV JV x → (fun x => x.cell? ⟨h2, 32, none⟩ = some (.pointer (some ⟨g2, 0, none⟩)) ∧ x.rangeAt X5 0 CS ∧ x.rangeAt (X5 + 1) 0 EV ∧ x.rangeAt X7 0 JV ∧ x.rangeAt X9 0 CS) x := fun x k => ⟨((hrc x k.bel).out).1, at_range k.p.at0, at_range k.q.at0, at_range k.k.at0, at_range k.y.at0⟩
 refine wp_region_held_drew (S := fun x => x.cell? ⟨h2, 32, none⟩ = some (.pointer (some ⟨g2, 0, none⟩)) ∧ x.rangeAt X5 0 CS ∧ x.rangeAt (X5 + 1) 0 EV ∧ x.rangeAt X7 0 JV ∧ x.rangeAt X9 0 CS) (by kernel_rfl) (hSS _ k11.drew) (fun hHeld => ?_)
 obtain ⟨x0, HX0⟩ := hidE w11.drew
 have k0 := k11.drew
 rw [← HX0.out] at hHeld k0 ⊢
 clear k11
 refine tq 0 rfl ?_
 refine tq 2 rfl ?_
 refine e1 1 rfl fun K' hK' => ?_
 rw [if_pos (by rfl)]
 go_simp
 go_at_call 17
 refine ((ho1 x0 k0.bel).out).mono ?_
 rintro e x1 ⟨a1, c1, rfl, hO1, hb1⟩
 have k1 := k0.step hBX hb1
 clear hb1 k0
 refine ko hK' (hSS _ k1) fun hHeld => ?_
 clear hK' K'
 refine e1 3 rfl fun K' hK' => ?_
 rw [if_pos (by rfl)]
 go_simp
 go_at_call 18
 refine ((ho2 x1 k1.bel).out).mono ?_
 rintro e x2 ⟨a2, c2, rfl, hO2, hb2⟩
 have k2 := k1.step hBX hb2
 have hO1 := hO1.below hb2
 clear hb2 k1
 refine ko hK' (hSS _ k2) fun hHeld => ?_
 clear hK' K'
 refine e1 4 rfl fun K' hK' => ?_
 rw [if_pos (by rfl)]
 go_simp
 go_at_call 16
 refine (heq.out x2 a1 a2 c1 c2 hO1 hO2).mono ?_
 rintro e x3 ⟨rfl, rfl⟩
 clear hO1 hO2
 refine ko hK' (hSS _ k2) fun hHeld => ?_
 clear hK' K'
 refine tq 5 rfl ?_
 refine tq 6 rfl ?_
 refine tk 8 rfl (yieldsIf_load_mid (by rfl) 52 _ rfl X9 0 rfl CS _ (fun x hS => hS.2.2.2.2) Tryz.underlying52 rfl hiC) ?_
 refine e1 7 rfl fun K' hK' => ?_
 rw [if_pos (by rfl)]
 go_simp
 go_at_call 19
 refine ((hhd x2 k2.bel).out).mono ?_
 rintro e x3 ⟨rfl, hb3⟩
 have k3 := k2.step hBX hb3
 clear hb3 k2
 refine ko hK' (hSS _ k3) fun hHeld => ?_
 clear hK' K'
 refine tk 9 rfl (yieldsIf_eqM (by rfl) 52 _ _ _ rfl CS.toArray CS.toArray rfl rfl true hhe.out (by kernel_rfl)) ?_
 refine tq 10 rfl ?_
 refine tq 11 rfl ?_
 refine tk 12 rfl (yieldsIf_load_mid (by rfl) 52 _ rfl X5 0 rfl CS _ (fun x hS => hS.2.1) Tryz.underlying52 rfl hiC) ?_
 refine tk 13 rfl (yieldsIf_load_mid (by rfl) 52 _ rfl X9 0 rfl CS _ (fun x hS => hS.2.2.2.2) Tryz.underlying52 rfl hiC) ?_
 refine tk 14 rfl (yieldsIf_eqM (by rfl) 52 _ _ _ rfl CS.toArray CS.toArray rfl rfl true hhe.out (by kernel_rfl)) ?_
 refine tq 15 rfl ?_
 refine tq 16 rfl ?_
 refine tk 17 rfl (yieldsIf_load_mid (by rfl) 54 _ rfl (X5 + 1) 0 rfl EV _ (fun x hS => hS.2.2.1) Tryz.underlying54 rfl hiE) ?_
 refine tk 18 rfl (yieldsIf_load_mid (by rfl) 23 _ rfl X7 0 rfl JV _ (fun x hS => hS.2.2.2.1) Tryz.underlying23 rfl hiJ) ?_
 refine tk 19 rfl (yieldsIf_load_mid (by rfl) 52 _ rfl X9 0 rfl CS _ (fun x hS => hS.2.2.2.2) Tryz.underlying52 rfl hiC) ?_
 refine e1 20 rfl fun K' hK' => ?_
 rw [if_pos (by rfl)]
 go_simp
 go_at_call 20
 refine ((hsh x3).out).mono ?_
 rintro e x4 ⟨rfl, hb4⟩
 have k4 := k3.step hBX hb4
 clear hb4 k3
 refine ko hK' (hSS _ k4) fun hHeld => ?_
 clear hK' K'
 refine tk 21 rfl (yieldsIf_eqM (by rfl) 54 _ _ _ rfl EV.toArray EV.toArray rfl rfl true hse.out (by kernel_rfl)) ?_
 refine tq 22 rfl ?_
 refine tq 23 rfl ?_
 refine tq 24 rfl ?_
 refine tq 26 rfl ?_
 refine tq 27 rfl ?_
 refine tq 28 rfl ?_
 refine tq 29 rfl ?_
 refine e1 25 rfl fun K' hK' => ?_
 rw [if_pos (by rfl)]
 go_simp
 go_at_call 21
 refine ((ht1' x4 k4.bel).out).mono ?_
 rintro e x5 ⟨rfl, rfl⟩
 refine ko hK' (hSS _ k4) fun hHeld => ?_
 clear hK' K'
 refine e1 30 rfl fun K' hK' => ?_
 rw [if_pos (by rfl)]
 go_simp
 go_at_call 22
 refine ((ht2' x4 k4.bel).out).mono ?_
 rintro e x5 ⟨rfl, rfl⟩
 refine ko hK' (hSS _ k4) fun hHeld => ?_
 clear hK' K'
 refine tq 31 rfl ?_
 refine tq 32 rfl ?_
 refine tq 33 rfl ?_
 refine tq 34 rfl ?_
 refine tq 36 rfl ?_
 refine tq 37 rfl ?_
 refine tq 38 rfl ?_
 refine tq 39 rfl ?_
 refine e1 35 rfl fun K' hK' => ?_
 rw [if_pos (by rfl)]
 go_simp
 go_at_call 23
 refine ((hd1' x4 k4.bel).out).mono ?_
 rintro e x5 ⟨rfl, hb5⟩
 have k5 := k4.step hBX hb5
 clear hb5 k4
 refine ko hK' (hSS _ k5) fun hHeld => ?_
 clear hK' K'
 refine e1 40 rfl fun K' hK' => ?_
 rw [if_pos (by rfl)]
 go_simp
 go_at_call 24
 refine ((hd2' x5 k5.bel).out).mono ?_
 rintro e x6 ⟨rfl, hb6⟩
 have k6 := k5.step hBX hb6
 clear hb6 k5
 refine ko hK' (hSS _ k6) fun hHeld => ?_
 clear hK' K'
 refine tk 41 rfl (yieldsIf_eqM (by rfl) 39 _ _ _ rfl DV.toArray DV.toArray rfl rfl true hde2.out (by kernel_rfl)) ?_
 refine tq 42 rfl ?_
 refine tq 43 rfl ?_
 refine tq 44 rfl ?_
 refine tq 46 rfl ?_
 refine tq 47 rfl ?_
 refine tq 48 rfl ?_
 refine tq 49 rfl ?_
 refine e1 45 rfl fun K' hK' => ?_
 rw [if_pos (by rfl)]
 go_simp
 go_at_call 26
 refine ((hk1' x6 k6.bel).out).mono ?_
 rintro e x7 ⟨rfl, hb7⟩
 have k7 := k6.step hBX hb7
 clear hb7 k6
 refine ko hK' (hSS _ k7) fun hHeld => ?_
 clear hK' K'
 refine e1 50 rfl fun K' hK' => ?_
 rw [if_pos (by rfl)]
 go_simp
 go_at_call 27
 refine ((hk2' x7 k7.bel).out).mono ?_
 rintro e x8 ⟨rfl, hb8⟩
 have k8 := k7.step hBX hb8
 clear hb8 k7
 refine ko hK' (hSS _ k8) fun hHeld => ?_
 clear hK' K'
 refine e1 51 rfl fun K' hK' => ?_
 rw [if_pos (by rfl)]
 go_simp
 go_at_call 25
 refine (eqK_nil x8).mono ?_
 rintro e x9 ⟨rfl, rfl⟩
 refine ko hK' (hSS _ k8) fun hHeld => ?_
 clear hK' K'
 refine tq 52 rfl ?_
 refine tq 53 rfl ?_
 refine tq 54 rfl ?_
 refine tq 56 rfl ?_
 refine tq 57 rfl ?_
 refine tq 58 rfl ?_
 refine tq 59 rfl ?_
 refine e1 55 rfl fun K' hK' => ?_
 rw [if_pos (by rfl)]
 go_simp
 go_at_call 12
 refine ((hm1' x8 k8.bel).out).mono ?_
 rintro e x9 hMPo
 obtain ⟨M1, d1, b1, q1, rfl, hM1, hR1, hno1, hb9⟩ := HMP.out _ _ _ hMPo
 clear hMPo hno1
 have k9 := k8.step hBX hb9
 clear hb9 k8
 refine ko hK' (hSS _ k9) fun hHeld => ?_
 clear hK' K'
 refine e1 60 rfl fun K' hK' => ?_
 rw [if_pos (by rfl)]
 go_simp
 go_at_call 29
 refine ((hm2' x9 k9.bel).out).mono ?_
 rintro e x10 hMPo
 obtain ⟨M2, d2, b2, q2, rfl, hM2, hR2, hno2, hb10⟩ := HMP.out _ _ _ hMPo
 clear hMPo hno2
 have k10 := k9.step hBX hb10
 have hM1 := hM1.below hb10
 have hR1 := hR1.below hb10
 clear hb10 k9
 refine ko hK' (hSS _ k10) fun hHeld => ?_
 clear hK' K'
 refine e1 61 rfl fun K' hK' => ?_
 rw [if_pos (by rfl)]
 go_simp
 go_at_call 28
 refine (hsm.out x10 b1 b2 q1 q2 M1 M2 d1 d2 hR1 hR2 hM1 hM2).mono ?_
 rintro e z11 ⟨rfl, hb11⟩
 have j11 := k10.step hBX hb11
 clear hb11 k10 hM1 hM2 hR1 hR2
 refine ko hK' (hSS _ j11) fun hHeld => ?_
 clear hK' K'
 refine tq 62 rfl ?_
 refine tq 63 rfl ?_
 refine tq 64 rfl ?_
 refine tq 66 rfl ?_
 refine e1 65 rfl fun K' hK' => ?_
 rw [if_pos (by rfl)]
 go_simp
 go_at_call 31
 refine ((hh1' z11 j11.bel).out).mono ?_
 rintro e z12 ⟨rfl, hb12⟩
 have j12 := j11.step hBX hb12
 clear hb12 j11
 refine ko hK' (hSS _ j12) fun hHeld => ?_
 clear hK' K'
 refine e1 67 rfl fun K' hK' => ?_
 rw [if_pos (by rfl)]
 go_simp
 go_at_call 32
 refine ((hh2' z12 j12.bel).out).mono ?_
 rintro e z13 ⟨rfl, hb13⟩
 have j13 := j12.step hBX hb13
 clear hb13 j12
 refine ko hK' (hSS _ j13) fun hHeld => ?_
 clear hK' K'
 refine e1 68 rfl fun K' hK' => ?_
 rw [if_pos (by rfl)]
 go_simp
 go_at_call 30
 refine (sameHeld_nil z13).mono ?_
 rintro e z14 ⟨rfl, rfl⟩
 refine ko hK' (hSS _ j13) fun hHeld => ?_
 clear hK' K'
 refine tq 69 rfl ?_
 refine tq 70 rfl ?_
 refine wpAnyH_done (by kernel_rfl) ?_ _
 go_wp2_with fail
 go_ret
 exact ⟨rfl, j13.bel⟩
end Go.Proofs.YtdhipjoplkpgmaaGreatDoor.hf
