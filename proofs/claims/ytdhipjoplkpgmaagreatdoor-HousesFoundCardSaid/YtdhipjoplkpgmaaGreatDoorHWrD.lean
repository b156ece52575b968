/-
  Contract of mix.Derive where the label is a name. Conditions: a key of octets, a label of octets that is a name, an epoch in its bounds.
-/
import Derived.Test.YtdhipjoplkpgmaaGreatDoorHMkY
import Derived.Test.YtdhipjoplkpgmaaGreatDoorHHld
import Derived.Lib.ConvBytes
set_option maxRecDepth 100000
set_option linter.unusedSimpArgs false
set_option linter.unusedVariables false
set_option maxHeartbeats 2000000
namespace Go.Proofs.YtdhipjoplkpgmaaGreatDoor.wr
open Go.RowKit st hs shr
def derT (k L : List Int) (e : Int) : List Int := k ++ (L ++ ([0] ++ o8 e))
def deriveL (k L : List Int) (e : Int) : List Int := sumL 7 (derT k L e)
theorem deriveL_length (k L : List Int) (e : Int) : (deriveL k L e).length = 32 := sumL_length _ _
theorem zeroKey : (Tryz.prog.info? 23).map (·.zero) = some (some (.agg ((List.replicate 32 (0 : Int)).map (Value.int .u8)).toArray)) := by kernel_rfl
theorem four_parts {w : World} {p1 p2 p3 p4 : Pt} {g : Nat} {t : TypeId} (hB : BlkV t w g [p1.v, p2.v, p3.v, p4.v]) : RowV w (some ⟨g, 0, none⟩) ([p1, p2, p3, p4].map Pt.v) :=
 Or.inr ⟨g, 0, rfl, hB.lt, fun j u hu => by rw [Nat.zero_add, hB.cell]; exact hu⟩
theorem str_cells {L : List Int} (ho : Octs L) (j : Nat) (hj : j < (strOfNums L).size) : (((strOfNums L).data.toList.getD j 0).toNat : Int) = L.getD j 0 := by
 have hj' : j < L.length := by rw [strOfNums_size] at hj; exact hj
 rw [strOfNums_data]
 have h1 := ho.getD j
 unfold Oct at h1
 rw [getD_lt' L 0 hj'] at h1 ⊢
 simp only [List.getD_eq_getElem?_getD, List.getElem?_map, List.getElem?_eq_getElem hj', Option.map_some, Option.getD_some]
 rw [UInt8.toNat_ofNat_of_lt' (by have := h1.2; show (L[j]).toNat < 256; omega)]
 omega
theorem below_bytes (w : World) (e : TypeId) (s : ByteArray) : Below w.heap.size w (Lib.bytesWorld w e s) :=
 ⟨by simp [Lib.bytesWorld, World.freeze, World.alloc, World.drew, -World.alloc_eq, -World.drew_eq], by simp [Lib.bytesWorld, World.freeze, World.alloc, World.drew, -World.alloc_eq, -World.drew_eq], by simp [Lib.bytesWorld, World.freeze, World.alloc, World.drew, -World.alloc_eq, -World.drew_eq], by rw [Lib.bytesWorld_size]; omega, fun k hk => Lib.bytesWorld_at_old w e s k hk⟩
theorem row_bytes (w : World) (e : TypeId) {L : List Int} (ho : Octs L) : RowI .u8 (Lib.bytesWorld w e (strOfNums L)) (some ⟨w.heap.size, 0, none⟩) L := by
 refine Or.inr ⟨w.heap.size, 0, rfl, by rw [Lib.bytesWorld_size]; omega, fun j hj => ?_⟩
 rw [Nat.zero_add, Lib.bytesWorld_cell w e _ j (by rw [strOfNums_size]; exact hj), str_cells ho j (by rw [strOfNums_size]; exact hj)]
theorem oct_zero : Octs [0] := by intro c hc; simp at hc; subst hc; exact ⟨by decide, by decide⟩
theorem derT_length {k : List Int} (hk : k.length = 32) (L : List Int) (e : Int) : (derT k L e).length = 41 + L.length := by
 unfold derT
 simp only [List.length_append, hk]
 have : (o8 e).length = 8 := rfl
 simp only [List.length_cons, List.length_nil, this]; omega
theorem sum_parts (k L : List Int) (e : Int) (hk : k.length = 32) (ok : Octs k) (hL : Octs L) (hLn : L.length ≤ 32) (x : World) (g1 gs gz g8 cs : Nat) (n : Nat) (hn : n = L.length) (h1 : RowI .u8 x (some ⟨g1, 0, none⟩) k) (h1l : g1 < x.heap.size) (h2 : RowI .u8 x (some ⟨gs, 0, none⟩) L) (h2l : gs < x.heap.size) (hcs : n ≤ cs) (hcm : cs ≤ maxLen) (h3 : RowI .u8 x (some ⟨gz, 0, none⟩) [0]) (h3l : gz < x.heap.size) (h4 : RowI .u8 x (some ⟨g8, 0, none⟩) (o8 e)) (h4l : g8 < x.heap.size)
  (x3 : World) (hx3 : x3 = x.alloc (.cells #[.slice (some ⟨g1, 0, none⟩) 32 32, .slice (some ⟨gs, 0, none⟩) n cs, .slice (some ⟨gz, 0, none⟩) 1 1, .slice (some ⟨g8, 0, none⟩) 8 8] 61)) (g : Nat) (hg : x.heap.size = g) :
  Calls Tryz.prog 181 #[.int .i64 7, .slice (some ⟨g, 0, none⟩) 4 4] x3 fun r w' => Below x3.heap.size x3 w' ∧ r = .returned (.tuple #[.pointer (some ⟨x3.heap.size, 0, none⟩), .int .i64 0]) ∧ SumOk w' x3.heap.size (hs.start 7) (derT k L e) ((41 + L.length : Nat) : Int) := by
 subst hg hn
 have hb : Below x.heap.size x x3 := by rw [hx3]; exact (Below.refl _ _).alloc (Nat.le_refl _) _
 have hB : BlkV 61 x3 x.heap.size [.slice (some ⟨g1, 0, none⟩) k.length 32, .slice (some ⟨gs, 0, none⟩) L.length cs, .slice (some ⟨gz, 0, none⟩) ([0] : List Int).length 1, .slice (some ⟨g8, 0, none⟩) (o8 e).length 8] := by
  rw [hx3, hk]; exact BlkV.new _ _ _ rfl
 have h8 : (o8 e).length = 8 := rfl
 have hps : ∀ p ∈ [(⟨some ⟨g1, 0, none⟩, 32, k⟩ : Pt), ⟨some ⟨gs, 0, none⟩, cs, L⟩, ⟨some ⟨gz, 0, none⟩, 1, [0]⟩, ⟨some ⟨g8, 0, none⟩, 8, o8 e⟩], p.Ok x3 := by
  intro p hp
  simp only [List.mem_cons, List.not_mem_nil, or_false] at hp
  rcases hp with rfl | rfl | rfl | rfl
  ·exact Pt.Ok.below (w := x) ⟨h1, by show k.length ≤ 32; omega, by show 32 ≤ maxLen; decide, ok, fun b e => by cases e; exact h1l⟩ hb
  ·exact Pt.Ok.below (w := x) ⟨h2, hcs, hcm, hL, fun b e => by cases e; exact h2l⟩ hb
  ·exact Pt.Ok.below (w := x) ⟨h3, by show 1 ≤ 1; omega, by show 1 ≤ maxLen; decide, oct_zero, fun b e => by cases e; exact h3l⟩ hb
  ·exact Pt.Ok.below (w := x) ⟨h4, by show 8 ≤ 8; omega, by show 8 ≤ maxLen; decide, o8_octs e, fun b e => by cases e; exact h4l⟩ hb
 have ec : cat [(⟨some ⟨g1, 0, none⟩, 32, k⟩ : Pt), ⟨some ⟨gs, 0, none⟩, cs, L⟩, ⟨some ⟨gz, 0, none⟩, 1, [0]⟩, ⟨some ⟨g8, 0, none⟩, 8, o8 e⟩] = derT k L e := by unfold cat derT; simp
 have hl := derT_length hk L e
 have h := summed_in 7 oct7 (some ⟨x.heap.size, 0, none⟩) 4 4 _ x3 rfl (by omega) (four_parts (p1 := ⟨some ⟨g1, 0, none⟩, 32, k⟩) (p2 := ⟨some ⟨gs, 0, none⟩, cs, L⟩) (p3 := ⟨some ⟨gz, 0, none⟩, 1, [0]⟩) (p4 := ⟨some ⟨g8, 0, none⟩, 8, o8 e⟩) hB) hps (by rw [ec, hl]; omega)
 rw [ec, hl] at h
 exact h
theorem Derive_ok (k : List Int) (hk : k.length = 32) (ok : Octs k) (L : List Int) (hL : Octs L) (hname : isName (strOfNums L) = true) (e : Int) (he : 0 ≤ e ∧ e ≤ 4294967295) (w : World) :
  Calls Tryz.prog 102 #[.agg (k.map (Value.int .u8)).toArray, .string (strOfNums L), .int .i64 e] w fun r w' => r = .returned (.tuple #[.agg ((deriveL k L e).map (Value.int .u8)).toArray, .int .i64 0]) ∧ Below w.heap.size w w' := by
 obtain ⟨B, hsz⟩ := szE w
 obtain ⟨K, HK⟩ := hidE (k.map (Value.int .u8))
 have hKl : K.length = 32 := by rw [HK.out, List.length_map, hk]
 obtain ⟨Z, HZ⟩ := hidE ((List.replicate 32 (0 : Int)).map (Value.int .u8))
 have hzK := hid zeroKey
 rw [← HZ.out] at hzK
 have hZl : Z.length = 32 := by rw [HZ.out]; simp
 obtain ⟨Z8, HZ8⟩ := hidE ((List.replicate 8 (0 : Int)).map (Value.int .u8))
 have hz8 := hid zeroA8
 rw [← HZ8.out] at hz8
 have hZ8l : Z8.length = 8 := by rw [HZ8.out]; rfl
 obtain ⟨O, HO⟩ := hidE ((o8 e).map (Value.int .u8))
 have hOl : O.length = 8 := by rw [HO.out]; rfl
 have hO1 : ∀ u ∈ O, u.oneCell' = true := by rw [HO.out]; exact ints_one _ _
 obtain ⟨S, HS⟩ : ∃ S : List Value, Hid (S = (deriveL k L e).map (Value.int .u8)) := ⟨_, rfl⟩
 have hSl : S.length = 32 := by rw [HS.out, List.length_map, deriveL_length]
 have hS1 : ∀ u ∈ S, u.oneCell' = true := by rw [HS.out]; exact ints_one _ _
 have hLn : L.length ≤ 32 := by
  have h1 := hname
  unfold isName at h1
  rw [strOfNums_size] at h1
  simp at h1
  exact h1.2.2
 have hin := fun w => hid (IsName_any (strOfNums L) w (by rw [strOfNums_size]; unfold maxLen; omega))
 rw [hname] at hin
 have hlo := fun w => hid (longOctets e w ⟨he.1, by omega⟩)
 rw [← HO.out] at hlo
 obtain ⟨s, Hs⟩ := hidE (strOfNums L)
 have hss : s.size = L.length := by rw [Hs.out, strOfNums_size]
 rw [← Hs.out] at hin ⊢
 have hal : Tryz.prog.arrayLen 23 = 32 := by kernel_rfl
 have hal8 : Tryz.prog.arrayLen 280 = 8 := by kernel_rfl
 have hkc := fun w => Lib.run_convert_string_bytes (P := Tryz.prog) w 9 61 5 s Tryz.underlying9 Tryz.underlying61 Tryz.underlying5
 rw [← HK.out, ← HS.out]
 have he1 := he.1
 have he2 : ¬ 4294967295 < e := by omega
 have HKK := hid hk
 clear hk hname
 go_enter Tryz.func102, Tryz.ntmps102
 go_wp2_with (first | (refine wl_boxV rfl 23 _ rfl K rfl B hsz ?_; intro w0 hB0 hb0 hs0) | (refine wl_allocV rfl 23 rfl Z hzK.out (B + 1) hs0 ?_; intro w1 hR1 hb1 hs1; have hB1 := hB0.below hb1 (by omega); have bb1 := hb0.trans (hb1.mono (by omega : B ≤ _)); clear hB0 hb0 hb1) | (go_at_call 185; refine (hin w1).out.mono ?_; rintro r w' ⟨rfl, rfl⟩) | (go_at_call 186; refine (hlo w1).out.mono ?_; rintro r w2 ⟨rfl, hb2⟩; have hB2 := hB1.below hb2 (by omega); have hR2 := hR1.below hb2 (by omega); have bb2 := bb1.trans (hb2.mono (by omega : B ≤ _)); have hs2 := hb2.size; clear hB1 hR1 bb1 hb2) | (refine wl_allocV rfl 280 rfl Z8 hz8.out w2.heap.size rfl ?_; intro w3 hO3 hb3 hs3; have hB3 := hB2.below hb3 (by omega); have hR3 := hR2.below hb3 (by omega); have bb3 := bb2.trans (hb3.mono (by omega : B ≤ _)); clear hB2 hR2 bb2 hb3) | (refine wl_storeV rfl 280 _ _ rfl 280 w2.heap.size rfl O rfl 8 agg8 hOl Z8 hO3 hZ8l hO1 ?_; intro w4 hO4 hb4 hs4; have hB4 := hB3.below hb4 (by omega); have hR4 := hR3.below hb4 (by omega); have bb4 := bb3.trans (hb4.mono (by omega : B ≤ _)); clear hB3 hR3 bb3 hb4 hO3))
 have hend : ∀ w', SumOk w' (w2.heap.size + 1 + 1 + 1 + 1) (hs.start 7) (derT k L e) ((41 + L.length : Nat) : Int) → Hid (Calls Tryz.prog 182 #[.pointer (some ⟨w2.heap.size + 1 + 1 + 1 + 1, 0, none⟩)] w' fun r w'' => r = .returned (.agg S.toArray) ∧ Below w'.heap.size w' w'') := fun w' h => by
  rw [HS.out]; exact sum_ok (w2.heap.size + 1 + 1 + 1 + 1) 7 (derT k L e) (41 + L.length) w' oct7 (derT_length HKK.out L e).symm (by omega) h
 obtain ⟨g8, HG8⟩ := hidE w2.heap.size
 rw [← HG8.out] at hO4 ⊢
 obtain ⟨M, HM⟩ := hidE w4.heap.size
 have hMs : w4.heap.size = M := HM.out.symm
 have hB4l : B + 1 < M := by rw [HM.out]; exact hR4.lt
 have hg8l : g8 < M := by rw [HM.out]; exact hO4.lt
 refine wp_region_held_drew (S := (fun _ => True)) (by kernel_rfl) trivial (fun hHeld => ?_)
 refine take_l (i := 0) (v := ?v0) rfl (by kernel_rfl) (by kernel_rfl) (by kernel_rfl) (fun _ _ _ h => h) (Or.inl ⟨by rfl, ?hy0⟩) (by assumption) ?rest0
 case hy0 => (intro w hSw; (try dsimp only at hSw); go_simp; (try with_reducible rfl))
 try simp only [Act.put, fpA, fpZ, fpN]
 refine take_l (i := 1) (v := ?v1) rfl (by kernel_rfl) (by kernel_rfl) (by kernel_rfl) (fun _ _ _ h => h) (Or.inl ⟨by rfl, ?hy1⟩) (by assumption) ?rest1
 case hy1 => (intro w hSw; (try dsimp only at hSw); go_simp; (try with_reducible rfl))
 try simp only [Act.put, fpA, fpZ, fpN]
 refine take_l (i := 4) (v := ?v4) rfl (by kernel_rfl) (by kernel_rfl) (by kernel_rfl) (fun _ _ _ h => h) (Or.inl ⟨by rfl, ?hy4⟩) (by assumption) ?rest4
 case hy4 => (intro w hSw; (try dsimp only at hSw); go_simp; (try with_reducible rfl))
 try simp only [Act.put, fpA, fpZ, fpN]
 refine e2 2 3 rfl rfl (fun K' hK' => ?_) fun K' hK' => ?_
 ·rw [if_pos (by rfl)]
  go_simp
  have hxs : (Lib.bytesWorld w4.drew 5 s).heap.size = w2.heap.size + 1 + 1 := by rw [Lib.bytesWorld_size]; show w4.heap.size + 1 = _; omega
  have hxb : Below w4.heap.size w4 (Lib.bytesWorld w4.drew 5 s) := ((Below.refl _ _).drew).trans (below_bytes w4.drew 5 s)
  have ed : w4.drew.heap.size = w2.heap.size + 1 := by show w4.heap.size = _; omega
  have hrow := row_bytes w4.drew 5 hL
  rw [← Hs.out, ed] at hrow
  have hc1 := grownCap_ge w4.drew L.length 0 5
  have hc2 := grownCap_le_maxLen w4.drew L.length 0 5 (by unfold maxLen; omega)
  obtain ⟨cs, HCS⟩ := hidE (grownCap w4.drew L.length 0 5)
  rw [← HCS.out] at hc1 hc2 ⊢
  obtain ⟨x1, HX1⟩ := hidE (Lib.bytesWorld w4.drew 5 s)
  rw [← HX1.out] at hxs hxb hrow ⊢
  refine ko hK' trivial fun hHeld => ?_
  clear hK' K'
  refine e1 3 rfl fun K' hK' => ?_
  rw [if_pos (by rfl)]
  go_simp
  have hx2b0 : Below w4.heap.size w4 (x1.alloc (.cells #[.int .u8 0] 5)) := hxb.alloc hxb.size _
  have hx2s0 : (x1.alloc (.cells #[.int .u8 0] 5)).heap.size = w2.heap.size + 1 + 1 + 1 := by simp [hxs]
  have h20 : RowI .u8 (x1.alloc (.cells #[.int .u8 0] 5)) (some ⟨w2.heap.size + 1, 0, none⟩) L := hrow.below ((Below.refl _ _).alloc (Nat.le_refl _) _)
  have h30 : RowI .u8 (x1.alloc (.cells #[.int .u8 0] 5)) (some ⟨w2.heap.size + 1 + 1, 0, none⟩) [0] := by have := (BlkI.new .u8 5 x1 [0]).row; rw [hxs] at this; exact this
  obtain ⟨x2, HX2⟩ := hidE (x1.alloc (.cells #[.int .u8 0] 5))
  rw [← HX2.out] at hx2b0 hx2s0 h20 h30 ⊢
  have hx2b := hx2b0
  have hx2s := hx2s0
  have h2 := h20
  have h3 := h30
  clear hx2b0 hx2s0 h20 h30
  refine ko hK' trivial fun hHeld => ?_
  clear hK' K'
  refine e1 5 rfl fun K' hK' => ?_
  rw [if_pos (by rfl)]
  go_simp
  refine ko hK' trivial fun hHeld => ?_
  clear hK' K'
  refine e1 6 rfl fun K' hK' => ?_
  rw [if_pos (by rfl)]
  go_simp
  go_at_call 181
  have h1 : RowI .u8 x2 (some ⟨B, 0, none⟩) k := (BlkI.row (by rw [HK.out] at hB4; exact hB4)).below hx2b
  have h4 : RowI .u8 x2 (some ⟨g8, 0, none⟩) (o8 e) := (BlkI.row (by rw [HO.out] at hO4; exact hO4)).below hx2b
  refine (sum_parts k L e HKK.out ok hL hLn x2 B (w2.heap.size + 1) (w2.heap.size + 1 + 1) g8 cs L.length rfl h1 (by omega) h2 (by omega) hc1 hc2 h3 (by omega) h4 (by omega) _ rfl (w2.heap.size + 1 + 1 + 1) hx2s).mono ?_
  rintro r w5 ⟨hb5, rfl, hS5⟩
  have ha : (x2.alloc (.cells #[.slice (some ⟨B, 0, none⟩) 32 32, .slice (some ⟨w2.heap.size + 1, 0, none⟩) L.length cs, .slice (some ⟨w2.heap.size + 1 + 1, 0, none⟩) 1 1, .slice (some ⟨g8, 0, none⟩) 8 8] 61)).heap.size = w2.heap.size + 1 + 1 + 1 + 1 := by simp [hx2s]
  rw [ha] at hb5 hS5 ⊢
  have hR5 := (((hR4.below hx2b (by omega)).alloc (.cells #[.slice (some ⟨B, 0, none⟩) 32 32, .slice (some ⟨w2.heap.size + 1, 0, none⟩) L.length cs, .slice (some ⟨w2.heap.size + 1 + 1, 0, none⟩) 1 1, .slice (some ⟨g8, 0, none⟩) 8 8] 61))).below hb5 (by omega)
  have bb5 : Below B w w5 := ((bb4.trans (hx2b.mono (by omega))).alloc (by omega) _).trans (hb5.mono (by omega))
  have hlt5 := hS5.lt
  refine ko hK' trivial fun hHeld => ?_
  clear hK' K'
  refine take_l (i := 7) (v := ?v7) rfl (by kernel_rfl) (by kernel_rfl) (by kernel_rfl) (fun _ _ _ h => h) (Or.inl ⟨by rfl, ?hy7⟩) (by assumption) ?rest7
  case hy7 => (intro w hSw; (try dsimp only at hSw); go_simp; (try with_reducible rfl))
  try simp only [Act.put, fpA, fpZ, fpN]
  refine take_l (i := 8) (v := ?v8) rfl (by kernel_rfl) (by kernel_rfl) (by kernel_rfl) (fun _ _ _ h => h) (Or.inl ⟨by rfl, ?hy8⟩) (by assumption) ?rest8
  case hy8 => (intro w hSw; (try dsimp only at hSw); go_simp; (try with_reducible rfl))
  try simp only [Act.put, fpA, fpZ, fpN]
  refine take_l (i := 9) (v := ?v9) rfl (by kernel_rfl) (by kernel_rfl) (by kernel_rfl) (fun _ _ _ h => h) (Or.inl ⟨by rfl, ?hy9⟩) (by assumption) ?rest9
  case hy9 => (intro w hSw; (try dsimp only at hSw); go_simp; (try with_reducible rfl))
  try simp only [Act.put, fpA, fpZ, fpN]
  refine take_l (i := 10) (v := ?v10) rfl (by kernel_rfl) (by kernel_rfl) (by kernel_rfl) (fun _ _ _ h => h) (Or.inl ⟨by rfl, ?hy10⟩) (by assumption) ?rest10
  case hy10 => (intro w hSw; (try dsimp only at hSw); go_simp; (try with_reducible rfl))
  try simp only [Act.put, fpA, fpZ, fpN]
  refine take_l (i := 11) (v := ?v11) rfl (by kernel_rfl) (by kernel_rfl) (by kernel_rfl) (fun _ _ _ h => h) (Or.inl ⟨by rfl, ?hy11⟩) (by assumption) ?rest11
  case hy11 => (intro w hSw; (try dsimp only at hSw); go_simp; (try with_reducible rfl))
  try simp only [Act.put, fpA, fpZ, fpN]
  refine wpAnyH_done (by kernel_rfl) ?_ _
  go_wp2_with (first | (go_at_call 182; refine (hend w5 hS5).out.mono ?_; rintro r w6 ⟨rfl, hb6⟩; have hR6 := hR5.below hb6 (by omega); have bb6 := bb5.trans (hb6.mono (by omega : B ≤ _)); clear hR5 bb5 hb6 hS5) | (refine wl_storeV rfl 23 _ _ rfl 23 (B + 1) rfl S rfl 32 aggKey hSl Z hR6 hZl hS1 ?_; intro w7 hR7 hb7 hs7))
  (try simp only [Exit.inBlock, Exit.then]); refine bodyPost_ret (results_cell2 rfl _ _ _ _ rfl S (by rw [hSl]; exact aggKey) hR7.at0) rfl ?_
  exact ⟨rfl, by first | exact bb6.trans (hb7.mono (by omega)) | (rw [hsz]; exact bb6.trans (hb7.mono (by omega)))⟩
 ·rw [if_pos (by rfl)]
  go_simp
  have hxb : Below w4.heap.size w4 (w4.alloc (.cells #[.int .u8 0] 5)).drew := ((Below.refl _ _).alloc (Nat.le_refl _) _).drew
  have hxs : (w4.alloc (.cells #[.int .u8 0] 5)).drew.heap.size = w2.heap.size + 1 + 1 := by show (w4.alloc _).heap.size = _; simp; omega
  have h30 : RowI .u8 (w4.alloc (.cells #[.int .u8 0] 5)).drew (some ⟨w2.heap.size + 1, 0, none⟩) [0] := by have h := (BlkI.new .u8 5 w4 [0]).row; rw [show w4.heap.size = w2.heap.size + 1 by omega] at h; exact h
  obtain ⟨x1, HX1⟩ := hidE ((w4.alloc (.cells #[.int .u8 0] 5)).drew)
  rw [← HX1.out] at hxs hxb h30 ⊢
  refine ko hK' trivial fun hHeld => ?_
  clear hK' K'
  refine e1 2 rfl fun K' hK' => ?_
  rw [if_pos (by rfl)]
  go_simp
  have hx2s : (Lib.bytesWorld x1 5 s).heap.size = w2.heap.size + 1 + 1 + 1 := by rw [Lib.bytesWorld_size, hxs]
  have hbb := below_bytes x1 5 s
  have hx2b : Below w4.heap.size w4 (Lib.bytesWorld x1 5 s) := hxb.trans (hbb.mono hxb.size)
  have h2 := row_bytes x1 5 hL
  rw [← Hs.out, hxs] at h2
  have h3 := h30.below hbb
  have hc1 := grownCap_ge x1 L.length 0 5
  have hc2 := grownCap_le_maxLen x1 L.length 0 5 (by unfold maxLen; omega)
  obtain ⟨cs, HCS⟩ := hidE (grownCap x1 L.length 0 5)
  rw [← HCS.out] at hc1 hc2 ⊢
  obtain ⟨x2, HX2⟩ := hidE (Lib.bytesWorld x1 5 s)
  rw [← HX2.out] at hx2s hx2b h2 h3 ⊢
  clear hbb h30
  refine ko hK' trivial fun hHeld => ?_
  clear hK' K'
  refine e1 5 rfl fun K' hK' => ?_
  rw [if_pos (by rfl)]
  go_simp
  refine ko hK' trivial fun hHeld => ?_
  clear hK' K'
  refine e1 6 rfl fun K' hK' => ?_
  rw [if_pos (by rfl)]
  go_simp
  go_at_call 181
  have h1 : RowI .u8 x2 (some ⟨B, 0, none⟩) k := (BlkI.row (by rw [HK.out] at hB4; exact hB4)).below hx2b
  have h4 : RowI .u8 x2 (some ⟨g8, 0, none⟩) (o8 e) := (BlkI.row (by rw [HO.out] at hO4; exact hO4)).below hx2b
  refine (sum_parts k L e HKK.out ok hL hLn x2 B (w2.heap.size + 1 + 1) (w2.heap.size + 1) g8 cs L.length rfl h1 (by omega) h2 (by omega) hc1 hc2 h3 (by omega) h4 (by omega) _ rfl (w2.heap.size + 1 + 1 + 1) hx2s).mono ?_
  rintro r w5 ⟨hb5, rfl, hS5⟩
  have ha : (x2.alloc (.cells #[.slice (some ⟨B, 0, none⟩) 32 32, .slice (some ⟨w2.heap.size + 1 + 1, 0, none⟩) L.length cs, .slice (some ⟨w2.heap.size + 1, 0, none⟩) 1 1, .slice (some ⟨g8, 0, none⟩) 8 8] 61)).heap.size = w2.heap.size + 1 + 1 + 1 + 1 := by simp [hx2s]
  rw [ha] at hb5 hS5 ⊢
  have hR5 := (((hR4.below hx2b (by omega)).alloc (.cells #[.slice (some ⟨B, 0, none⟩) 32 32, .slice (some ⟨w2.heap.size + 1 + 1, 0, none⟩) L.length cs, .slice (some ⟨w2.heap.size + 1, 0, none⟩) 1 1, .slice (some ⟨g8, 0, none⟩) 8 8] 61))).below hb5 (by omega)
  have bb5 : Below B w w5 := ((bb4.trans (hx2b.mono (by omega))).alloc (by omega) _).trans (hb5.mono (by omega))
  have hlt5 := hS5.lt
  refine ko hK' trivial fun hHeld => ?_
  clear hK' K'
  refine take_l (i := 7) (v := ?zv7) rfl (by kernel_rfl) (by kernel_rfl) (by kernel_rfl) (fun _ _ _ h => h) (Or.inl ⟨by rfl, ?zhy7⟩) (by assumption) ?zrest7
  case zhy7 => (intro w hSw; (try dsimp only at hSw); go_simp; (try with_reducible rfl))
  try simp only [Act.put, fpA, fpZ, fpN]
  refine take_l (i := 8) (v := ?zv8) rfl (by kernel_rfl) (by kernel_rfl) (by kernel_rfl) (fun _ _ _ h => h) (Or.inl ⟨by rfl, ?zhy8⟩) (by assumption) ?zrest8
  case zhy8 => (intro w hSw; (try dsimp only at hSw); go_simp; (try with_reducible rfl))
  try simp only [Act.put, fpA, fpZ, fpN]
  refine take_l (i := 9) (v := ?zv9) rfl (by kernel_rfl) (by kernel_rfl) (by kernel_rfl) (fun _ _ _ h => h) (Or.inl ⟨by rfl, ?zhy9⟩) (by assumption) ?zrest9
  case zhy9 => (intro w hSw; (try dsimp only at hSw); go_simp; (try with_reducible rfl))
  try simp only [Act.put, fpA, fpZ, fpN]
  refine take_l (i := 10) (v := ?zv10) rfl (by kernel_rfl) (by kernel_rfl) (by kernel_rfl) (fun _ _ _ h => h) (Or.inl ⟨by rfl, ?zhy10⟩) (by assumption) ?zrest10
  case zhy10 => (intro w hSw; (try dsimp only at hSw); go_simp; (try with_reducible rfl))
  try simp only [Act.put, fpA, fpZ, fpN]
  refine take_l (i := 11) (v := ?zv11) rfl (by kernel_rfl) (by kernel_rfl) (by kernel_rfl) (fun _ _ _ h => h) (Or.inl ⟨by rfl, ?zhy11⟩) (by assumption) ?zrest11
  case zhy11 => (intro w hSw; (try dsimp only at hSw); go_simp; (try with_reducible rfl))
  try simp only [Act.put, fpA, fpZ, fpN]
  refine wpAnyH_done (by kernel_rfl) ?_ _
  go_wp2_with (first | (go_at_call 182; refine (hend w5 hS5).out.mono ?_; rintro r w6 ⟨rfl, hb6⟩; have hR6 := hR5.below hb6 (by omega); have bb6 := bb5.trans (hb6.mono (by omega : B ≤ _)); clear hR5 bb5 hb6 hS5) | (refine wl_storeV rfl 23 _ _ rfl 23 (B + 1) rfl S rfl 32 aggKey hSl Z hR6 hZl hS1 ?_; intro w7 hR7 hb7 hs7))
  (try simp only [Exit.inBlock, Exit.then]); refine bodyPost_ret (results_cell2 rfl _ _ _ _ rfl S (by rw [hSl]; exact aggKey) hR7.at0) rfl ?_
  exact ⟨rfl, by first | exact bb6.trans (hb7.mono (by omega)) | (rw [hsz]; exact bb6.trans (hb7.mono (by omega)))⟩
end Go.Proofs.YtdhipjoplkpgmaaGreatDoor.wr
