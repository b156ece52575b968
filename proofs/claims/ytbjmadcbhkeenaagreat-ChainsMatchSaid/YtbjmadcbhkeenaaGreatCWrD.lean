/-
  Contract of mix.Derive where the label is a name. Conditions: a key of octets, a label of octets that is a name, an epoch in its bounds. Contract of mix.Stream from 0 on. Conditions: a key and a nonce of octets, at most 2^20 octets. Envelopes: the form, its cells, its octets; laws of the walk for arrays held against each other. Conditions: as each theorem says. An envelope among a law's arguments; a slice of octets likewise. Conditions: the types' forms. Slices of octets, and slices of such slices, among a law's arguments. Conditions: the types' forms.
-/
import Derived.Test.YtbjmadcbhkeenaaGreatCMkY
import Derived.Test.YtbjmadcbhkeenaaGreatCHld
import Derived.Test.YtbjmadcbhkeenaaGreatCShs
import Derived.Test.YtbjmadcbhkeenaaGreatCStA
import Derived.Lib.ConvBytes
set_option maxRecDepth 100000
set_option linter.unusedSimpArgs false
set_option linter.unusedVariables false
namespace Go.Proofs.YtbjmadcbhkeenaaGreat.wr
open Go.RowKit st hs shr
def derT (k L : List Int) (e : Int) : List Int := k ++ (L ++ ([0] ++ o8 e))
def deriveL (k L : List Int) (e : Int) : List Int := sumL 7 (derT k L e)
theorem deriveL_length (k L : List Int) (e : Int) : (deriveL k L e).length = 32 := sumL_length _ _
theorem zeroKey : (Tryz.prog.info? 23).map (·.zero) = some (some (.agg ((List.replicate 32 (0 : Int)).map (Value.int .u8)).toArray)) := by kernel_rfl
theorem four_parts {w : World} {p1 p2 p3 p4 : Pt} {g : Nat} {t : TypeId} (hB : BlkV t w g [p1.v, p2.v, p3.v, p4.v]) : RowV w (some ⟨g, 0, none⟩) ([p1, p2, p3, p4].map Pt.v) :=
 Or.inr ⟨g, 0, rfl, hB.lt, fun j u hu => by rw [Nat.zero_add, hB.cell]; exact hu⟩
theorem str_cells {L : List Int} (ho : Octs L) (j : Nat) (hj : j < (strOfNums L).size) : (((strOfNums L).data.toList.getD j 0).toNat : Int) = L.getD j 0 := by
 have hj' : j < L.length := by rw [strOfNums_size] at hj; exact hj
 rw [strOfNums_data]
 have h1 := ho.getD j
 unfold Oct at h1
 rw [getD_lt' L 0 hj'] at h1 ⊢
 simp only [List.getD_eq_getElem?_getD, List.getElem?_map, List.getElem?_eq_getElem hj', Option.map_some, Option.getD_some]
 rw [UInt8.toNat_ofNat_of_lt' (by have := h1.2; show (L[j]).toNat < 256; omega)]
 omega
theorem below_bytes (w : World) (e : TypeId) (s : ByteArray) : Below w.heap.size w (Lib.bytesWorld w e s) :=
 ⟨by simp [Lib.bytesWorld, World.freeze, World.alloc, World.drew, -World.alloc_eq, -World.drew_eq], by simp [Lib.bytesWorld, World.freeze, World.alloc, World.drew, -World.alloc_eq, -World.drew_eq], by simp [Lib.bytesWorld, World.freeze, World.alloc, World.drew, -World.alloc_eq, -World.drew_eq], by rw [Lib.bytesWorld_size]; omega, fun k hk => Lib.bytesWorld_at_old w e s k hk⟩
theorem row_bytes (w : World) (e : TypeId) {L : List Int} (ho : Octs L) : RowI .u8 (Lib.bytesWorld w e (strOfNums L)) (some ⟨w.heap.size, 0, none⟩) L := by
 refine Or.inr ⟨w.heap.size, 0, rfl, by rw [Lib.bytesWorld_size]; omega, fun j hj => ?_⟩
 rw [Nat.zero_add, Lib.bytesWorld_cell w e _ j (by rw [strOfNums_size]; exact hj), str_cells ho j (by rw [strOfNums_size]; exact hj)]
theorem oct_zero : Octs [0] := by intro c hc; simp at hc; subst hc; exact ⟨by decide, by decide⟩
theorem derT_length {k : List Int} (hk : k.length = 32) (L : List Int) (e : Int) : (derT k L e).length = 41 + L.length := by
 unfold derT
 simp only [List.length_append, hk]
 have : (o8 e).length = 8 := rfl
 simp only [List.length_cons, List.length_nil, this]; omega
theorem sum_parts (k L : List Int) (e : Int) (hk : k.length = 32) (ok : Octs k) (hL : Octs L) (hLn : L.length ≤ 32) (x : World) (g1 gs gz g8 cs : Nat) (n : Nat) (hn : n = L.length) (h1 : RowI .u8 x (some ⟨g1, 0, none⟩) k) (h1l : g1 < x.heap.size) (h2 : RowI .u8 x (some ⟨gs, 0, none⟩) L) (h2l : gs < x.heap.size) (hcs : n ≤ cs) (hcm : cs ≤ maxLen) (h3 : RowI .u8 x (some ⟨gz, 0, none⟩) [0]) (h3l : gz < x.heap.size) (h4 : RowI .u8 x (some ⟨g8, 0, none⟩) (o8 e)) (h4l : g8 < x.heap.size)
  (x3 : World) (hx3 : x3 = x.alloc (.cells #[.slice (some ⟨g1, 0, none⟩) 32 32, .slice (some ⟨gs, 0, none⟩) n cs, .slice (some ⟨gz, 0, none⟩) 1 1, .slice (some ⟨g8, 0, none⟩) 8 8] 25)) (g : Nat) (hg : x.heap.size = g) :
  Calls Tryz.prog 41 #[.int .i64 7, .slice (some ⟨g, 0, none⟩) 4 4] x3 fun r w' => Below x3.heap.size x3 w' ∧ r = .returned (.tuple #[.pointer (some ⟨x3.heap.size, 0, none⟩), .int .i64 0]) ∧ SumOk w' x3.heap.size (hs.start 7) (derT k L e) ((41 + L.length : Nat) : Int) := by
 subst hg hn
 have hb : Below x.heap.size x x3 := by rw [hx3]; exact (Below.refl _ _).alloc (Nat.le_refl _) _
 have hB : BlkV 25 x3 x.heap.size [.slice (some ⟨g1, 0, none⟩) k.length 32, .slice (some ⟨gs, 0, none⟩) L.length cs, .slice (some ⟨gz, 0, none⟩) ([0] : List Int).length 1, .slice (some ⟨g8, 0, none⟩) (o8 e).length 8] := by
  rw [hx3, hk]; exact BlkV.new _ _ _ rfl
 have h8 : (o8 e).length = 8 := rfl
 have hps : ∀ p ∈ [(⟨some ⟨g1, 0, none⟩, 32, k⟩ : Pt), ⟨some ⟨gs, 0, none⟩, cs, L⟩, ⟨some ⟨gz, 0, none⟩, 1, [0]⟩, ⟨some ⟨g8, 0, none⟩, 8, o8 e⟩], p.Ok x3 := by
  intro p hp
  simp only [List.mem_cons, List.not_mem_nil, or_false] at hp
  rcases hp with rfl | rfl | rfl | rfl
  ·exact Pt.Ok.below (w := x) ⟨h1, by show k.length ≤ 32; omega, by show 32 ≤ maxLen; decide, ok, fun b e => by cases e; exact h1l⟩ hb
  ·exact Pt.Ok.below (w := x) ⟨h2, hcs, hcm, hL, fun b e => by cases e; exact h2l⟩ hb
  ·exact Pt.Ok.below (w := x) ⟨h3, by show 1 ≤ 1; omega, by show 1 ≤ maxLen; decide, oct_zero, fun b e => by cases e; exact h3l⟩ hb
  ·exact Pt.Ok.below (w := x) ⟨h4, by show 8 ≤ 8; omega, by show 8 ≤ maxLen; decide, o8_octs e, fun b e => by cases e; exact h4l⟩ hb
 have ec : cat [(⟨some ⟨g1, 0, none⟩, 32, k⟩ : Pt), ⟨some ⟨gs, 0, none⟩, cs, L⟩, ⟨some ⟨gz, 0, none⟩, 1, [0]⟩, ⟨some ⟨g8, 0, none⟩, 8, o8 e⟩] = derT k L e := by unfold cat derT; simp
 have hl := derT_length hk L e
 have h := summed_in 7 oct7 (some ⟨x.heap.size, 0, none⟩) 4 4 _ x3 rfl (by omega) (four_parts (p1 := ⟨some ⟨g1, 0, none⟩, 32, k⟩) (p2 := ⟨some ⟨gs, 0, none⟩, cs, L⟩) (p3 := ⟨some ⟨gz, 0, none⟩, 1, [0]⟩) (p4 := ⟨some ⟨g8, 0, none⟩, 8, o8 e⟩) hB) hps (by rw [ec, hl]; omega)
 rw [ec, hl] at h
 exact h
set_option maxHeartbeats 2000000 in
theorem Derive_ok (k : List Int) (hk : k.length = 32) (ok : Octs k) (L : List Int) (hL : Octs L) (hname : isName (strOfNums L) = true) (e : Int) (he : 0 ≤ e ∧ e ≤ 4294967295) (w : World) :
  Calls Tryz.prog 69 #[.agg (k.map (Value.int .u8)).toArray, .string (strOfNums L), .int .i64 e] w fun r w' => r = .returned (.tuple #[.agg ((deriveL k L e).map (Value.int .u8)).toArray, .int .i64 0]) ∧ Below w.heap.size w w' := by
 obtain ⟨B, HB⟩ : ∃ B, Hid (B = w.heap.size) := ⟨_, rfl⟩
 have hsz : w.heap.size = B := HB.out.symm
 obtain ⟨K, HK⟩ : ∃ K, Hid (K = k.map (Value.int .u8)) := ⟨_, rfl⟩
 have hKl : K.length = 32 := by rw [HK.out, List.length_map, hk]
 obtain ⟨Z, HZ⟩ : ∃ Z, Hid (Z = (List.replicate 32 (0 : Int)).map (Value.int .u8)) := ⟨_, rfl⟩
 have hzK := hid zeroKey
 rw [← HZ.out] at hzK
 have hZl : Z.length = 32 := by rw [HZ.out]; simp
 obtain ⟨Z8, HZ8⟩ : ∃ Z, Hid (Z = (List.replicate 8 (0 : Int)).map (Value.int .u8)) := ⟨_, rfl⟩
 have hz8 := hid zeroA8
 rw [← HZ8.out] at hz8
 have hZ8l : Z8.length = 8 := by rw [HZ8.out]; rfl
 obtain ⟨O, HO⟩ : ∃ O, Hid (O = (o8 e).map (Value.int .u8)) := ⟨_, rfl⟩
 have hOl : O.length = 8 := by rw [HO.out]; rfl
 have hO1 : ∀ u ∈ O, u.oneCell' = true := by rw [HO.out]; exact ints_one _ _
 obtain ⟨S, HS⟩ : ∃ S : List Value, Hid (S = (deriveL k L e).map (Value.int .u8)) := ⟨_, rfl⟩
 have hSl : S.length = 32 := by rw [HS.out, List.length_map, deriveL_length]
 have hS1 : ∀ u ∈ S, u.oneCell' = true := by rw [HS.out]; exact ints_one _ _
 have hLn : L.length ≤ 32 := by
  have h1 := hname
  unfold isName at h1
  rw [strOfNums_size] at h1
  simp at h1
  exact h1.2.2
 have hin := fun w => hid (IsName_any (strOfNums L) w (by rw [strOfNums_size]; unfold maxLen; omega))
 rw [hname] at hin
 have hlo := fun w => hid (longOctets e w ⟨he.1, by omega⟩)
 rw [← HO.out] at hlo
 obtain ⟨s, Hs⟩ : ∃ s, Hid (s = strOfNums L) := ⟨_, rfl⟩
 have hss : s.size = L.length := by rw [Hs.out, strOfNums_size]
 rw [← Hs.out] at hin ⊢
 have hal : Tryz.prog.arrayLen 23 = 32 := by kernel_rfl
 have hal8 : Tryz.prog.arrayLen 145 = 8 := by kernel_rfl
 have hkc := fun w => Lib.run_convert_string_bytes (P := Tryz.prog) w 9 25 5 s Tryz.underlying9 Tryz.underlying25 Tryz.underlying5
 rw [← HK.out, ← HS.out]
 have he1 := he.1
 have he2 : ¬ 4294967295 < e := by omega
 have HKK := hid hk
 clear hk hname
 go_enter Tryz.func69, Tryz.ntmps69
 go_wp2_with (first | (refine wl_boxV rfl 23 _ rfl K rfl B hsz ?_; intro w0 hB0 hb0 hs0) | (refine wl_allocV rfl 23 rfl Z hzK.out (B + 1) hs0 ?_; intro w1 hR1 hb1 hs1; have hB1 := hB0.below hb1 (by omega); have bb1 := hb0.trans (hb1.mono (by omega : B ≤ _)); clear hB0 hb0 hb1) | (go_at_call 98; refine (hin w1).out.mono ?_; rintro r w' ⟨rfl, rfl⟩) | (go_at_call 96; refine (hlo w1).out.mono ?_; rintro r w2 ⟨rfl, hb2⟩; have hB2 := hB1.below hb2 (by omega); have hR2 := hR1.below hb2 (by omega); have bb2 := bb1.trans (hb2.mono (by omega : B ≤ _)); have hs2 := hb2.size; clear hB1 hR1 bb1 hb2) | (refine wl_allocV rfl 145 rfl Z8 hz8.out w2.heap.size rfl ?_; intro w3 hO3 hb3 hs3; have hB3 := hB2.below hb3 (by omega); have hR3 := hR2.below hb3 (by omega); have bb3 := bb2.trans (hb3.mono (by omega : B ≤ _)); clear hB2 hR2 bb2 hb3) | (refine wl_storeV rfl 145 _ _ rfl 145 w2.heap.size rfl O rfl 8 agg8 hOl Z8 hO3 hZ8l hO1 ?_; intro w4 hO4 hb4 hs4; have hB4 := hB3.below hb4 (by omega); have hR4 := hR3.below hb4 (by omega); have bb4 := bb3.trans (hb4.mono (by omega : B ≤ _)); clear hB3 hR3 bb3 hb4 hO3))
 have hend : ∀ w', SumOk w' (w2.heap.size + 1 + 1 + 1 + 1) (hs.start 7) (derT k L e) ((41 + L.length : Nat) : Int) → Hid (Calls Tryz.prog 42 #[.pointer (some ⟨w2.heap.size + 1 + 1 + 1 + 1, 0, none⟩)] w' fun r w'' => r = .returned (.agg S.toArray) ∧ Below w'.heap.size w' w'') := fun w' h => by
  rw [HS.out]; exact sum_ok (w2.heap.size + 1 + 1 + 1 + 1) 7 (derT k L e) (41 + L.length) w' oct7 (derT_length HKK.out L e).symm (by omega) h
 obtain ⟨g8, HG8⟩ : ∃ g, Hid (g = w2.heap.size) := ⟨_, rfl⟩
 rw [← HG8.out] at hO4 ⊢
 obtain ⟨M, HM⟩ : ∃ M, Hid (M = w4.heap.size) := ⟨_, rfl⟩
 have hMs : w4.heap.size = M := HM.out.symm
 have hB4l : B + 1 < M := by rw [HM.out]; exact hR4.lt
 have hg8l : g8 < M := by rw [HM.out]; exact hO4.lt
 refine wp_region_held_drew (S := (fun _ => True)) (by kernel_rfl) trivial (fun hHeld => ?_)
 refine take_l (i := 0) (v := ?v0) rfl (by kernel_rfl) (by kernel_rfl) (by kernel_rfl) (fun _ _ _ h => h) (Or.inl ⟨by rfl, ?hy0⟩) (by assumption) ?rest0
 case hy0 => (intro w hSw; (try dsimp only at hSw); go_simp; (try with_reducible rfl))
 try simp only [Act.put, fpA, fpZ, fpN]
 refine take_l (i := 1) (v := ?v1) rfl (by kernel_rfl) (by kernel_rfl) (by kernel_rfl) (fun _ _ _ h => h) (Or.inl ⟨by rfl, ?hy1⟩) (by assumption) ?rest1
 case hy1 => (intro w hSw; (try dsimp only at hSw); go_simp; (try with_reducible rfl))
 try simp only [Act.put, fpA, fpZ, fpN]
 refine take_l (i := 4) (v := ?v4) rfl (by kernel_rfl) (by kernel_rfl) (by kernel_rfl) (fun _ _ _ h => h) (Or.inl ⟨by rfl, ?hy4⟩) (by assumption) ?rest4
 case hy4 => (intro w hSw; (try dsimp only at hSw); go_simp; (try with_reducible rfl))
 try simp only [Act.put, fpA, fpZ, fpN]
 refine wpAnyH_ready (rs := [2, 3]) (by kernel_rfl) (by simp) (cons_l rfl (fun K' hK' => ?_) (cons_l rfl (fun K' hK' => ?_) AllReadyH.nil))
 ·rw [if_pos (by rfl)]
  go_simp
  have hxs : (Lib.bytesWorld w4.drew 5 s).heap.size = w2.heap.size + 1 + 1 := by rw [Lib.bytesWorld_size]; show w4.heap.size + 1 = _; omega
  have hxb : Below w4.heap.size w4 (Lib.bytesWorld w4.drew 5 s) := ((Below.refl _ _).drew).trans (below_bytes w4.drew 5 s)
  have ed : w4.drew.heap.size = w2.heap.size + 1 := by show w4.heap.size = _; omega
  have hrow := row_bytes w4.drew 5 hL
  rw [← Hs.out, ed] at hrow
  have hc1 := grownCap_ge w4.drew L.length 0 5
  have hc2 := grownCap_le_maxLen w4.drew L.length 0 5 (by unfold maxLen; omega)
  obtain ⟨cs, HCS⟩ : ∃ c, Hid (c = grownCap w4.drew L.length 0 5) := ⟨_, rfl⟩
  rw [← HCS.out] at hc1 hc2 ⊢
  obtain ⟨x1, HX1⟩ : ∃ x, Hid (x = Lib.bytesWorld w4.drew 5 s) := ⟨_, rfl⟩
  rw [← HX1.out] at hxs hxb hrow ⊢
  refine hK'.out _ _ trivial (fun hHeld => ?_)
  clear hK' K'
  try simp only [Act.put, fpA, fpZ, fpN]
  refine wpAnyH_ready (rs := [3]) (by kernel_rfl) (by simp) (cons_l rfl (fun K' hK' => ?_) AllReadyH.nil)
  rw [if_pos (by rfl)]
  go_simp
  have hx2b0 : Below w4.heap.size w4 (x1.alloc (.cells #[.int .u8 0] 5)) := hxb.alloc hxb.size _
  have hx2s0 : (x1.alloc (.cells #[.int .u8 0] 5)).heap.size = w2.heap.size + 1 + 1 + 1 := by simp [hxs]
  have h20 : RowI .u8 (x1.alloc (.cells #[.int .u8 0] 5)) (some ⟨w2.heap.size + 1, 0, none⟩) L := hrow.below ((Below.refl _ _).alloc (Nat.le_refl _) _)
  have h30 : RowI .u8 (x1.alloc (.cells #[.int .u8 0] 5)) (some ⟨w2.heap.size + 1 + 1, 0, none⟩) [0] := by have := (BlkI.new .u8 5 x1 [0]).row; rw [hxs] at this; exact this
  obtain ⟨x2, HX2⟩ : ∃ x, Hid (x = x1.alloc (.cells #[.int .u8 0] 5)) := ⟨_, rfl⟩
  rw [← HX2.out] at hx2b0 hx2s0 h20 h30 ⊢
  have hx2b := hx2b0
  have hx2s := hx2s0
  have h2 := h20
  have h3 := h30
  clear hx2b0 hx2s0 h20 h30
  refine hK'.out _ _ trivial (fun hHeld => ?_)
  clear hK' K'
  try simp only [Act.put, fpA, fpZ, fpN]
  refine wpAnyH_ready (rs := [5]) (by kernel_rfl) (by simp) (cons_l rfl (fun K' hK' => ?_) AllReadyH.nil)
  rw [if_pos (by rfl)]
  go_simp
  refine hK'.out _ _ trivial (fun hHeld => ?_)
  clear hK' K'
  try simp only [Act.put, fpA, fpZ, fpN]
  refine wpAnyH_ready (rs := [6]) (by kernel_rfl) (by simp) (cons_l rfl (fun K' hK' => ?_) AllReadyH.nil)
  rw [if_pos (by rfl)]
  go_simp
  go_at_call 41
  have h1 : RowI .u8 x2 (some ⟨B, 0, none⟩) k := (BlkI.row (by rw [HK.out] at hB4; exact hB4)).below hx2b
  have h4 : RowI .u8 x2 (some ⟨g8, 0, none⟩) (o8 e) := (BlkI.row (by rw [HO.out] at hO4; exact hO4)).below hx2b
  refine (sum_parts k L e HKK.out ok hL hLn x2 B (w2.heap.size + 1) (w2.heap.size + 1 + 1) g8 cs L.length rfl h1 (by omega) h2 (by omega) hc1 hc2 h3 (by omega) h4 (by omega) _ rfl (w2.heap.size + 1 + 1 + 1) hx2s).mono ?_
  rintro r w5 ⟨hb5, rfl, hS5⟩
  have ha : (x2.alloc (.cells #[.slice (some ⟨B, 0, none⟩) 32 32, .slice (some ⟨w2.heap.size + 1, 0, none⟩) L.length cs, .slice (some ⟨w2.heap.size + 1 + 1, 0, none⟩) 1 1, .slice (some ⟨g8, 0, none⟩) 8 8] 25)).heap.size = w2.heap.size + 1 + 1 + 1 + 1 := by simp [hx2s]
  rw [ha] at hb5 hS5 ⊢
  have hR5 := (((hR4.below hx2b (by omega)).alloc (.cells #[.slice (some ⟨B, 0, none⟩) 32 32, .slice (some ⟨w2.heap.size + 1, 0, none⟩) L.length cs, .slice (some ⟨w2.heap.size + 1 + 1, 0, none⟩) 1 1, .slice (some ⟨g8, 0, none⟩) 8 8] 25))).below hb5 (by omega)
  have bb5 : Below B w w5 := ((bb4.trans (hx2b.mono (by omega))).alloc (by omega) _).trans (hb5.mono (by omega))
  have hlt5 := hS5.lt
  refine hK'.out _ _ trivial (fun hHeld => ?_)
  clear hK' K'
  try simp only [Act.put, fpA, fpZ, fpN]
  refine take_l (i := 7) (v := ?v7) rfl (by kernel_rfl) (by kernel_rfl) (by kernel_rfl) (fun _ _ _ h => h) (Or.inl ⟨by rfl, ?hy7⟩) (by assumption) ?rest7
  case hy7 => (intro w hSw; (try dsimp only at hSw); go_simp; (try with_reducible rfl))
  try simp only [Act.put, fpA, fpZ, fpN]
  refine take_l (i := 8) (v := ?v8) rfl (by kernel_rfl) (by kernel_rfl) (by kernel_rfl) (fun _ _ _ h => h) (Or.inl ⟨by rfl, ?hy8⟩) (by assumption) ?rest8
  case hy8 => (intro w hSw; (try dsimp only at hSw); go_simp; (try with_reducible rfl))
  try simp only [Act.put, fpA, fpZ, fpN]
  refine take_l (i := 9) (v := ?v9) rfl (by kernel_rfl) (by kernel_rfl) (by kernel_rfl) (fun _ _ _ h => h) (Or.inl ⟨by rfl, ?hy9⟩) (by assumption) ?rest9
  case hy9 => (intro w hSw; (try dsimp only at hSw); go_simp; (try with_reducible rfl))
  try simp only [Act.put, fpA, fpZ, fpN]
  refine take_l (i := 10) (v := ?v10) rfl (by kernel_rfl) (by kernel_rfl) (by kernel_rfl) (fun _ _ _ h => h) (Or.inl ⟨by rfl, ?hy10⟩) (by assumption) ?rest10
  case hy10 => (intro w hSw; (try dsimp only at hSw); go_simp; (try with_reducible rfl))
  try simp only [Act.put, fpA, fpZ, fpN]
  refine take_l (i := 11) (v := ?v11) rfl (by kernel_rfl) (by kernel_rfl) (by kernel_rfl) (fun _ _ _ h => h) (Or.inl ⟨by rfl, ?hy11⟩) (by assumption) ?rest11
  case hy11 => (intro w hSw; (try dsimp only at hSw); go_simp; (try with_reducible rfl))
  try simp only [Act.put, fpA, fpZ, fpN]
  refine wpAnyH_done (by kernel_rfl) ?_ _
  go_wp2_with (first | (go_at_call 42; refine (hend w5 hS5).out.mono ?_; rintro r w6 ⟨rfl, hb6⟩; have hR6 := hR5.below hb6 (by omega); have bb6 := bb5.trans (hb6.mono (by omega : B ≤ _)); clear hR5 bb5 hb6 hS5) | (refine wl_storeV rfl 23 _ _ rfl 23 (B + 1) rfl S rfl 32 aggKey hSl Z hR6 hZl hS1 ?_; intro w7 hR7 hb7 hs7))
  (try simp only [Exit.inBlock, Exit.then]); refine bodyPost_ret (results_cell2 rfl _ _ _ _ rfl S (by rw [hSl]; exact aggKey) hR7.at0) rfl ?_
  exact ⟨rfl, by first | exact bb6.trans (hb7.mono (by omega)) | (rw [hsz]; exact bb6.trans (hb7.mono (by omega)))⟩
 ·rw [if_pos (by rfl)]
  go_simp
  have hxb : Below w4.heap.size w4 (w4.alloc (.cells #[.int .u8 0] 5)).drew := ((Below.refl _ _).alloc (Nat.le_refl _) _).drew
  have hxs : (w4.alloc (.cells #[.int .u8 0] 5)).drew.heap.size = w2.heap.size + 1 + 1 := by show (w4.alloc _).heap.size = _; simp; omega
  have h30 : RowI .u8 (w4.alloc (.cells #[.int .u8 0] 5)).drew (some ⟨w2.heap.size + 1, 0, none⟩) [0] := by have h := (BlkI.new .u8 5 w4 [0]).row; rw [show w4.heap.size = w2.heap.size + 1 by omega] at h; exact h
  obtain ⟨x1, HX1⟩ : ∃ x, Hid (x = (w4.alloc (.cells #[.int .u8 0] 5)).drew) := ⟨_, rfl⟩
  rw [← HX1.out] at hxs hxb h30 ⊢
  refine hK'.out _ _ trivial (fun hHeld => ?_)
  clear hK' K'
  try simp only [Act.put, fpA, fpZ, fpN]
  refine wpAnyH_ready (rs := [2]) (by kernel_rfl) (by simp) (cons_l rfl (fun K' hK' => ?_) AllReadyH.nil)
  rw [if_pos (by rfl)]
  go_simp
  have hx2s : (Lib.bytesWorld x1 5 s).heap.size = w2.heap.size + 1 + 1 + 1 := by rw [Lib.bytesWorld_size, hxs]
  have hbb := below_bytes x1 5 s
  have hx2b : Below w4.heap.size w4 (Lib.bytesWorld x1 5 s) := hxb.trans (hbb.mono hxb.size)
  have h2 := row_bytes x1 5 hL
  rw [← Hs.out, hxs] at h2
  have h3 := h30.below hbb
  have hc1 := grownCap_ge x1 L.length 0 5
  have hc2 := grownCap_le_maxLen x1 L.length 0 5 (by unfold maxLen; omega)
  obtain ⟨cs, HCS⟩ : ∃ c, Hid (c = grownCap x1 L.length 0 5) := ⟨_, rfl⟩
  rw [← HCS.out] at hc1 hc2 ⊢
  obtain ⟨x2, HX2⟩ : ∃ x, Hid (x = Lib.bytesWorld x1 5 s) := ⟨_, rfl⟩
  rw [← HX2.out] at hx2s hx2b h2 h3 ⊢
  clear hbb h30
  refine hK'.out _ _ trivial (fun hHeld => ?_)
  clear hK' K'
  try simp only [Act.put, fpA, fpZ, fpN]
  refine wpAnyH_ready (rs := [5]) (by kernel_rfl) (by simp) (cons_l rfl (fun K' hK' => ?_) AllReadyH.nil)
  rw [if_pos (by rfl)]
  go_simp
  refine hK'.out _ _ trivial (fun hHeld => ?_)
  clear hK' K'
  try simp only [Act.put, fpA, fpZ, fpN]
  refine wpAnyH_ready (rs := [6]) (by kernel_rfl) (by simp) (cons_l rfl (fun K' hK' => ?_) AllReadyH.nil)
  rw [if_pos (by rfl)]
  go_simp
  go_at_call 41
  have h1 : RowI .u8 x2 (some ⟨B, 0, none⟩) k := (BlkI.row (by rw [HK.out] at hB4; exact hB4)).below hx2b
  have h4 : RowI .u8 x2 (some ⟨g8, 0, none⟩) (o8 e) := (BlkI.row (by rw [HO.out] at hO4; exact hO4)).below hx2b
  refine (sum_parts k L e HKK.out ok hL hLn x2 B (w2.heap.size + 1 + 1) (w2.heap.size + 1) g8 cs L.length rfl h1 (by omega) h2 (by omega) hc1 hc2 h3 (by omega) h4 (by omega) _ rfl (w2.heap.size + 1 + 1 + 1) hx2s).mono ?_
  rintro r w5 ⟨hb5, rfl, hS5⟩
  have ha : (x2.alloc (.cells #[.slice (some ⟨B, 0, none⟩) 32 32, .slice (some ⟨w2.heap.size + 1 + 1, 0, none⟩) L.length cs, .slice (some ⟨w2.heap.size + 1, 0, none⟩) 1 1, .slice (some ⟨g8, 0, none⟩) 8 8] 25)).heap.size = w2.heap.size + 1 + 1 + 1 + 1 := by simp [hx2s]
  rw [ha] at hb5 hS5 ⊢
  have hR5 := (((hR4.below hx2b (by omega)).alloc (.cells #[.slice (some ⟨B, 0, none⟩) 32 32, .slice (some ⟨w2.heap.size + 1 + 1, 0, none⟩) L.length cs, .slice (some ⟨w2.heap.size + 1, 0, none⟩) 1 1, .slice (some ⟨g8, 0, none⟩) 8 8] 25))).below hb5 (by omega)
  have bb5 : Below B w w5 := ((bb4.trans (hx2b.mono (by omega))).alloc (by omega) _).trans (hb5.mono (by omega))
  have hlt5 := hS5.lt
  refine hK'.out _ _ trivial (fun hHeld => ?_)
  clear hK' K'
  try simp only [Act.put, fpA, fpZ, fpN]
  refine take_l (i := 7) (v := ?zv7) rfl (by kernel_rfl) (by kernel_rfl) (by kernel_rfl) (fun _ _ _ h => h) (Or.inl ⟨by rfl, ?zhy7⟩) (by assumption) ?zrest7
  case zhy7 => (intro w hSw; (try dsimp only at hSw); go_simp; (try with_reducible rfl))
  try simp only [Act.put, fpA, fpZ, fpN]
  refine take_l (i := 8) (v := ?zv8) rfl (by kernel_rfl) (by kernel_rfl) (by kernel_rfl) (fun _ _ _ h => h) (Or.inl ⟨by rfl, ?zhy8⟩) (by assumption) ?zrest8
  case zhy8 => (intro w hSw; (try dsimp only at hSw); go_simp; (try with_reducible rfl))
  try simp only [Act.put, fpA, fpZ, fpN]
  refine take_l (i := 9) (v := ?zv9) rfl (by kernel_rfl) (by kernel_rfl) (by kernel_rfl) (fun _ _ _ h => h) (Or.inl ⟨by rfl, ?zhy9⟩) (by assumption) ?zrest9
  case zhy9 => (intro w hSw; (try dsimp only at hSw); go_simp; (try with_reducible rfl))
  try simp only [Act.put, fpA, fpZ, fpN]
  refine take_l (i := 10) (v := ?zv10) rfl (by kernel_rfl) (by kernel_rfl) (by kernel_rfl) (fun _ _ _ h => h) (Or.inl ⟨by rfl, ?zhy10⟩) (by assumption) ?zrest10
  case zhy10 => (intro w hSw; (try dsimp only at hSw); go_simp; (try with_reducible rfl))
  try simp only [Act.put, fpA, fpZ, fpN]
  refine take_l (i := 11) (v := ?zv11) rfl (by kernel_rfl) (by kernel_rfl) (by kernel_rfl) (fun _ _ _ h => h) (Or.inl ⟨by rfl, ?zhy11⟩) (by assumption) ?zrest11
  case zhy11 => (intro w hSw; (try dsimp only at hSw); go_simp; (try with_reducible rfl))
  try simp only [Act.put, fpA, fpZ, fpN]
  refine wpAnyH_done (by kernel_rfl) ?_ _
  go_wp2_with (first | (go_at_call 42; refine (hend w5 hS5).out.mono ?_; rintro r w6 ⟨rfl, hb6⟩; have hR6 := hR5.below hb6 (by omega); have bb6 := bb5.trans (hb6.mono (by omega : B ≤ _)); clear hR5 bb5 hb6 hS5) | (refine wl_storeV rfl 23 _ _ rfl 23 (B + 1) rfl S rfl 32 aggKey hSl Z hR6 hZl hS1 ?_; intro w7 hR7 hb7 hs7))
  (try simp only [Exit.inBlock, Exit.then]); refine bodyPost_ret (results_cell2 rfl _ _ _ _ rfl S (by rw [hSl]; exact aggKey) hR7.at0) rfl ?_
  exact ⟨rfl, by first | exact bb6.trans (hb7.mono (by omega)) | (rw [hsz]; exact bb6.trans (hb7.mono (by omega)))⟩
end Go.Proofs.YtbjmadcbhkeenaaGreat.wr
namespace Go.Proofs.YtbjmadcbhkeenaaGreat.wr
open Go.RowKit st hs shr
def blks (k n : List Int) : Nat → List Int
 | 0 => []
 | q + 1 => blks k n q ++ blk k n q
theorem blks_length (k n : List Int) : ∀ q, (blks k n q).length = 64 * q
 | 0 => rfl
 | q + 1 => by show (blks k n q ++ blk k n q).length = _; rw [List.length_append, blks_length, blk_length]; omega
def strmL (k n : List Int) (m : Nat) : List Int := (blks k n (m / 64 + 1)).take m
theorem strmL_length (k n : List Int) (m : Nat) : (strmL k n m).length = m := by unfold strmL; rw [List.length_take, blks_length]; omega
theorem strmL_part (k n : List Int) (m q d : Nat) (h : 64 * q + d = m) (hd : d ≤ 64) : strmL k n m = blks k n q ++ (blk k n q).take d := by
 unfold strmL
 have key : ∀ j, q + 1 ≤ j → (blks k n j).take m = blks k n q ++ (blk k n q).take d := by
  intro j hj
  induction j with
  | zero => omega
  | succ j ih =>
   by_cases e : q = j
   ·subst e
    show (blks k n q ++ blk k n q).take m = _
    rw [List.take_append, blks_length, List.take_of_length_le (by rw [blks_length]; omega), show m - 64 * q = d by omega]
   ·show (blks k n j ++ blk k n j).take m = _
    rw [List.take_append_of_le_length (by rw [blks_length]; omega), ih (by omega)]
 by_cases e : d = 64
 ·subst e
  have h1 : m / 64 = q + 1 := by omega
  rw [h1]
  exact key _ (by omega)
 ·have h1 : m / 64 = q := by omega
  rw [h1]
  exact key _ (by omega)
theorem strmL_whole (k n : List Int) (m q : Nat) (h : 64 * q = m) : strmL k n m = blks k n q := by
 have := strmL_part k n m q 0 (by omega) (by omega)
 rw [this]; simp
theorem blk_octs (k n : List Int) (q : Nat) : Octs (blk k n q) := stirL_octs' _
theorem blks_octs (k n : List Int) : ∀ q, Octs (blks k n q)
 | 0 => fun c h => by cases h
 | q + 1 => fun c h => by
  rcases List.mem_append.1 h with h | h
  ·exact blks_octs k n q c h
  ·exact blk_octs k n q c h
theorem strmL_octs (k n : List Int) (m : Nat) : Octs (strmL k n m) := fun c h => blks_octs k n _ c (List.mem_of_mem_take h)
theorem rowTake {t : TypeId} {w : World} {g : Nat} {cs : List Value} (h : BlkV t w g cs) (d : Nat) : RowV w (some ⟨g, 0, none⟩) (cs.take d) :=
 Or.inr ⟨g, 0, rfl, h.lt, fun j u hu => by
  rw [Nat.zero_add, h.cell]
  rw [List.getElem?_take] at hu
  split at hu
  ·exact hu
  ·cases hu⟩
set_option maxHeartbeats 2000000 in
theorem Stream_any (k n : List Int) (m : Nat) (w : World) (hk : k.length = 32) (hn : n.length = 16) (ok : Octs k) (on : Octs n) (hm : m ≤ 1048576) :
  Calls Tryz.prog 100 #[.agg (k.map (Value.int .u8)).toArray, .agg (n.map (Value.int .u8)).toArray, .int .i64 0, .int .i64 m] w fun e w' => ∃ ao cap, e = .returned (.tuple #[.slice ao m cap, .int .i64 0]) ∧ Mine w' w.heap.size 5 1 (.slice ao m cap) m ((strmL k n m).map (Value.int .u8)) ∧ Below w.heap.size w w' := by
 obtain ⟨B, HB⟩ : ∃ B, Hid (B = w.heap.size) := ⟨_, rfl⟩
 have hsz : w.heap.size = B := HB.out.symm
 obtain ⟨K, HK⟩ : ∃ K, Hid (K = k.map (Value.int .u8)) := ⟨_, rfl⟩
 obtain ⟨N, HN⟩ : ∃ N, Hid (N = n.map (Value.int .u8)) := ⟨_, rfl⟩
 have hKl : K.length = 32 := by rw [HK.out, List.length_map, hk]
 have hNl : N.length = 16 := by rw [HN.out, List.length_map, hn]
 have hsb := fun (q : Nat) (hq : q ≤ 20000) w => hid (streamBlock k n q w hk hn ok on (by omega))
 rw [← HK.out, ← HN.out] at hsb ⊢
 obtain ⟨Z, HZ⟩ : ∃ Z, Hid (Z = (List.replicate 64 (0 : Int)).map (Value.int .u8)) := ⟨_, rfl⟩
 have hz64 := hid zeroA64
 rw [← HZ.out] at hz64
 have hZl : Z.length = 64 := by rw [HZ.out]; simp
 have hal : Tryz.prog.arrayLen 99 = 64 := by kernel_rfl
 obtain ⟨i8, hi8, hz8, hs8, hy8⟩ := (info8 : Info Tryz.prog 5 (.int .u8 0) 1 1).parts
 have HI8 := hid hi8
 have HZ8 := hid hz8
 have HS8 := hid hs8
 have HY8 := hid hy8
 have hd0 : (0 : Int).tdiv 64 = 0 := rfl
 have hm0 : (0 : Int).tmod 64 = 0 := rfl
 clear hi8 hz8 hs8 hy8 hk hn
 rw [← HB.out]
 go_enter Tryz.func100, Tryz.ntmps100
 go_wp2_with (first | (refine wl_boxV rfl 23 _ rfl K rfl B hsz ?_; intro w0 hB0 hb0 hs0) | (refine wl_boxV rfl 53 _ rfl N rfl (B + 1) hs0 ?_; intro w1 hN1 hb1 hs1; have hB1 := hB0.below hb1 (by omega); have bb1 := hb0.trans (hb1.mono (by omega : B ≤ _)); clear hB0 hb0 hb1) | (refine wpList_make_own _ rfl _ _ 25 rfl (B + 2) 5 i8 (.int .u8 0) 1 Tryz.underlying25 HI8.out HZ8.out HS8.out .i64 .i64 m m rfl rfl rfl (by rw [HY8.out]; omega) (by unfold maxLen; omega) (by omega) ?_; intro w2 hM hg2))
 have hB2 := hB1.grown hg2 (by simp)
 have hN2 := hN1.grown hg2 (by simp)
 have bb2 : Below B w w2 := bb1.grown hg2 (by omega) (by simp)
 have hs2 : B + 2 ≤ w2.heap.size := by have := hg2.size; omega
 have hst : hs1 = hs1 := rfl
 clear hst hB1 hN1 bb1 hg2
 have e1 : w1.heap.size = B + 1 + 1 := hs1
 try rw [e1] at hM
 go_loopw [10, 11] (fun o i wr => ∃ (q len : Nat) (ao : Option Addr) (c : Nat) (xs : List Int), o = .slice ao len c ∧ wr.ownsRow (B + 2) 5 1 o len (xs.map (Value.int .u8)) ∧ BlkV 23 wr B K ∧ BlkV 53 wr (B + 1) N ∧ Below B w wr ∧ B + 2 ≤ wr.heap.size ∧ ((64 * q = len ∧ len ≤ m ∧ i = .int .i64 q ∧ xs = blks k n q) ∨ (len = m ∧ xs = strmL k n m))) (fun o _ _ => m - slLen o)
 case atStart => exact ⟨0, 0, _, m, [], rfl, hM, hB2, hN2, bb2, hs2, Or.inl ⟨rfl, Nat.zero_le _, rfl, rfl⟩⟩
 case round =>
  clear hM hB2 hN2 bb2
  obtain ⟨q, len, ao, c, xs, rfl, hM, hB, hN, hb, hsr, hcase⟩ := hrel
  by_cases h0 : len < m
  ·obtain ⟨hq, _, rfl, rfl⟩ := hcase.resolve_right (by intro h; omega)
   have hlI : (len : Int) < (m : Int) := by omega
   have hl2 : ¬ (m : Int) ≤ (len : Int) := by omega
   have hqb : q ≤ 20000 := by omega
   have hqI : (0 : Int) ≤ (q : Int) := by omega
   obtain ⟨BB, HBB⟩ : ∃ BB, Hid (BB = (blk k n q).map (Value.int .u8)) := ⟨_, rfl⟩
   have hBBl : BB.length = 64 := by rw [HBB.out, List.length_map, blk_length]
   have hBB1 : ∀ u ∈ BB, u.oneCell' = true := by rw [HBB.out]; exact ints_one _ _
   have hsbq : ∀ w, Hid (Calls Tryz.prog 115 #[.agg K.toArray, .agg N.toArray, .int .u64 (q : Int)] w fun e w' => e = .returned (.agg BB.toArray) ∧ Below w.heap.size w w') := by
    intro w
    rw [HBB.out]
    exact hsb q hqb w
   have HLQ := hid hq
   clear hq hcase
   obtain ⟨D, HD⟩ : ∃ D : Nat, Hid (D = m - len) := ⟨_, rfl⟩
   have hDI : (m : Int) - (len : Int) = (D : Int) := by rw [HD.out]; omega
   have hDw : IntKind.i64.wrap (D : Int) = (D : Int) := IntWalk.i64_in _ (by have := HD.out; omega)
   by_cases hq0 : (q : Int) = 0
   ·by_cases hD : (D : Int) < 64
    ·try simp only [hq0] at hsbq
     go_wp2_with (first | (refine wl_load rfl 23 _ rfl ⟨B, 0, none⟩ rfl K (by rw [hKl]; exact aggKey) hB.at0 ?_) | (refine wl_load rfl 53 _ rfl ⟨B + 1, 0, none⟩ rfl N (by rw [hNl]; exact aggNo) hN.at0 ?_) | (go_at_call 115; refine (hsbq wr).out.mono ?_; rintro e w3 ⟨rfl, hb3⟩; have hB3 := hB.below hb3 (by omega); have hN3 := hN.below hb3 (by omega); have hM3 := owns_up hM hb3; have bb3 := hb.trans (hb3.mono (by omega : B ≤ _)); have hs3 := hb3.size; clear hB hN hM hb hb3) | (refine wl_allocV rfl 99 rfl Z hz64.out w3.heap.size rfl ?_; intro w4 hE4 hb4 hs4) | (refine wl_storeV rfl 99 _ _ rfl 99 w3.heap.size rfl BB rfl 64 agg64' hBBl Z hE4 hZl hBB1 ?_; intro w5 hE5 hb5 hs5; have hb35 := hb4.trans hb5; have hB5 := hB3.below hb35 (by omega); have hN5 := hN3.below hb35 (by omega); have hM5 := owns_up hM3 hb35; have bb5 := bb3.trans (hb35.mono (by omega : B ≤ _)); clear hB3 hN3 hM3 bb3 hb4 hb5 hb35 hE4) | (at_builtin; refine wl_appendS rfl _ _ 25 rfl 5 (.int .u8 0) 1 1 Tryz.underlying25 info8 rfl (by decide) (B + 2) _ len _ rfl (Or.inl hM5) (some ⟨w3.heap.size, 0, none⟩) D 64 rfl (fun h => by cases h) (BB.take D) (by rw [List.length_take, hBBl]; have := HD.out; omega) (rowTake hE5 _) (fun u hu => hBB1 u (List.mem_of_mem_take hu)) (by unfold maxLen; have := HD.out; omega) (by have := HD.out; omega) (by omega) m (by have := HD.out; omega) ?_; intro ao6 c6 w6 row6 hc6 hM6 hv6 hg6 hrow6; have hlt := hM6; have hB6 := blk_grown hB5 hg6 (fun k hk => (hrow6 k hk).1) (by omega); have hN6 := blk_grown hN5 hg6 (fun k hk => (hrow6 k hk).1) (by omega); have bb6 := bb5.grown hg6 (by omega) (fun k hk => by have := (hrow6 k hk).1; omega); have hs6 : B + 2 ≤ w6.heap.size := (by have := hg6.size; omega); clear hB5 hN5 bb5 hM5 hE5))
     go_roundw
     case measure => simp only [slLen]; have := HD.out; omega
     refine ⟨q, m, ao6, c6, strmL k n m, rfl, mine_own ?_ (by omega), hB6, hN6, bb6, hs6, Or.inr ⟨rfl, rfl⟩⟩
     rw [strmL_part k n m q D (by have := HLQ.out; omega) (by omega), List.map_append, List.map_take, ← HBB.out]
     exact hM6
    ·try simp only [hq0] at hsbq
     go_wp2_with (first | (refine wl_load rfl 23 _ rfl ⟨B, 0, none⟩ rfl K (by rw [hKl]; exact aggKey) hB.at0 ?_) | (refine wl_load rfl 53 _ rfl ⟨B + 1, 0, none⟩ rfl N (by rw [hNl]; exact aggNo) hN.at0 ?_) | (go_at_call 115; refine (hsbq wr).out.mono ?_; rintro e w3 ⟨rfl, hb3⟩; have hB3 := hB.below hb3 (by omega); have hN3 := hN.below hb3 (by omega); have hM3 := owns_up hM hb3; have bb3 := hb.trans (hb3.mono (by omega : B ≤ _)); have hs3 := hb3.size; clear hB hN hM hb hb3) | (refine wl_allocV rfl 99 rfl Z hz64.out w3.heap.size rfl ?_; intro w4 hE4 hb4 hs4) | (refine wl_storeV rfl 99 _ _ rfl 99 w3.heap.size rfl BB rfl 64 agg64' hBBl Z hE4 hZl hBB1 ?_; intro w5 hE5 hb5 hs5; have hb35 := hb4.trans hb5; have hB5 := hB3.below hb35 (by omega); have hN5 := hN3.below hb35 (by omega); have hM5 := owns_up hM3 hb35; have bb5 := bb3.trans (hb35.mono (by omega : B ≤ _)); clear hB3 hN3 hM3 bb3 hb4 hb5 hb35 hE4) | (at_builtin; refine wl_appendS rfl _ _ 25 rfl 5 (.int .u8 0) 1 1 Tryz.underlying25 info8 rfl (by decide) (B + 2) _ len _ rfl (Or.inl hM5) (some ⟨w3.heap.size, 0, none⟩) 64 64 rfl (fun h => by cases h) (BB.take 64) (by rw [List.length_take, hBBl]; have := HD.out; omega) (rowTake hE5 _) (fun u hu => hBB1 u (List.mem_of_mem_take hu)) (by unfold maxLen; have := HD.out; omega) (by have := HD.out; omega) (by omega) (len + 64) (by have := HD.out; omega) ?_; intro ao6 c6 w6 row6 hc6 hM6 hv6 hg6 hrow6; have hlt := hM6; have hB6 := blk_grown hB5 hg6 (fun k hk => (hrow6 k hk).1) (by omega); have hN6 := blk_grown hN5 hg6 (fun k hk => (hrow6 k hk).1) (by omega); have bb6 := bb5.grown hg6 (by omega) (fun k hk => by have := (hrow6 k hk).1; omega); have hs6 : B + 2 ≤ w6.heap.size := (by have := hg6.size; omega); clear hB5 hN5 bb5 hM5 hE5))
     go_roundw
     case measure => simp only [slLen]; have := HD.out; omega
     refine ⟨q + 1, len + 64, ao6, c6, blks k n (q + 1), rfl, mine_own ?_ (by omega), hB6, hN6, bb6, hs6, Or.inl ⟨by have := HLQ.out; omega, by have := HD.out; omega, by first | (push_cast; rfl) | (congr 1; push_cast; omega), rfl⟩⟩
     rw [show blks k n (q + 1) = blks k n q ++ blk k n q from rfl, List.map_append, ← HBB.out]
     rw [List.take_of_length_le (by omega)] at hM6
     exact hM6
   ·by_cases hD : (D : Int) < 64
    ·go_wp2_with (first | (refine wl_load rfl 23 _ rfl ⟨B, 0, none⟩ rfl K (by rw [hKl]; exact aggKey) hB.at0 ?_) | (refine wl_load rfl 53 _ rfl ⟨B + 1, 0, none⟩ rfl N (by rw [hNl]; exact aggNo) hN.at0 ?_) | (go_at_call 115; refine (hsbq wr).out.mono ?_; rintro e w3 ⟨rfl, hb3⟩; have hB3 := hB.below hb3 (by omega); have hN3 := hN.below hb3 (by omega); have hM3 := owns_up hM hb3; have bb3 := hb.trans (hb3.mono (by omega : B ≤ _)); have hs3 := hb3.size; clear hB hN hM hb hb3) | (refine wl_allocV rfl 99 rfl Z hz64.out w3.heap.size rfl ?_; intro w4 hE4 hb4 hs4) | (refine wl_storeV rfl 99 _ _ rfl 99 w3.heap.size rfl BB rfl 64 agg64' hBBl Z hE4 hZl hBB1 ?_; intro w5 hE5 hb5 hs5; have hb35 := hb4.trans hb5; have hB5 := hB3.below hb35 (by omega); have hN5 := hN3.below hb35 (by omega); have hM5 := owns_up hM3 hb35; have bb5 := bb3.trans (hb35.mono (by omega : B ≤ _)); clear hB3 hN3 hM3 bb3 hb4 hb5 hb35 hE4) | (at_builtin; refine wl_appendS rfl _ _ 25 rfl 5 (.int .u8 0) 1 1 Tryz.underlying25 info8 rfl (by decide) (B + 2) _ len _ rfl (Or.inl hM5) (some ⟨w3.heap.size, 0, none⟩) D 64 rfl (fun h => by cases h) (BB.take D) (by rw [List.length_take, hBBl]; have := HD.out; omega) (rowTake hE5 _) (fun u hu => hBB1 u (List.mem_of_mem_take hu)) (by unfold maxLen; have := HD.out; omega) (by have := HD.out; omega) (by omega) m (by have := HD.out; omega) ?_; intro ao6 c6 w6 row6 hc6 hM6 hv6 hg6 hrow6; have hlt := hM6; have hB6 := blk_grown hB5 hg6 (fun k hk => (hrow6 k hk).1) (by omega); have hN6 := blk_grown hN5 hg6 (fun k hk => (hrow6 k hk).1) (by omega); have bb6 := bb5.grown hg6 (by omega) (fun k hk => by have := (hrow6 k hk).1; omega); have hs6 : B + 2 ≤ w6.heap.size := (by have := hg6.size; omega); clear hB5 hN5 bb5 hM5 hE5))
     go_roundw
     case measure => simp only [slLen]; have := HD.out; omega
     refine ⟨q, m, ao6, c6, strmL k n m, rfl, mine_own ?_ (by omega), hB6, hN6, bb6, hs6, Or.inr ⟨rfl, rfl⟩⟩
     rw [strmL_part k n m q D (by have := HLQ.out; omega) (by omega), List.map_append, List.map_take, ← HBB.out]
     exact hM6
    ·go_wp2_with (first | (refine wl_load rfl 23 _ rfl ⟨B, 0, none⟩ rfl K (by rw [hKl]; exact aggKey) hB.at0 ?_) | (refine wl_load rfl 53 _ rfl ⟨B + 1, 0, none⟩ rfl N (by rw [hNl]; exact aggNo) hN.at0 ?_) | (go_at_call 115; refine (hsbq wr).out.mono ?_; rintro e w3 ⟨rfl, hb3⟩; have hB3 := hB.below hb3 (by omega); have hN3 := hN.below hb3 (by omega); have hM3 := owns_up hM hb3; have bb3 := hb.trans (hb3.mono (by omega : B ≤ _)); have hs3 := hb3.size; clear hB hN hM hb hb3) | (refine wl_allocV rfl 99 rfl Z hz64.out w3.heap.size rfl ?_; intro w4 hE4 hb4 hs4) | (refine wl_storeV rfl 99 _ _ rfl 99 w3.heap.size rfl BB rfl 64 agg64' hBBl Z hE4 hZl hBB1 ?_; intro w5 hE5 hb5 hs5; have hb35 := hb4.trans hb5; have hB5 := hB3.below hb35 (by omega); have hN5 := hN3.below hb35 (by omega); have hM5 := owns_up hM3 hb35; have bb5 := bb3.trans (hb35.mono (by omega : B ≤ _)); clear hB3 hN3 hM3 bb3 hb4 hb5 hb35 hE4) | (at_builtin; refine wl_appendS rfl _ _ 25 rfl 5 (.int .u8 0) 1 1 Tryz.underlying25 info8 rfl (by decide) (B + 2) _ len _ rfl (Or.inl hM5) (some ⟨w3.heap.size, 0, none⟩) 64 64 rfl (fun h => by cases h) (BB.take 64) (by rw [List.length_take, hBBl]; have := HD.out; omega) (rowTake hE5 _) (fun u hu => hBB1 u (List.mem_of_mem_take hu)) (by unfold maxLen; have := HD.out; omega) (by have := HD.out; omega) (by omega) (len + 64) (by have := HD.out; omega) ?_; intro ao6 c6 w6 row6 hc6 hM6 hv6 hg6 hrow6; have hlt := hM6; have hB6 := blk_grown hB5 hg6 (fun k hk => (hrow6 k hk).1) (by omega); have hN6 := blk_grown hN5 hg6 (fun k hk => (hrow6 k hk).1) (by omega); have bb6 := bb5.grown hg6 (by omega) (fun k hk => by have := (hrow6 k hk).1; omega); have hs6 : B + 2 ≤ w6.heap.size := (by have := hg6.size; omega); clear hB5 hN5 bb5 hM5 hE5))
     go_roundw
     case measure => simp only [slLen]; have := HD.out; omega
     refine ⟨q + 1, len + 64, ao6, c6, blks k n (q + 1), rfl, mine_own ?_ (by omega), hB6, hN6, bb6, hs6, Or.inl ⟨by have := HLQ.out; omega, by have := HD.out; omega, by first | (push_cast; rfl) | (congr 1; push_cast; omega), rfl⟩⟩
     rw [show blks k n (q + 1) = blks k n q ++ blk k n q from rfl, List.map_append, ← HBB.out]
     rw [List.take_of_length_le (by omega)] at hM6
     exact hM6
  ·have hlm : len = m := by rcases hcase with ⟨_, h, _⟩ | ⟨h, _⟩ <;> omega
   have hxs : xs = strmL k n m := by
    rcases hcase with ⟨h, _, _, h2⟩ | ⟨_, h2⟩
    ·rw [h2, strmL_whole k n m q (by omega)]
    ·exact h2
   subst hlm
   have hl3 : ¬ (len : Int) < (len : Int) := by omega
   rw [hxs] at hM
   clear hcase hxs
   go_wp2
   go_ret2
   exact ⟨_, _, rfl, Mine.mono (Or.inl hM) (by omega), hb⟩
end Go.Proofs.YtbjmadcbhkeenaaGreat.wr
namespace Go.Proofs.YtbjmadcbhkeenaaGreat.wr
open Go.RowKit st hs shr sh
structure Env where
 v : Int
 e : Int
 b : List Int
 o : List Int
 n : List Int
 c : List Int
 g : List Int
 t : List Int
structure Env.Ok (x : Env) : Prop where
 vb : -9223372036854775808 ≤ x.v ∧ x.v ≤ 9223372036854775807
 eb : -9223372036854775808 ≤ x.e ∧ x.e ≤ 9223372036854775807
 bl : x.b.length = 16
 ol : x.o.length = 16
 nl : x.n.length = 16
 cl : x.c.length = 32
 gl : x.g.length = 32
 tl : x.t.length = 16
 bo : Octs x.b
 oo : Octs x.o
 no : Octs x.n
 co : Octs x.c
 go : Octs x.g
 tt : Octs x.t
def Env.cs (x : Env) : List Value := (.int .i64 x.v :: .int .i64 x.e :: (x.b ++ x.o ++ x.n ++ x.c ++ x.g ++ x.t).map (Value.int .u8))
def Env.octs (x : Env) : List Int := x.b ++ x.o ++ x.n ++ x.c ++ x.g ++ x.t
theorem Env.cs_eq (x : Env) : x.cs = .int .i64 x.v :: .int .i64 x.e :: x.octs.map (Value.int .u8) := rfl
theorem Env.Ok.ol' {x : Env} (h : x.Ok) : x.octs.length = 128 := by
 unfold Env.octs
 simp only [List.length_append, h.bl, h.ol, h.nl, h.cl, h.gl, h.tl]
theorem Env.Ok.csl {x : Env} (h : x.Ok) : x.cs.length = 130 := by rw [Env.cs_eq]; simp [h.ol']
theorem Env.cs_one (x : Env) : ∀ u ∈ x.cs, u.oneCell' = true := by
 intro u hu
 rw [Env.cs_eq] at hu
 rcases List.mem_cons.1 hu with rfl | hu
 ·rfl
 rcases List.mem_cons.1 hu with rfl | hu
 ·rfl
 exact ints_one _ _ u hu
theorem Env.cv (x : Env) : x.cs[0]? = some (.int .i64 x.v) := rfl
theorem Env.ce (x : Env) : x.cs[1]? = some (.int .i64 x.e) := rfl
theorem env_at {x : Env} {w : World} {t : TypeId} {p : Nat} (h : BlkV t w p x.cs) (k : Nat) (ds r : List Int) (hk : x.octs.drop k = ds ++ r) : At w ⟨p, k + 2, none⟩ (ds.map (Value.int .u8)) := by
 refine h.at (k + 2) _ fun j u hu => ?_
 have hj : j < ds.length := by have := (List.getElem?_eq_some_iff.1 hu).1; simpa using this
 have e1 : x.cs[k + 2 + j]? = (x.octs.map (Value.int .u8))[k + j]? := by rw [Env.cs_eq, show k + 2 + j = (k + j) + 1 + 1 by omega]; rfl
 have e2 : x.octs[k + j]? = ds[j]? := by
  have := congrArg (fun l : List Int => l[j]?) hk
  simp only [List.getElem?_drop] at this
  rw [this, List.getElem?_append_left hj]
 rw [e1, ← hu, List.getElem?_map, List.getElem?_map, e2]
section
variable {x : Env} (hx : x.Ok) {w : World} {t : TypeId} {p : Nat} (h : BlkV t w p x.cs)
include h in
theorem env_b : At w ⟨p, 2, none⟩ (x.b.map (Value.int .u8)) := env_at h 0 x.b (x.o ++ x.n ++ x.c ++ x.g ++ x.t) (by simp [Env.octs])
include hx h
theorem env_o : At w ⟨p, 18, none⟩ (x.o.map (Value.int .u8)) := env_at h 16 x.o (x.n ++ x.c ++ x.g ++ x.t) (by unfold Env.octs; simp only [List.append_assoc]; rw [List.drop_append_of_le_length (by rw [hx.bl]; omega), List.drop_of_length_le (by rw [hx.bl]; omega), List.nil_append])
theorem env_n : At w ⟨p, 34, none⟩ (x.n.map (Value.int .u8)) := env_at h 32 x.n (x.c ++ x.g ++ x.t) (by
 have e : x.octs = (x.b ++ x.o) ++ (x.n ++ (x.c ++ x.g ++ x.t)) := by unfold Env.octs; simp
 rw [e, List.drop_append_of_le_length (by simp [hx.bl, hx.ol]), List.drop_of_length_le (by simp [hx.bl, hx.ol]), List.nil_append])
theorem env_c : At w ⟨p, 50, none⟩ (x.c.map (Value.int .u8)) := env_at h 48 x.c (x.g ++ x.t) (by
 have e : x.octs = (x.b ++ x.o ++ x.n) ++ (x.c ++ (x.g ++ x.t)) := by unfold Env.octs; simp
 rw [e, List.drop_append_of_le_length (by simp [hx.bl, hx.ol, hx.nl]), List.drop_of_length_le (by simp [hx.bl, hx.ol, hx.nl]), List.nil_append])
theorem env_g : At w ⟨p, 82, none⟩ (x.g.map (Value.int .u8)) := env_at h 80 x.g x.t (by
 have e : x.octs = (x.b ++ x.o ++ x.n ++ x.c) ++ (x.g ++ x.t) := by unfold Env.octs; simp
 rw [e, List.drop_append_of_le_length (by simp [hx.bl, hx.ol, hx.nl, hx.cl]), List.drop_of_length_le (by simp [hx.bl, hx.ol, hx.nl, hx.cl]), List.nil_append])
theorem env_t : At w ⟨p, 114, none⟩ (x.t.map (Value.int .u8)) := env_at h 112 x.t [] (by
 have e : x.octs = (x.b ++ x.o ++ x.n ++ x.c ++ x.g) ++ (x.t ++ []) := by unfold Env.octs; simp
 rw [e, List.drop_append_of_le_length (by simp [hx.bl, hx.ol, hx.nl, hx.cl, hx.gl]), List.drop_of_length_le (by simp [hx.bl, hx.ol, hx.nl, hx.cl, hx.gl]), List.nil_append])
end
theorem at_row {w : World} {p off : Nat} {cs : List Value} (hl : p < w.heap.size) (h : At w ⟨p, off, none⟩ cs) : RowV w (some ⟨p, off, none⟩) cs :=
 Or.inr ⟨p, off, rfl, hl, fun j u hu => by
  have := h j u hu
  rwa [addr_add] at this⟩
def twoL (x : Env) (l : List Int) : List Int := if x.v = 2 then l else []
def aheadL (x : Env) : List Int := [75, 87, 87] ++ [x.v] ++ o4 x.e ++ x.b ++ twoL x x.o ++ x.n ++ twoL x x.c ++ x.g
def envL (x : Env) : List Int := aheadL x ++ x.t
def errV (x : Env) : Int := if ¬ (x.v = 1 ∨ x.v = 2) then 19 else if ¬ (0 ≤ x.e ∧ x.e ≤ 4294967295) then 4 else if x.v = 1 ∧ ¬ (x.o = List.replicate 16 0 ∧ x.c = List.replicate 32 0) then 2 else 0
def sizeV (x : Env) : Nat := if x.v = 2 then 136 else 88
theorem o4_length (n : Int) : (o4 n).length = 4 := rfl
theorem aheadL_length {x : Env} (h : x.Ok) : (aheadL x).length + 16 = sizeV x := by
 unfold aheadL sizeV twoL
 split <;> simp only [List.length_append, o4_length, h.bl, h.ol, h.nl, h.cl, h.gl, List.length_cons, List.length_nil]
theorem o4_octs (n : Int) : Octs (o4 n) := by
 intro c hc
 simp only [o4, List.mem_cons, List.not_mem_nil, or_false] at hc
 rcases hc with rfl | rfl | rfl | rfl <;> exact ⟨by omega, by omega⟩
theorem octs_app {l m : List Int} (h : Octs l) (h2 : Octs m) : Octs (l ++ m) := fun c hc => by
 rcases List.mem_append.1 hc with hc | hc
 ·exact h c hc
 ·exact h2 c hc
theorem octs_two (x : Env) {l : List Int} (h : Octs l) : Octs (twoL x l) := by
 unfold twoL; split
 ·exact h
 ·intro c hc; cases hc
theorem aheadL_octs {x : Env} (h : x.Ok) (hv : x.v = 1 ∨ x.v = 2) : Octs (aheadL x) := by
 unfold aheadL
 refine octs_app (octs_app (octs_app (octs_app (octs_app (octs_app (octs_app ?_ ?_) (o4_octs _)) h.bo) (octs_two x h.oo)) h.no) (octs_two x h.co)) h.go
 ·intro c hc
  simp only [List.mem_cons, List.not_mem_nil, or_false] at hc
  rcases hc with rfl | rfl | rfl <;> exact ⟨by decide, by decide⟩
 ·intro c hc
  simp only [List.mem_cons, List.not_mem_nil, or_false] at hc
  subst hc
  rcases hv with h | h <;> rw [h] <;> exact ⟨by decide, by decide⟩
theorem wl_convC {w0 : World} {ops : Array Oper} {rest : List Oper} {o : Oper} {a : Act} {Q : Exit → Act → World → Prop} (hgd : o.guard = none) (x : Operand) (ho : o.op = .convert 25 25 x) (C : List Value) (n c : Nat)
  (hx : a.eval x = .slice (some ⟨w0.heap.size, 0, none⟩) n c) (N : Nat) (hN : w0.heap.size = N)
  (h : ∀ w', At w' ⟨N, 0, none⟩ C → Below N w0 w' → w'.heap.size = N + 1 → wpList Tryz.prog ops Q rest (a.put o.dst (.slice (some ⟨N, 0, none⟩) n c)) w') : wpList Tryz.prog ops Q (o :: rest) a (w0.alloc (.cells C.toArray 5)) := by
 subst hN
 refine wpList_plain hgd fun K hK' => ?_
 unfold Oper.wp
 simp only [execOp, ho, hx, Lib.run_convert_bytes_const (P := Tryz.prog) w0 25 5 C.toArray n c Tryz.underlying25 Tryz.underlying5, Sem.run_bind, Result.andThen_ok, Sem.run_pure]
 exact hK' _ _ (h _ (at_marked C) ((Below.refl _ _).alloc (Nat.le_refl _) _) (by simp))
theorem wl_neM {P : Program} {w : World} {ops : Array Oper} {rest : List Oper} {o : Oper} {a : Act} {Q : Exit → Act → World → Prop} (d : Nat) (hd : o.dst = some d) (hgd : Region.wanted o (yielded ops a.tmps) = true) (ty ty2 : TypeId) (x y : Operand) (ho : o.op = .binOp .neq ty x y ty2)
  (A B : Array Value) (hx : a.eval x = .agg A) (hy : a.eval y = .agg B) (b : Bool) (he : (Op.equalIn 10000 ty (.agg A) (.agg B)).run P w = .ok b w) (hm : P.eqGuardType P.depth ty = false) (h : wpList P ops Q rest (a.put o.dst (.bool !b)) w) : wpList P ops Q (o :: rest) a w := by
 refine wpList_step fun K hK' => ?_
 rw [if_pos hgd]
 unfold Oper.wp
 simp [execOp, ho, hx, hy, run_eqGuard_agg, run_neq_struct, hm, he, Result.andThen]
 exact hK' _ _ h
theorem run_eq_id (w : World) (s t : List Int) (hs : s.length = 16) (ht : t.length = 16) : (Op.equalIn 10000 27 (.agg (s.map (Value.int .u8)).toArray) (.agg (t.map (Value.int .u8)).toArray)).run Tryz.prog w = .ok (s == t) w :=
 run_equalIn_ints w 9998 27 5 16 .u8 Tryz.underlying27 Tryz.underlying5 size5' s t hs ht
theorem agg32 : Agg Tryz.prog 22 32 := Agg.arr Tryz.underlying22 (by kernel_rfl)
theorem aggEnv : Agg Tryz.prog 57 130 := Agg.str Tryz.underlying57 (by kernel_rfl)
def env0 : Env := ⟨0, 0, List.replicate 16 0, List.replicate 16 0, List.replicate 16 0, List.replicate 32 0, List.replicate 32 0, List.replicate 16 0⟩
theorem env0_ok : env0.Ok := ⟨by decide, by decide, rfl, rfl, rfl, rfl, rfl, rfl, zeros_octs 16, zeros_octs 16, zeros_octs 16, zeros_octs 32, zeros_octs 32, zeros_octs 16⟩
theorem zeroEnv : (Tryz.prog.info? 57).map (·.zero) = some (some (.agg env0.cs.toArray)) := by kernel_rfl
theorem built_env0 : Tryz.prog.built 57 [] = some env0.cs.toArray := by kernel_rfl
theorem built_id0 : Tryz.prog.built 27 [] = some ((List.replicate 16 (0 : Int)).map (Value.int .u8)).toArray := by kernel_rfl
theorem built_sum0 : Tryz.prog.built 54 [] = some ((List.replicate 32 (0 : Int)).map (Value.int .u8)).toArray := by kernel_rfl
end Go.Proofs.YtbjmadcbhkeenaaGreat.wr
namespace Go.Proofs.YtbjmadcbhkeenaaGreat.wr
open Go.ChangeShapes Go.WideShapes Go.ChangeAt Go.RowKit
open st hs shr
theorem intsCap {H : Type} {enc : TypeId × Value → H} {P : Program} {W : World} {base : Nat} {held : Bool} {t e : TypeId} {k : IntKind} {ao : Option Addr} {len cap : Nat} {d : DataW H} {ps : List MemPlace}
  (ht : P.underlying t = some (.slice e)) (he : P.underlying e = some (.int k)) (hc : P.cellsOf e = 1) (hd : DataW.Trod enc P W base (fun _ => true) held t (.slice ao len cap) d ps) : cap ≤ maxLen := by
 obtain ⟨fuel, hf⟩ := hd
 rcases open_ints ht he hc hf with ⟨h1, _⟩ | ⟨ad, ln, cp, zs, h1, h2, h3, h4, _⟩
 ·simp [Value.cells] at h1
  rw [h1.2.2]; decide
 ·simp [Value.cells] at h1
  obtain ⟨_, _, rfl⟩ := h1
  exact h4
end Go.Proofs.YtbjmadcbhkeenaaGreat.wr
namespace Go.Proofs.YtbjmadcbhkeenaaGreat.wr
open Go.ChangeShapes Go.WideShapes Go.ChangeAt Go.RowKit
open st hs shr
theorem shape_lt {w : World} {g : Nat} {x : TypeId × Nat} (h : w.shape? g = some x) : g < w.heap.size := by
 by_cases hb : g < w.heap.size
 ·exact hb
 ·unfold World.shape? at h
  rw [Array.getElem?_eq_none (by omega)] at h
  cases h
theorem ptTop {W : World} {r : Reach} {b0 n cap : Nat} {ao : Option Addr} {l : List Int} (hval : Value.okWide Tryz.prog W r b0 25 (.slice ao n cap)) (hr : RowI .u8 W ao l) (hle : l.length ≤ cap) (hc : cap ≤ maxLen) (ho : Octs l) : Pt.Ok W ⟨ao, cap, l⟩ := by
 refine ⟨hr, hle, hc, ho, fun b e => ?_⟩
 change ao = some b at e
 subst e
 have hh : ∃ row cells, W.shape? b.block = some (row, cells) := by
  simp only [Value.okWide, Cell.okWide, Cell.ok, Tryz.underlying25, World.has] at hval
  obtain ⟨_, _, _, _, row, cells, h, _⟩ := hval
  exact ⟨row, cells, h⟩
 obtain ⟨row, cells, h⟩ := hh
 exact shape_lt h
theorem partsArg {H : Type} {enc : TypeId × Value → H} {W : World} {base : Nat} {held : Bool} {r : Reach} {b0 : Nat} {v : Value} {d : DataW H} {q : List MemPlace}
  (hval : Value.okWide Tryz.prog W r b0 24 v) (hd : DataW.Trod enc Tryz.prog W base (fun _ => true) held 24 v d q) :
  ∃ (ps : List Pt) (po : Option Addr) (cap n : Nat), v = .slice po n cap ∧ n = ps.length ∧ n ≤ cap ∧ cap ≤ maxLen ∧ RowV W po (ps.map Pt.v) ∧ (∀ x ∈ ps, 4 ≤ x.l.length → x.Ok W) ∧ n ≤ Rows.uptoBulk d := by
 have hbulk := fun (a : Option Addr) (n c : Nat) (h : v = .slice a n c) => slice_bulk (P := Tryz.prog) (ao := a) (len := n) (cap := c) Tryz.underlying24 (h ▸ hd)
 obtain ⟨a, len, cap, rfl⟩ := okWide_slice Tryz.underlying24 hval
 have hb := hbulk _ _ _ rfl
 obtain ⟨fuel, hf⟩ := hd
 rcases Go.Deep.open_slice Tryz.underlying24 hf with ⟨h1, h2⟩ | ⟨ad, ln, cp, m, n, D, Pl, h1, h3, h4, h5, h6, h7, h8⟩
 ·simp [Value.cells] at h1
  obtain ⟨rfl, rfl, rfl⟩ := h1
  exact ⟨[], none, 0, 0, rfl, rfl, Nat.le_refl _, by decide, Or.inl rfl, (fun s hs => by cases hs), Nat.zero_le _⟩
 ·simp [Value.cells] at h1
  obtain ⟨rfl, rfl, rfl⟩ := h1
  simp only [if_true] at h6
  subst h6
  rw [show Tryz.prog.cellsOf 25 = 1 by kernel_rfl] at h8
  have hs : ∀ i, i < m → ∃ x : Pt, (4 ≤ x.l.length → x.Ok W) ∧ At W (ad.add (i * 1)) [x.v] := by
   intro i hi
   obtain ⟨cs', hc, ht⟩ := h8 i hi
   obtain ⟨_, hcl, hat⟩ := World.cells?_some hc
   rcases open_ints Tryz.underlying25 Tryz.underlying5 (by kernel_rfl) ht with ⟨rfl, _⟩ | ⟨a1, l1, c1, zs, rfl, g1, g2, g3, g4, g5, g6, g7⟩
   ·refine ⟨⟨none, 0, []⟩, fun h => by simp at h, fun j u hu => ?_⟩
    have hj : j < 1 := by have := (List.getElem?_eq_some_iff.1 hu).1; simpa using this
    rw [hat j hj]; exact hu
   ·simp only [if_true] at g4
    have hlen : (zs.take l1).length = l1 := by rw [List.length_take]; omega
    refine ⟨⟨some a1, c1, zs.take l1⟩, fun h4 => ?_, fun j u hu => ?_⟩
    ·dsimp only at h4
     rw [hlen] at h4
     obtain ⟨b, off, rfl, hcl2⟩ := ints_at g6 (by omega)
     have hb2 := opn.lt_of_cell' (hcl2 0 (by omega))
     refine ⟨Or.inr ⟨b, off, rfl, hb2, fun k hk => ?_⟩, by show (zs.take l1).length ≤ c1; omega, g3, fun c hc => bounds_u8 (g7 c (List.mem_of_mem_take hc)), fun d e => by cases e; exact hb2⟩
     dsimp only at hk
     rw [hlen] at hk
     rw [hcl2 k (by omega)]
     simp [List.getD_eq_getElem?_getD, hk]
    ·have hj : j < 1 := by have := (List.getElem?_eq_some_iff.1 hu).1; simpa using this
     rw [hat j hj]
     unfold Pt.v at hu
     rw [hlen] at hu
     exact hu
  have hs' : ∃ f : Nat → Pt, ∀ i, i < m → (4 ≤ (f i).l.length → (f i).Ok W) ∧ At W (ad.add (i * 1)) [(f i).v] := by
   refine ⟨fun i => if h : i < m then Classical.choose (hs i h) else ⟨none, 0, []⟩, fun i hi => ?_⟩
   simp only [dif_pos hi]
   exact Classical.choose_spec (hs i hi)
  obtain ⟨f, hf2⟩ := hs'
  have hlen : ((List.range len).map f).length = len := by simp
  refine ⟨(List.range len).map f, some ad, m, len, rfl, hlen.symm, h4, h5, ?_, fun s hs => ?_, hb⟩
  ·by_cases hl : len = 0
   ·exact Or.inl (by subst hl; rfl)
   ·have c1 := (hf2 0 (by omega)).2 0 _ rfl
    obtain ⟨b, off, spot⟩ := ad
    have hspot : spot = none := by simpa [Addr.add] using World.cell?_spot c1
    subst hspot
    have c2 : W.cell? ⟨b, off, none⟩ = some (f 0).v := by simpa [Addr.add] using c1
    refine Or.inr ⟨b, off, rfl, opn.lt_of_cell' c2, fun i u hi => ?_⟩
    rw [List.map_map, List.getElem?_map] at hi
    have hil : i < len := by
     by_cases h : i < len
     ·exact h
     ·rw [List.getElem?_eq_none (by simp; omega)] at hi; cases hi
    rw [List.getElem?_range hil] at hi
    simp only [Option.map_some, Option.some.injEq, Function.comp] at hi
    have := (hf2 i (by omega)).2 0 _ rfl
    rw [← hi]
    have e : ((⟨b, off, none⟩ : Addr).add (i * 1)).add 0 = ⟨b, off + i, none⟩ := by
     rw [addr_add, addr_add]; simp
    rwa [e] at this
  ·obtain ⟨i, hi, rfl⟩ := List.mem_map.1 hs
   exact (hf2 i (by have := List.mem_range.1 hi; omega)).1
end Go.Proofs.YtbjmadcbhkeenaaGreat.wr
