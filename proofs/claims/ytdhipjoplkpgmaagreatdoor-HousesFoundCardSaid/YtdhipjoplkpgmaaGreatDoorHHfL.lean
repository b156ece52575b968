/-
  HousesFound: contracts of ledger.ahead, ledger.EntrySum and ledger.PrintEntry at the first entry. Conditions: a body without an error, a time in its bounds, the octets in memory. HousesFound: contracts of ledger.EntrySum and ledger.PrintEntry at the first entry. Conditions: a body without an error, a time in its bounds, the octets in memory. HousesFound: the cells of a state; contract of State.Next at the first state. Conditions: the roles lie behind the slice. Maps keyed by IDs, with any values: reading, writing, deleting, ranging. Conditions: IDs of 16 octets. HousesFound: contract of State.Ask at the first entry and the first state. Conditions: the entry lies in memory; the maps are empty. HousesFound: contracts of ledger.keyless, State.rowFault and State.memberFault at the first entry and the first state. Conditions: a time in its bounds; the founder is not zero.
-/
import Derived.Test.YtdhipjoplkpgmaaGreatDoorHHld
import Derived.Test.YtdhipjoplkpgmaaGreatDoorHWsF
import Derived.Test.YtdhipjoplkpgmaaGreatDoorHMem
import Derived.Maps.RangeWalk
set_option maxRecDepth 100000
set_option linter.unusedSimpArgs false
set_option linter.unusedVariables false
set_option maxHeartbeats 8000000
namespace Go.Proofs.YtdhipjoplkpgmaaGreatDoor.hf
open Go.RowKit st hs wr shr sh
theorem ahead_ok (t : Int) (f b : List Int) (ab : Option Addr) (nb cb : Nat) (w : World) (hf : f.length = 16) (of : Octs f) (ht : timeE t = 0) (hnb : nb = b.length) (hnm : nb ≤ 1000) (HPb : Pt.Ok w ⟨ab, cb, b⟩) (hno : ab = none → cb = 0) :
  Calls Tryz.prog 259 #[.agg (entC t (f.map (Value.int .u8)) (.slice ab nb cb)).toArray] w fun e w' => ∃ ao c, e = .returned (.slice ao (89 + nb) c) ∧ Mine w' w.heap.size 5 1 (.slice ao (89 + nb) c) (89 + nb) ((plainB f t b).map (Value.int .u8)) ∧ Below w.heap.size w w' := by
 have ht2 : 0 ≤ t ∧ t ≤ 4611686018427387904 := by
  unfold timeE at ht
  split at ht
  ·cases ht
  ·rename_i h; omega
 have hFl : (f.map (Value.int .u8)).length = 16 := by rw [List.length_map, hf]
 have HLl : Hid (∀ l : List Int, Octs l → True) := hid (fun _ _ => trivial)
 have hcells := fun (w : World) (g : Nat) (h : BlkV 83 w g (entC t (f.map (Value.int .u8)) (.slice ab nb cb))) => hid (ent_cells hFl h)
 have hact := fun (w : World) (g : Nat) (h : BlkV 83 w g (entC t (f.map (Value.int .u8)) (.slice ab nb cb))) => hid (ent_actor hFl h)
 have hkey := fun (w : World) (g : Nat) (h : BlkV 83 w g (entC t (f.map (Value.int .u8)) (.slice ab nb cb))) => hid (ent_key hFl h)
 have hprv := fun (w : World) (g : Nat) (h : BlkV 83 w g (entC t (f.map (Value.int .u8)) (.slice ab nb cb))) => hid (ent_prev hFl h)
 obtain ⟨CS, HCS⟩ := hidE (entC t (f.map (Value.int .u8)) (.slice ab nb cb))
 rw [← HCS.out] at hcells hact hkey hprv ⊢
 have HPB := fun (w' : World) (hb : Below w.heap.size w w') => hid (HPb.below hb)
 have HEQ : Hid ((plainB f t b).map (Value.int .u8) = (((([75, 87, 69, 49] ++ o8 0 ++ o8 t) ++ [2]) ++ f ++ List.replicate 16 0 ++ List.replicate 32 0 ++ o4 (nb : Int)).map (Value.int .u8)) ++ b.map (Value.int .u8)) := hid (by rw [← List.map_append]; congr 1; unfold plainB; rw [hnb]; simp [List.append_assoc])
 have HO1 : Octs [75, 87, 69, 49] := by intro c hc; simp only [List.mem_cons, List.not_mem_nil, or_false] at hc; rcases hc with rfl | rfl | rfl | rfl <;> exact ⟨by decide, by decide⟩
 have HO2 : Octs ([75, 87, 69, 49] ++ o8 0) := octs_app HO1 (o8_octs _)
 have HO3 : Octs ([75, 87, 69, 49] ++ o8 0 ++ o8 t) := octs_app HO2 (o8_octs _)
 have HO9 : Octs ((([75, 87, 69, 49] ++ o8 0 ++ o8 t) ++ [2]) ++ f ++ List.replicate 16 0 ++ List.replicate 32 0) := octs_app (octs_app (octs_app (octs_app HO3 (by intro c hc; rw [List.mem_singleton.1 hc]; exact ⟨by decide, by decide⟩)) of) (zeros_oct _)) (zeros_oct _)
 have HHO1 := hid HO1
 have HHO2 := hid HO2
 have HHO3 := hid HO3
 have HHO9 := hid HO9
 have hwn : IntKind.u32.wrap (nb : Int) = (nb : Int) := IntWalk.u32_in _ (by omega)
 have hal1 : Tryz.prog.arrayLen 25 = 16 := by kernel_rfl
 have hal2 : Tryz.prog.arrayLen 39 = 32 := by kernel_rfl
 obtain ⟨B, hsz⟩ := szE w
 rw [hsz] at HPB ⊢
 have hl16 : (f.map (Value.int .u8)).length = 16 * 1 := hFl
 have HBl : Hid ((b.map (Value.int .u8)).length = nb * 1) := hid (by rw [List.length_map, hnb, Nat.mul_one])
 have HFL : Hid (f.length = 16) := hid hf
 clear HO1 HO2 HO3 HO9 ht of HPb hnb HLl hFl hf
 go_enter Tryz.func259, Tryz.ntmps259
 go_wp2_with (first | (refine wl_boxV rfl 83 _ rfl CS rfl B hsz ?_; intro w1 hE1 bb1 hs1))
 have hcS := fun (w' : World) (h : BlkV 83 w' B CS) => (⟨(hcells w' B h).out.1, (hcells w' B h).out.2.1⟩ : w'.cell? ⟨B, 0, none⟩ = some (.int .i64 0) ∧ w'.cell? ⟨B, 1, none⟩ = some (.int .i64 t))
 refine wp_region_held_drew (S := (fun w' => w'.cell? ⟨B, 0, none⟩ = some (.int .i64 0) ∧ w'.cell? ⟨B, 1, none⟩ = some (.int .i64 t))) (by kernel_rfl) (hcS w1.drew hE1) (fun hHeld => ?_)
 obtain ⟨x0, HX0⟩ := hidE w1.drew
 rw [← HX0.out] at hHeld ⊢
 have hE0 : BlkV 83 x0 B CS := by rw [HX0.out]; exact hE1
 have bb0 : Below B w x0 := by rw [HX0.out]; exact bb1.drew
 have hs0 : x0.heap.size = B + 1 := by rw [HX0.out]; exact hs1
 clear hE1 bb1 hs1
 refine tq 2 rfl ?_
 refine tq 3 rfl ?_
 refine tq 5 rfl ?_
 refine tq 6 rfl ?_
 refine e1 0 rfl fun K' hK' => ?_
 refine step_lit rfl 61 5 4 _ rfl Tryz.underlying61 (.int .u8 0) 1 1 info8 (by decide) (by decide) [.int .u8 75, .int .u8 87, .int .u8 69, .int .u8 49] (by kernel_rfl) (B + 1) (by omega) ?_
 intro x1 hA1 hbx1 hsx1
 have hE1 := hE0.below hbx1 (by omega)
 have bb1 := bb0.trans (hbx1.mono (by omega : B ≤ _))
 refine ko hK' (hcS _ hE1) fun hHeld => ?_
 clear hK' K'
 refine e1 1 rfl fun K' hK' => ?_
 refine step_convC rfl _ rfl (B + 1) 4 4 [.int .u8 75, .int .u8 87, .int .u8 69, .int .u8 49] rfl hA1 ?_
 intro x2 hA2 hgx2 hbx2 hsx2
 have hE2 := hE1.grown hgx2 (by intro e; injection e with e; omega)
 have bb2 := bb1.trans (hbx2.mono (by omega : B ≤ _))
 have hs2 : x2.heap.size = B + 2 := by omega
 refine ko hK' (hcS _ hE2) fun hHeld => ?_
 clear hK' K'
 refine e1 4 rfl fun K' hK' => ?_
 rw [if_pos (by rfl)]
 go_simp
 go_at_call 143
 refine (PutLong_any (some ⟨B + 1, 0, none⟩) 4 4 [75, 87, 69, 49] 0 x2 rfl (at_rowO (l := [75, 87, 69, 49]) (by omega) hA2) (fun b e => by injection e with e; subst e; show B + 1 < _; omega) (fun h => by cases h) (by decide) (by decide)).mono ?_
 rintro e x3 ⟨ao3, c3, rfl, hM3, hbx3⟩
 have hE3 := hE2.below hbx3 (by omega)
 have bb3 := bb2.trans (hbx3.mono (by omega : B ≤ _))
 have hs3 := hbx3.size
 refine ko hK' (hcS _ hE3) fun hHeld => ?_
 clear hK' K'
 refine e1 7 rfl fun K' hK' => ?_
 rw [if_pos (by rfl)]
 go_simp
 go_at_call 143
 obtain ⟨HP3, hno3⟩ := mine_pt (l := [75, 87, 69, 49] ++ o8 0) hM3 rfl (by decide) HHO2.out
 refine (PutLong_any ao3 12 c3 ([75, 87, 69, 49] ++ o8 0) t x3 rfl HP3.row HP3.lt (fun h => (hno3 h).1) (by decide) ht2).mono ?_
 rintro e x4 ⟨ao4, c4, rfl, hM4, hbx4⟩
 have hE4 := hE3.below hbx4 (by omega)
 have bb4 := bb3.trans (hbx4.mono (by omega : B ≤ _))
 have hs4 := hbx4.size
 refine ko hK' (hcS _ hE4) fun hHeld => ?_
 clear hK' K'
 refine tq 8 rfl ?_
 refine wpAnyH_done (by kernel_rfl) ?_ _
 have hM := hM4.mono (by omega : B + 1 ≤ _)
 have hE := hE4
 have bb := bb4
 have hs : B + 1 ≤ x4.heap.size := by omega
 clear hHeld hM4 hE4 bb4 hM3 hE3 bb3 hE2 bb2 hE1 bb1 hE0 bb0 hA1 hA2 hgx2
 go_wp2_with fail
 have hcell2 := fun (w' : World) (h : BlkV 83 w' B CS) => (hcells w' B h).out.2.2.1
 refine wp_region_held_drew (S := (fun w' => w'.cell? ⟨B, 2, none⟩ = some (.int .i64 2))) (by kernel_rfl) (hcell2 x4.drew hE) (fun hHeld => ?_)
 obtain ⟨x5, HX5⟩ := hidE x4.drew
 rw [← HX5.out] at hHeld ⊢
 have hE5 : BlkV 83 x5 B CS := by rw [HX5.out]; exact hE
 have bb5 : Below B w x5 := by rw [HX5.out]; exact bb.drew
 have hM5 : Mine x5 (B + 1) 5 1 (.slice ao4 20 c4) 20 ((([75, 87, 69, 49] ++ o8 0 ++ o8 t)).map (Value.int .u8)) := by rw [HX5.out]; exact hM
 have hs5 : B + 1 ≤ x5.heap.size := by rw [HX5.out]; exact hs
 clear hM hE bb hs
 refine tq 0 rfl ?_
 refine tq 1 rfl ?_
 refine tq 2 rfl ?_
 refine tq 3 rfl ?_
 refine tq 6 rfl ?_
 refine tq 7 rfl ?_
 refine tq 9 rfl ?_
 refine tq 10 rfl ?_
 refine e1 4 rfl fun K' hK' => ?_
 obtain ⟨L1, HL1⟩ := hidE x5.heap.size
 refine step_lit rfl 61 5 1 _ rfl Tryz.underlying61 (.int .u8 0) 1 1 info8 (by decide) (by decide) [.int .u8 2] (by kernel_rfl) L1 HL1.out.symm ?_
 intro x6 hA6 hbx6 hsx6
 have hBL : B + 1 ≤ L1 := by rw [HL1.out]; exact hs5
 have hM6 := hM5.belowAll (HL1.out ▸ hbx6)
 have hE6 := hE5.below hbx6 (by omega)
 have bb6 := bb5.trans (hbx6.mono (by omega : B ≤ _))
 refine ko hK' (hcell2 _ hE6) fun hHeld => ?_
 clear hK' K'
 refine e1 5 rfl fun K' hK' => ?_
 refine step_appendS rfl _ _ 61 rfl 5 (.int .u8 0) 1 1 Tryz.underlying61 info8 rfl (by decide) (B + 1) _ 20 _ rfl hM6 (some ⟨L1, 0, none⟩) 1 1 rfl (fun h => by cases h) [.int .u8 2] rfl (at_row hA6.lt hA6.at0) (by intro u hu; rw [List.mem_singleton.1 hu]; rfl) (by unfold maxLen; omega) (by omega) (by omega) 21 rfl ?_
 intro ao7 c7 x7 row7 hc7 hM7 hV7 hg7 hr7
 have hE7 := blk_grown hE6 hg7 (fun k hk => (hr7 k hk).1) (by omega)
 have bb7 := bb6.grown hg7 (by omega) (fun k hk => by have := (hr7 k hk).1; omega)
 have hs7 : B + 1 ≤ x7.heap.size := by have := hg7.size; omega
 refine ko hK' (hcell2 _ hE7) fun hHeld => ?_
 clear hK' K'
 refine e1 8 rfl fun K' hK' => ?_
 refine step_appendS rfl _ _ 61 rfl 5 (.int .u8 0) 1 1 Tryz.underlying61 info8 rfl (by decide) (B + 1) _ 21 _ rfl hM7 (some ⟨B, 3, none⟩) 16 16 rfl (fun h => by cases h) (f.map (Value.int .u8)) hl16 (at_row (by omega) (hact _ _ hE7).out) (ints_one _ _) (by unfold maxLen; omega) (by omega) (by omega) 37 rfl ?_
 intro ao8 c8 x8 row8 hc8 hM8 hV8 hg8 hr8
 have hE8 := blk_grown hE7 hg8 (fun k hk => (hr8 k hk).1) (by omega)
 have bb8 := bb7.grown hg8 (by omega) (fun k hk => by have := (hr8 k hk).1; omega)
 have hs8 : B + 1 ≤ x8.heap.size := by have := hg8.size; omega
 refine ko hK' (hcell2 _ hE8) fun hHeld => ?_
 clear hK' K'
 refine e1 11 rfl fun K' hK' => ?_
 refine step_appendS rfl _ _ 61 rfl 5 (.int .u8 0) 1 1 Tryz.underlying61 info8 rfl (by decide) (B + 1) _ 37 _ rfl hM8 (some ⟨B, 19, none⟩) 16 16 rfl (fun h => by cases h) zID rfl (at_row (by omega) (hkey _ _ hE8).out) (ints_one _ _) (by unfold maxLen; omega) (by omega) (by omega) 53 rfl ?_
 intro ao9 c9 x9 row9 hc9 hM9 hV9 hg9 hr9
 have hE9 := blk_grown hE8 hg9 (fun k hk => (hr9 k hk).1) (by omega)
 have bb9 := bb8.grown hg9 (by omega) (fun k hk => by have := (hr9 k hk).1; omega)
 have hs9 : B + 1 ≤ x9.heap.size := by have := hg9.size; omega
 refine ko hK' (hcell2 _ hE9) fun hHeld => ?_
 clear hK' K'
 refine tq 12 rfl ?_
 refine wpAnyH_done (by kernel_rfl) ?_ _
 clear hHeld hM5 hE5 bb5 hM6 hE6 bb6 hM7 hE7 bb7 hV7 hM8 hE8 bb8 hV8 hV9 hcell2 hA6
 go_wp2_with fail
 have hcell67 := fun (w' : World) (h : BlkV 83 w' B CS) => (hcells w' B h).out.2.2.2
 have HE5 : Hid ((((([75, 87, 69, 49] ++ o8 0 ++ o8 t) ++ [2]) ++ f ++ List.replicate 16 0 ++ List.replicate 32 0)).map (Value.int .u8) = (((([75, 87, 69, 49] ++ o8 0 ++ o8 t).map (Value.int .u8) ++ [.int .u8 2]) ++ f.map (Value.int .u8)) ++ zID) ++ zSum) := hid (by unfold zID zSum; simp)
 have HL85 : Hid (85 = (((([75, 87, 69, 49] ++ o8 0 ++ o8 t) ++ [2]) ++ f ++ List.replicate 16 0 ++ List.replicate 32 0)).length) := hid (by simp [o8, HFL.out])
 refine wp_region_held_drew (S := (fun w' => w'.cell? ⟨B, 67, none⟩ = some (.slice ab nb cb))) (by kernel_rfl) (hcell67 x9.drew hE9) (fun hHeld => ?_)
 obtain ⟨y0, HY0⟩ := hidE x9.drew
 rw [← HY0.out] at hHeld ⊢
 have hE0 : BlkV 83 y0 B CS := by rw [HY0.out]; exact hE9
 have bb0 : Below B w y0 := by rw [HY0.out]; exact bb9.drew
 have hM0 : Mine y0 (B + 1) 5 1 (.slice ao9 53 c9) 53 (((([75, 87, 69, 49] ++ o8 0 ++ o8 t).map (Value.int .u8) ++ [.int .u8 2]) ++ f.map (Value.int .u8)) ++ zID) := by rw [HY0.out]; exact hM9
 have hs0 : B + 1 ≤ y0.heap.size := by rw [HY0.out]; exact hs9
 clear hM9 hE9 bb9 hs9
 refine tq 0 rfl ?_
 refine tq 1 rfl ?_
 refine tq 2 rfl ?_
 refine tq 4 rfl ?_
 refine tq 5 rfl ?_
 refine tq 6 rfl ?_
 refine tq 7 rfl ?_
 refine e1 3 rfl fun K' hK' => ?_
 refine step_appendS rfl _ _ 61 rfl 5 (.int .u8 0) 1 1 Tryz.underlying61 info8 rfl (by decide) (B + 1) _ 53 _ rfl hM0 (some ⟨B, 35, none⟩) 32 32 rfl (fun h => by cases h) zSum rfl (at_row (by omega) (hprv _ _ hE0).out) (ints_one _ _) (by unfold maxLen; omega) (by omega) (by omega) 85 rfl ?_
 intro ao1 c1 y1 row1 hc1 hM1 hV1 hg1 hr1
 have hE1 := blk_grown hE0 hg1 (fun k hk => (hr1 k hk).1) (by omega)
 have bb1 := bb0.grown hg1 (by omega) (fun k hk => by have := (hr1 k hk).1; omega)
 have hs1 : B + 1 ≤ y1.heap.size := by have := hg1.size; omega
 refine ko hK' (hcell67 _ hE1) fun hHeld => ?_
 clear hK' K'
 refine e1 8 rfl fun K' hK' => ?_
 rw [if_pos (by rfl)]
 go_simp
 go_at_call 142
 have hM1' : Mine y1 (B + 1) 5 1 (.slice ao1 85 c1) 85 ((((([75, 87, 69, 49] ++ o8 0 ++ o8 t) ++ [2]) ++ f ++ List.replicate 16 0 ++ List.replicate 32 0)).map (Value.int .u8)) := by rw [HE5.out]; exact hM1
 obtain ⟨HP1, hno1⟩ := mine_pt hM1' HL85.out (by decide) HHO9.out
 refine (PutNumber_any ao1 85 c1 _ (nb : Int) y1 HL85.out HP1.row HP1.lt (fun h => (hno1 h).1) (by decide)).mono ?_
 rintro e y2 ⟨ao2, c2, rfl, hM2, hb2⟩
 have hE2 := hE1.below hb2 (by omega)
 have bb2 := bb1.trans (hb2.mono (by omega : B ≤ _))
 have hs2 : B + 1 ≤ y2.heap.size := by have := hb2.size; omega
 have hM2 := hM2.mono (by omega : B + 1 ≤ _)
 refine ko hK' (hcell67 _ hE2) fun hHeld => ?_
 clear hK' K'
 refine tq 9 rfl ?_
 refine wpAnyH_done (by kernel_rfl) ?_ _
 clear hHeld hM0 hE0 bb0 hM1 hE1 bb1 hV1 hM1' HP1 hno1
 have c67 := hcell67 _ hE2
 clear hcell67
 go_wp2_with (first | (at_builtin; refine wl_appendS rfl _ _ 61 rfl 5 (.int .u8 0) 1 1 Tryz.underlying61 info8 rfl (by decide) (B + 1) _ 89 _ rfl hM2 ab nb cb rfl hno (b.map (Value.int .u8)) HBl.out (RowI.v (HPB _ bb2).out.row) (ints_one _ _) (by unfold maxLen; omega) (by omega) hs2 (89 + nb) rfl ?_; intro ao3 c3 y3 row3 hc3 hM3 hV3 hg3 hr3; have bb3 := bb2.grown hg3 (by omega) (fun k hk => by have := (hr3 k hk).1; omega)))
 go_ret
 exact ⟨ao3, c3, rfl, by rw [HEQ.out]; exact hM3.mono (by omega), bb3⟩
end Go.Proofs.YtdhipjoplkpgmaaGreatDoor.hf
namespace Go.Proofs.YtdhipjoplkpgmaaGreatDoor.hf
open Go.RowKit st hs wr shr sh
structure EntOk (w : World) (t : Int) (f : List Int) (rs : List ByteArray) (ao : Option Addr) (n c : Nat) : Prop where
 hf : f.length = 16
 of : Octs f
 ht : timeE t = 0
 hE : bodyE rs = 0
 hn : n = (bodyB f rs).length
 pt : Pt.Ok w ⟨ao, c, bodyB f rs⟩
 no : ao = none → c = 0
theorem EntOk.below {w w' : World} {t : Int} {f : List Int} {rs : List ByteArray} {ao : Option Addr} {n c : Nat} (h : EntOk w t f rs ao n c) (hb : Below w.heap.size w w') : EntOk w' t f rs ao n c := ⟨h.hf, h.of, h.ht, h.hE, h.hn, h.pt.below hb, h.no⟩
theorem EntOk.le {w : World} {t : Int} {f : List Int} {rs : List ByteArray} {ao : Option Addr} {n c : Nat} (h : EntOk w t f rs ao n c) : n ≤ 545 := by rw [h.hn]; exact (bodyB_len h.hf h.hE).2
theorem EntOk.fault {w : World} {t : Int} {f : List Int} {rs : List ByteArray} {ao : Option Addr} {n c : Nat} (h : EntOk w t f rs ao n c) : Calls Tryz.prog 84 #[.agg (entC t (f.map (Value.int .u8)) (.slice ao n c)).toArray] w (fun e w' => e = .returned (.int .i64 0) ∧ Below w.heap.size w w') := entryFault_ok t f rs ao n c w h.hf h.ht h.hE h.hn h.pt
theorem EntOk.ahead {w : World} {t : Int} {f : List Int} {rs : List ByteArray} {ao : Option Addr} {n c : Nat} (h : EntOk w t f rs ao n c) : Calls Tryz.prog 259 #[.agg (entC t (f.map (Value.int .u8)) (.slice ao n c)).toArray] w (fun e w' => ∃ a2 c2, e = .returned (.slice a2 (89 + n) c2) ∧ Mine w' w.heap.size 5 1 (.slice a2 (89 + n) c2) (89 + n) ((plainB f t (bodyB f rs)).map (Value.int .u8)) ∧ Below w.heap.size w w') := ahead_ok t f (bodyB f rs) ao n c w h.hf h.of h.ht h.hn (Nat.le_trans h.le (by decide)) h.pt h.no
theorem EntOk.len {w : World} {t : Int} {f : List Int} {rs : List ByteArray} {ao : Option Addr} {n c : Nat} (h : EntOk w t f rs ao n c) : (plainB f t (bodyB f rs)).length = 89 + n := by rw [plainB_length _ _ h.hf, h.hn]
theorem EntOk.octs {w : World} {t : Int} {f : List Int} {rs : List ByteArray} {ao : Option Addr} {n c : Nat} (h : EntOk w t f rs ao n c) : Octs (plainB f t (bodyB f rs)) := plainB_octs t h.of (bodyB_octs h.of h.hE)
theorem EntrySum_ok (t : Int) (f : List Int) (rs : List ByteArray) (ao : Option Addr) (n c : Nat) (w : World) (h : EntOk w t f rs ao n c) :
  Calls Tryz.prog 151 #[.agg (entC t (f.map (Value.int .u8)) (.slice ao n c)).toArray] w fun e w' => e = .returned (.tuple #[.agg ((entryS f t (bodyB f rs)).map (Value.int .u8)).toArray, .int .i64 0]) ∧ Below w.heap.size w w' := by
 have hef := fun (w' : World) (hb : Below w.heap.size w w') => hid (h.below hb).fault
 have hah := fun (w' : World) (hb : Below w.heap.size w w') => hid (h.below hb).ahead
 have hso := fun (w' : World) (a1 : Option Addr) (c1 : Nat) (h1 : Pt.Ok w' ⟨a1, c1, plainB f t (bodyB f rs)⟩) => hid (sumOf_in 3 ⟨by decide, by decide⟩ a1 c1 (89 + n) _ w' h.len.symm h1 (by have := h.le; omega))
 have HPL := hid h.len
 have HPO := hid h.octs
 have hCl := entC_len (t := t) (bo := .slice ao n c) (fv := f.map (Value.int .u8)) (by rw [List.length_map, h.hf])
 obtain ⟨PL, HPLL⟩ := hidE (plainB f t (bodyB f rs))
 unfold entryS
 rw [← HPLL.out] at hso HPL HPO hah ⊢
 obtain ⟨CS, HCS⟩ := hidE (entC t (f.map (Value.int .u8)) (.slice ao n c))
 rw [← HCS.out] at hef hah hCl ⊢
 obtain ⟨S, HS⟩ := hidE ((sumL 3 PL).map (Value.int .u8))
 have hSl : S.length = 32 := by rw [HS.out, List.length_map, sumL_length]
 have hS1 : ∀ u ∈ S, u.oneCell' = true := by rw [HS.out]; exact ints_one _ _
 rw [← HS.out] at hso ⊢
 obtain ⟨Z, HZ⟩ := hidE zSum
 have hz := hid zeroSumZ
 have hZl : Z.length = 32 := by rw [HZ.out]; rfl
 rw [← HZ.out] at hz
 obtain ⟨B, hsz⟩ := szE w
 rw [hsz] at hef hah ⊢
 clear h
 go_enter Tryz.func151, Tryz.ntmps151
 go_wp2_with (first
  | (refine wl_storeV rfl 39 _ _ rfl 39 (B + 1) rfl S rfl 32 aggSumT hSl Z hT5 hZl hS1 ?_; intro w6 hT6 hb6 hs6; have bb6 : Below B w w6 := bb5.trans (hb6.mono (by omega)))
  | (go_at_call 100; refine (hso w4 a4 c4 (mine_pt hM4 HPL.out.symm (by omega) HPO.out).1).out.mono ?_; rintro e w5 ⟨rfl, hb5⟩; have hT5 := hT4.below hb5 hT4.lt; have bb5 : Below B w w5 := bb4.trans (hb5.mono (by have := bb4.size; omega)))
  | (go_at_call 259; refine (hah w3 bb3).out.mono ?_; rintro e w4 ⟨a4, c4, rfl, hM4, hb4⟩; have hT4 := hT3.below hb4 hT3.lt; have bb4 : Below B w w4 := bb3.trans (hb4.mono (by have := bb3.size; omega)))
  | (go_at_call 84; refine (hef w2 bb2).out.mono ?_; rintro e w3 ⟨rfl, hb3⟩; have hT3 := hT2.below hb3 hT2.lt; have hE3 := hE2.below hb3 hE2.lt; have bb3 : Below B w w3 := bb2.trans (hb3.mono (by omega)))
  | (refine wl_loadG (by rfl) 83 _ rfl ⟨B, 0, none⟩ rfl 68 CS hCl aggEntry hE3.at0 ?_)
  | (refine wl_loadG (by rfl) 83 _ rfl ⟨B, 0, none⟩ rfl 68 CS hCl aggEntry hE2.at0 ?_)
  | (refine wl_allocV rfl 39 rfl Z hz.out (B + 1) (by omega) ?_; intro w2 hT2 hb2 hs2; have hE2 := hE1.below hb2 (by omega); have bb2 : Below B w w2 := bb1.trans (hb2.mono (by omega)))
  | (refine wl_boxV rfl 83 _ rfl CS rfl B hsz ?_; intro w1 hE1 bb1 hs1))
 (try simp only [Exit.inBlock, Exit.then]); refine bodyPost_ret (results_cell2 rfl _ _ _ _ rfl S (by rw [hSl]; exact aggSumT) hT6.at0) rfl ?_
 exact ⟨rfl, bb6⟩
theorem PrintEntry_ok (t : Int) (f : List Int) (rs : List ByteArray) (ao : Option Addr) (n c : Nat) (w : World) (h : EntOk w t f rs ao n c) :
  Calls Tryz.prog 157 #[.agg (entC t (f.map (Value.int .u8)) (.slice ao n c)).toArray] w fun e w' => ∃ a2 c2, e = .returned (.tuple #[.slice a2 (121 + n) c2, .int .i64 0]) ∧ Mine w' w.heap.size 5 1 (.slice a2 (121 + n) c2) (121 + n) ((entryB f t (bodyB f rs)).map (Value.int .u8)) ∧ Below w.heap.size w w' := by
 have hes := fun (w' : World) (hb : Below w.heap.size w w') => hid (EntrySum_ok t f rs ao n c w' (h.below hb))
 have hah := fun (w' : World) (hb : Below w.heap.size w w') => hid (h.below hb).ahead
 have hCl := entC_len (t := t) (bo := .slice ao n c) (fv := f.map (Value.int .u8)) (by rw [List.length_map, h.hf])
 have HEQ : Hid ((entryB f t (bodyB f rs)).map (Value.int .u8) = (plainB f t (bodyB f rs)).map (Value.int .u8) ++ (entryS f t (bodyB f rs)).map (Value.int .u8)) := hid (by unfold entryB; rw [List.map_append])
 have hnl := h.le
 obtain ⟨CS, HCS⟩ := hidE (entC t (f.map (Value.int .u8)) (.slice ao n c))
 rw [← HCS.out] at hes hah hCl ⊢
 have hSl0 := entryS_length f t (bodyB f rs)
 obtain ⟨S, HS⟩ := hidE ((entryS f t (bodyB f rs)).map (Value.int .u8))
 have hSl : S.length = 32 := by rw [HS.out, List.length_map, hSl0]
 have hS1 : ∀ u ∈ S, u.oneCell' = true := by rw [HS.out]; exact ints_one _ _
 rw [← HS.out] at hes HEQ
 obtain ⟨PL, HPLL⟩ := hidE (plainB f t (bodyB f rs))
 rw [← HPLL.out] at hah HEQ
 obtain ⟨Z, HZ⟩ := hidE zSum
 have hz := hid zeroSumZ
 have hZl : Z.length = 32 := by rw [HZ.out]; rfl
 rw [← HZ.out] at hz
 obtain ⟨B, hsz⟩ := szE w
 have hal2 : Tryz.prog.arrayLen 39 = 32 := by kernel_rfl
 rw [hsz] at hes hah ⊢
 clear h hSl0
 go_enter Tryz.func157, Tryz.ntmps157
 go_wp2_with (first
  | (refine wl_storeV rfl 39 _ _ rfl 39 M rfl S rfl 32 aggSumT hSl Z hT3 hZl hS1 ?_; intro w4 hT4 hb4 hs4; have hE4 := hE3.below hb4 (by omega); have bb4 : Below B w w4 := bb3.trans (hb4.mono (by omega)))
  | (obtain ⟨M, HM⟩ := hidE w2.heap.size; have hsM : w2.heap.size = M := HM.out.symm; have hBM : B < M := (by have := hb2.size; omega); refine wl_allocV rfl 39 rfl Z hz.out M hsM ?_; intro w3 hT3 hb3 hs3; have hE3 := hE2.below hb3 (by omega); have bb3 : Below B w w3 := bb2.trans (hb3.mono (by omega)))
  | (go_at_call 151; refine (hes w1 bb1).out.mono ?_; rintro e w2 ⟨rfl, hb2⟩; have hE2 := hE1.below hb2 hE1.lt; have bb2 : Below B w w2 := bb1.trans (hb2.mono (by omega)))
  | (refine wl_loadG (by rfl) 83 _ rfl ⟨B, 0, none⟩ rfl 68 CS hCl aggEntry hE1.at0 ?_)
  | (refine wl_boxV rfl 83 _ rfl CS rfl B hsz ?_; intro w1 hE1 bb1 hs1))
 have hiE : (Tryz.prog.info? 83).map (·.size) = some CS.length := by rw [hCl]; exact aggEntry.2
 refine wp_region_held_drew (S := (fun w' => w'.rangeAt B 0 CS)) (by kernel_rfl) (at_range (w := w4.drew) hE4.at0) (fun hHeld => ?_)
 obtain ⟨x0, HX0⟩ := hidE w4.drew
 rw [← HX0.out] at hHeld ⊢
 have hE0 : BlkV 83 x0 B CS := by rw [HX0.out]; exact hE4
 have hT0 : BlkV 39 x0 M S := by rw [HX0.out]; exact hT4
 have bb0 : Below B w x0 := by rw [HX0.out]; exact bb4.drew
 have hs0 : M < x0.heap.size := by rw [HX0.out]; show M < w4.heap.size; omega
 clear hE4 hT4 bb4
 refine tk 0 rfl (yieldsIf_load_mid (by rfl) 83 _ rfl B 0 rfl CS _ (fun w hS => hS) Tryz.underlying83 rfl hiE) ?_
 refine tq 2 rfl ?_
 refine e1 1 rfl fun K' hK' => ?_
 rw [if_pos (by rfl)]
 go_simp
 go_at_call 259
 refine (hah x0 bb0).out.mono ?_
 rintro e x1 ⟨a1, c1, rfl, hM1, hb1⟩
 have hE1 := hE0.below hb1 (by omega)
 have hT1 := hT0.below hb1 (by omega)
 have bb1 := bb0.trans (hb1.mono (by omega : B ≤ _))
 have hM1 := hM1.mono (by omega : B + 1 ≤ _)
 have hs1 : B + 1 ≤ x1.heap.size := by have := hb1.size; omega
 refine ko hK' (at_range hE1.at0) fun hHeld => ?_
 clear hK' K'
 refine e1 3 rfl fun K' hK' => ?_
 refine step_appendS rfl _ _ 61 rfl 5 (.int .u8 0) 1 1 Tryz.underlying61 info8 rfl (by decide) (B + 1) _ (89 + n) _ rfl hM1 (some ⟨M, 0, none⟩) 32 32 rfl (fun h => by cases h) S (by rw [hSl]) (at_row hT1.lt hT1.at0) hS1 (by unfold maxLen; omega) (by omega) hs1 (121 + n) (by omega) ?_
 intro ao2 c2 x2 row2 hc2 hM2 hV2 hg2 hr2
 have hE2 := blk_grown hE1 hg2 (fun k hk => (hr2 k hk).1) (by omega)
 have bb2 := bb1.grown hg2 (by omega) (fun k hk => by have := (hr2 k hk).1; omega)
 refine ko hK' (at_range hE2.at0) fun hHeld => ?_
 clear hK' K'
 refine tq 4 rfl ?_
 refine tq 5 rfl ?_
 refine wpAnyH_done (by kernel_rfl) ?_ _
 clear hHeld
 go_wp2_with fail
 go_ret2
 exact ⟨ao2, c2, rfl, by rw [HEQ.out]; exact hM2.mono (by omega), bb2⟩
end Go.Proofs.YtdhipjoplkpgmaaGreatDoor.hf
namespace Go.Proofs.YtdhipjoplkpgmaaGreatDoor.hf
open Go.RowKit st hs wr shr sh
def stC (cnt tm : Int) (lv gv : List Value) (mm mk mv : Nat) : List Value := .int .i64 cnt :: .int .i64 tm :: (lv ++ (.slice none 0 0 :: .bool false :: (gv ++ [.map (some mm), .map (some mk), .map (some mv)])))
section
variable {cnt tm : Int} {lv gv : List Value} {mm mk mv : Nat} {w : World} {g : Nat}
theorem stC_len (hl : lv.length = 32) (hg : gv.length = 16) : (stC cnt tm lv gv mm mk mv).length = 55 := by simp [stC, hl, hg]
theorem stC_mid (hl : lv.length = 32) (j : Nat) : (stC cnt tm lv gv mm mk mv)[34 + j]? = (Value.slice none 0 0 :: .bool false :: (gv ++ [.map (some mm), .map (some mk), .map (some mv)]))[j]? := by
 unfold stC
 rw [show 34 + j = (lv.length + j) + 1 + 1 by omega, List.getElem?_cons_succ, List.getElem?_cons_succ, List.getElem?_append_right (by omega), Nat.add_sub_cancel_left]
theorem stC_end (hl : lv.length = 32) (hg : gv.length = 16) (j : Nat) : (stC cnt tm lv gv mm mk mv)[52 + j]? = [Value.map (some mm), .map (some mk), .map (some mv)][j]? := by
 rw [show 52 + j = 34 + ((gv.length + j) + 1 + 1) by omega, stC_mid hl, List.getElem?_cons_succ, List.getElem?_cons_succ, List.getElem?_append_right (by omega), Nat.add_sub_cancel_left]
theorem st_cells (hl : lv.length = 32) (hg : gv.length = 16) (hB : BlkV 160 w g (stC cnt tm lv gv mm mk mv)) : w.cell? ⟨g, 0, none⟩ = some (.int .i64 cnt) ∧ w.cell? ⟨g, 1, none⟩ = some (.int .i64 tm) ∧ w.cell? ⟨g, 34, none⟩ = some (.slice none 0 0) ∧ w.cell? ⟨g, 35, none⟩ = some (.bool false) ∧
  w.cell? ⟨g, 52, none⟩ = some (.map (some mm)) ∧ w.cell? ⟨g, 53, none⟩ = some (.map (some mk)) ∧ w.cell? ⟨g, 54, none⟩ = some (.map (some mv)) :=
 ⟨hB.cell 0, hB.cell 1, (hB.cell 34).trans (stC_mid hl 0), (hB.cell 35).trans (stC_mid hl 1), (hB.cell 52).trans (stC_end hl hg 0), (hB.cell 53).trans (stC_end hl hg 1), (hB.cell 54).trans (stC_end hl hg 2)⟩
theorem st_last (hB : BlkV 160 w g (stC cnt tm lv gv mm mk mv)) : At w ⟨g, 2, none⟩ lv := hB.at 2 lv fun j u hu => by
 have hj := (List.getElem?_eq_some_iff.1 hu).1
 unfold stC
 rw [Nat.add_comm 2 j, List.getElem?_cons_succ, List.getElem?_cons_succ, List.getElem?_append_left hj]; exact hu
theorem st_founder (hl : lv.length = 32) (hB : BlkV 160 w g (stC cnt tm lv gv mm mk mv)) : At w ⟨g, 36, none⟩ gv := hB.at 36 gv fun j u hu => by
 have hj := (List.getElem?_eq_some_iff.1 hu).1
 rw [show 36 + j = 34 + (j + 1 + 1) by omega, stC_mid hl, List.getElem?_cons_succ, List.getElem?_cons_succ, List.getElem?_append_left hj]; exact hu
end
theorem yieldsIf_build {P : Program} {ops : Array Oper} {S : World → Prop} {op : Oper} {a : Act} (hw : Region.wanted op (yielded ops a.tmps) = true) (t : TypeId) (l : List (Nat × Operand)) (ho : op.op = .build t l.toArray) (vs : List (Nat × Value)) (hv : l.map (fun p => (p.1, a.eval p.2)) = vs)
  (cs : List Value) (hb : P.built t vs = some cs.toArray) : YieldsIf P ops S op (.agg cs.toArray) a :=
 .inl ⟨hw, fun w hw' => by
  have e : (l.toArray.map fun (i, x) => (i, a.eval x)) = vs.toArray := by rw [← hv]; simp
  unfold execOp
  simp only [ho, e]
  simp [run_build w t vs.toArray cs.toArray (by simpa using hb), Result.andThen]⟩
def NextPost (t : Int) (f : List Int) (rs : List ByteArray) (w : World) (e : Ending) (w' : World) : Prop := Below w.heap.size w w' ∧
 ((bodyE rs ≠ 0 ∧ e = .returned (.tuple #[.agg entZ.toArray, .int .i64 (bodyE rs)])) ∨ (bodyE rs = 0 ∧ timeE t ≠ 0 ∧ e = .returned (.tuple #[.agg entZ.toArray, .int .i64 (timeE t)])) ∨
  (bodyE rs = 0 ∧ timeE t = 0 ∧ ∃ g c, e = .returned (.tuple #[.agg (entC t (f.map (Value.int .u8)) (.slice (some ⟨g, 0, none⟩) (bodyB f rs).length c)).toArray, .int .i64 0]) ∧ w.heap.size ≤ g ∧ g < w'.heap.size ∧ Pt.Ok w' ⟨some ⟨g, 0, none⟩, c, bodyB f rs⟩))
theorem Next_bad (g : Nat) (mm mk mv : Nat) (t : Int) (f : List Int) (hf : f.length = 16) (of : Octs f) (ao : Option Addr) (cap : Nat) (rs : List ByteArray) (w : World) (hS : BlkV 160 w g (stC 0 0 zSum zID mm mk mv)) (hr : RowS w ao rs) (hs : ∀ i, i < rs.length → (roleAt rs i).size ≤ maxLen) (hn : rs.length ≤ 9223372036854775807) (hE : bodyE rs ≠ 0) :
  Calls Tryz.prog 35 #[.pointer (some ⟨g, 0, none⟩), .int .i64 t, .int .i64 2, .agg (f.map (Value.int .u8)).toArray, .agg zID.toArray, .agg (bodyC (f.map (Value.int .u8)) (.slice ao rs.length cap)).toArray] w (NextPost t f rs w) := by
 have hFl : (f.map (Value.int .u8)).length = 16 := by rw [List.length_map, hf]
 have HP : Hid (∀ w', Below w.heap.size w w' → NextPost t f rs w (.returned (.tuple #[.agg entZ.toArray, .int .i64 (bodyE rs)])) w') := hid (fun w' hb => ⟨hb, Or.inl ⟨hE, rfl⟩⟩)
 have hpb := fun (w' : World) (hb : Below w.heap.size w w') => hid (PrintBody_bad f hf ao cap rs w' (hr.below hb) hs hn hE)
 have hOB := hid (fun (h : bodyE rs = 0) => bodyB_octs of h)
 have hBl := hid (bodyC_len (ro := .slice ao rs.length cap) hFl)
 have HEl := fun bo => hid (entC_len (t := t) (bo := bo) hFl)
 have HE1 := fun bo h => hid (entC_one (t := t) (bo := bo) (ints_one .u8 f) h)
 have HbE := fun ao n c => hid (builtEntry hFl t ao n c)
 obtain ⟨Q, HQ⟩ := hidE (NextPost t f rs w)
 rw [← HQ.out] at HP ⊢
 obtain ⟨BS, HBS⟩ := hidE (bodyC (f.map (Value.int .u8)) (.slice ao rs.length cap))
 rw [← HBS.out] at hpb hBl ⊢
 obtain ⟨F, HF⟩ := hidE (f.map (Value.int .u8))
 have hF1 : ∀ u ∈ F, u.oneCell' = true := by rw [HF.out]; exact ints_one _ _
 rw [← HF.out] at hFl HEl HE1 HbE ⊢
 obtain ⟨ZI, HZI⟩ := hidE zID
 obtain ⟨ZS, HZS⟩ := hidE zSum
 have hZIl : ZI.length = 16 := by rw [HZI.out]; rfl
 have hZSl : ZS.length = 32 := by rw [HZS.out]; rfl
 have hcnt := fun (w' : World) (h : BlkV 160 w' g (stC 0 0 zSum zID mm mk mv)) => hid (⟨(st_cells rfl rfl h).1, st_last h⟩ : w'.cell? ⟨g, 0, none⟩ = some (.int .i64 0) ∧ At w' ⟨g, 2, none⟩ zSum)
 rw [← HZS.out] at hcnt HbE
 rw [← HZI.out] at hcnt HbE hS ⊢
 rw [← HZS.out] at hS
 have hz := hid zeroEntry
 have hbz := hid builtEntry0
 have HZ0 := hid entZ_len
 have HZ1 : Hid (∀ u ∈ entZ, u.oneCell' = true) := hid (by decide)
 obtain ⟨Z, HZ⟩ := hidE entZ
 rw [← HZ.out] at hz hbz HZ0 HZ1
 rw [← HZ.out] at HP
 obtain ⟨B, hsz⟩ := szE w
 have hgB : g < B := by rw [← hsz]; exact hS.lt
 rw [hsz] at HP hpb
 have hSb := fun (w' : World) (hb : Below B w w') => hid (hS.below hb hgB)
 clear hr hs
 go_enter Tryz.func35, Tryz.ntmps35
 go_wp2_with (first
  | (refine wl_storeV rfl 83 _ _ rfl 83 (B + 3) rfl Z rfl 68 aggEntry HZ0.out Z hT5 HZ0.out HZ1.out ?_; intro w6 hT6 hb6 hs6; have bb6 : Below B w w6 := bb5.trans (hb6.mono (by omega)))
  | (refine wl_build0G (by rfl) 83 rfl Z hbz.out ?_)
  | (go_at_call 83; refine (hpb w4 bb4).out.mono ?_; rintro e w5 ⟨hb5, ⟨hE5, rfl⟩ | ⟨hE5, _⟩⟩; rotate_left; exact absurd hE5 hE; have bb5 : Below B w w5 := bb4.trans (hb5.mono (by omega)); have hT5 := hT4.below hb5 (by omega); have hE2 : (bodyE rs == 0) = false := (by simpa using hE))
  | (refine wl_loadG (by rfl) 42 _ rfl ⟨B + 2, 0, none⟩ rfl 58 BS hBl.out aggBody hY4.at0 ?_)
  | (refine wl_allocV rfl 83 rfl Z hz.out (B + 3) (by omega) ?_; intro w4 hT4 hb4 hs4; have hA4 := hA3.below hb4 (by omega); have hK4 := hK3.below hb4 (by omega); have hY4 := hY3.below hb4 (by omega); have bb4 : Below B w w4 := bb3.trans (hb4.mono (by omega)))
  | (refine wl_boxV rfl 42 _ rfl BS rfl (B + 2) (by omega) ?_; intro w3 hY3 hb3 hs3; have hA3 := hA2.below hb3 (by omega); have hK3 := hK2.below hb3 (by omega); have bb3 : Below B w w3 := bb2.trans (hb3.mono (by omega)))
  | (refine wl_boxV rfl 25 _ rfl ZI rfl (B + 1) (by omega) ?_; intro w2 hK2 hb2 hs2; have hA2 := hA1.below hb2 (by omega); have bb2 : Below B w w2 := bb1.trans (hb2.mono (by omega)))
  | (refine wl_boxV rfl 25 _ rfl F rfl B hsz ?_; intro w1 hA1 bb1 hs1))
 (try simp only [Exit.inBlock, Exit.then]); refine bodyPost_ret (results_cell2 rfl _ _ _ _ rfl Z (by rw [HZ0.out]; exact aggEntry) hT6.at0) rfl ?_
 exact HP.out _ bb6
theorem Next_late (g : Nat) (mm mk mv : Nat) (t : Int) (f : List Int) (hf : f.length = 16) (of : Octs f) (ao : Option Addr) (cap : Nat) (rs : List ByteArray) (w : World) (hS : BlkV 160 w g (stC 0 0 zSum zID mm mk mv)) (hr : RowS w ao rs) (hs : ∀ i, i < rs.length → (roleAt rs i).size ≤ maxLen) (hn : rs.length ≤ 9223372036854775807) (hE : bodyE rs = 0) (ht : timeE t ≠ 0) :
  Calls Tryz.prog 35 #[.pointer (some ⟨g, 0, none⟩), .int .i64 t, .int .i64 2, .agg (f.map (Value.int .u8)).toArray, .agg zID.toArray, .agg (bodyC (f.map (Value.int .u8)) (.slice ao rs.length cap)).toArray] w (NextPost t f rs w) := by
 have hFl : (f.map (Value.int .u8)).length = 16 := by rw [List.length_map, hf]
 have HP : Hid (∀ w', Below w.heap.size w w' → NextPost t f rs w (.returned (.tuple #[.agg entZ.toArray, .int .i64 (timeE t)])) w') := hid (fun w' hb => ⟨hb, Or.inr (Or.inl ⟨hE, ht, rfl⟩)⟩)
 have hpb := fun (w' : World) (hb : Below w.heap.size w w') => hid (PrintBody_ok f hf of ao cap rs w' (hr.below hb) hE)
 have hef := fun (bo : Value) (w' : World) => hid (entryFault_bad t f bo w' hf ht)
 have hte : (timeE t == 0) = false := by simpa using ht
 have hOB := hid (fun (h : bodyE rs = 0) => bodyB_octs of h)
 have hBl := hid (bodyC_len (ro := .slice ao rs.length cap) hFl)
 have HEl := fun bo => hid (entC_len (t := t) (bo := bo) hFl)
 have HE1 := fun bo h => hid (entC_one (t := t) (bo := bo) (ints_one .u8 f) h)
 have HbE := fun ao n c => hid (builtEntry hFl t ao n c)
 obtain ⟨Q, HQ⟩ := hidE (NextPost t f rs w)
 rw [← HQ.out] at HP ⊢
 obtain ⟨BS, HBS⟩ := hidE (bodyC (f.map (Value.int .u8)) (.slice ao rs.length cap))
 rw [← HBS.out] at hpb hBl ⊢
 obtain ⟨F, HF⟩ := hidE (f.map (Value.int .u8))
 have hF1 : ∀ u ∈ F, u.oneCell' = true := by rw [HF.out]; exact ints_one _ _
 rw [← HF.out] at hFl HEl HE1 HbE ⊢
 rw [← HF.out] at hef
 obtain ⟨ZI, HZI⟩ := hidE zID
 obtain ⟨ZS, HZS⟩ := hidE zSum
 have hZIl : ZI.length = 16 := by rw [HZI.out]; rfl
 have hZSl : ZS.length = 32 := by rw [HZS.out]; rfl
 have hcnt := fun (w' : World) (h : BlkV 160 w' g (stC 0 0 zSum zID mm mk mv)) => hid (⟨(st_cells rfl rfl h).1, st_last h⟩ : w'.cell? ⟨g, 0, none⟩ = some (.int .i64 0) ∧ At w' ⟨g, 2, none⟩ zSum)
 rw [← HZS.out] at hcnt HbE
 rw [← HZI.out] at hcnt HbE hS ⊢
 rw [← HZS.out] at hS
 have hz := hid zeroEntry
 have hbz := hid builtEntry0
 have HZ0 := hid entZ_len
 have HZ1 : Hid (∀ u ∈ entZ, u.oneCell' = true) := hid (by decide)
 obtain ⟨Z, HZ⟩ := hidE entZ
 rw [← HZ.out] at hz hbz HZ0 HZ1
 rw [← HZ.out] at HP
 obtain ⟨B, hsz⟩ := szE w
 have hgB : g < B := by rw [← hsz]; exact hS.lt
 rw [hsz] at HP hpb
 have hSb := fun (w' : World) (hb : Below B w w') => hid (hS.below hb hgB)
 clear hr hs
 go_enter Tryz.func35, Tryz.ntmps35
 go_wp2_with (first
  | (go_at_call 83; refine (hpb w4 bb4).out.mono ?_; rintro e w5 ⟨hb5, ⟨hE5, rfl⟩ | ⟨_, gb, cb, rfl, hO5⟩⟩; exact absurd hE hE5; have bb5 : Below B w w5 := bb4.trans (hb5.mono (by omega)); have hT5 := hT4.below hb5 (by omega); have hA5 := hA4.below hb5 (by omega); have hK5 := hK4.below hb5 (by omega); have hs5 : B + 4 ≤ w5.heap.size := (by have := hb5.size; omega))
  | (refine wl_loadG (by rfl) 42 _ rfl ⟨B + 2, 0, none⟩ rfl 58 BS hBl.out aggBody hY4.at0 ?_)
  | (refine wl_allocV rfl 83 rfl Z hz.out (B + 3) (by omega) ?_; intro w4 hT4 hb4 hs4; have hA4 := hA3.below hb4 (by omega); have hK4 := hK3.below hb4 (by omega); have hY4 := hY3.below hb4 (by omega); have bb4 : Below B w w4 := bb3.trans (hb4.mono (by omega)))
  | (refine wl_boxV rfl 42 _ rfl BS rfl (B + 2) (by omega) ?_; intro w3 hY3 hb3 hs3; have hA3 := hA2.below hb3 (by omega); have hK3 := hK2.below hb3 (by omega); have bb3 : Below B w w3 := bb2.trans (hb3.mono (by omega)))
  | (refine wl_boxV rfl 25 _ rfl ZI rfl (B + 1) (by omega) ?_; intro w2 hK2 hb2 hs2; have hA2 := hA1.below hb2 (by omega); have bb2 : Below B w w2 := bb1.trans (hb2.mono (by omega)))
  | (refine wl_boxV rfl 25 _ rfl F rfl B hsz ?_; intro w1 hA1 bb1 hs1))
 obtain ⟨_, cb', e5, hlow5, hlt5, hPt5⟩ := hO5.pt (hOB.out hE)
 injection e5 with e5a e5b e5c
 injection e5a with e5a
 injection e5a with e5a
 subst e5a; subst e5c
 obtain ⟨N, HN⟩ := hidE ((bodyB f rs).length)
 have hbE := HbE (some ⟨gb, 0, none⟩) N cb
 have hEl := (HEl (.slice (some ⟨gb, 0, none⟩) N cb)).out
 have hE1 := (HE1 (.slice (some ⟨gb, 0, none⟩) N cb) rfl).out
 have hef' := hef (.slice (some ⟨gb, 0, none⟩) N cb)
 obtain ⟨ES, HES⟩ := hidE (entC t F (.slice (some ⟨gb, 0, none⟩) N cb))
 rw [← HES.out] at hbE hEl hE1 hef'
 rw [← HN.out]
 have hiF : (Tryz.prog.info? 25).map (·.size) = some F.length := by rw [hFl]; exact aggIDT.2
 have hiZI : (Tryz.prog.info? 25).map (·.size) = some ZI.length := by rw [hZIl]; exact aggIDT.2
 have hiZS : (Tryz.prog.info? 39).map (·.size) = some ZS.length := by rw [hZSl]; exact aggSumT.2
 have hSS : ∀ w', Below (B + 4) w5 w' → (w'.cell? ⟨g, 0, none⟩ = some (.int .i64 0) ∧ w'.rangeAt B 0 F ∧ w'.rangeAt (B + 1) 0 ZI ∧ w'.rangeAt g 2 ZS) := fun w' hb => by
  have h1 := (hcnt w' (hSb w' (bb5.trans (hb.mono (by omega)))).out).out
  exact ⟨h1.1, at_range (hA5.below hb (by omega)).at0, at_range (hK5.below hb (by omega)).at0, at_range h1.2⟩
 refine wp_region_held_drew (S := (fun w' => w'.cell? ⟨g, 0, none⟩ = some (.int .i64 0) ∧ w'.rangeAt B 0 F ∧ w'.rangeAt (B + 1) 0 ZI ∧ w'.rangeAt g 2 ZS)) (by kernel_rfl) (hSS _ (bdN (Below.refl _ _) 1)) (fun hHeld => ?_)
 obtain ⟨x0, HX0⟩ := hidE w5.drew
 rw [← HX0.out] at hHeld ⊢
 have bx0 : Below (B + 4) w5 x0 := by rw [HX0.out]; exact (Below.refl _ _).drew
 have hT0 : BlkV 83 x0 (B + 3) Z := by rw [HX0.out]; exact hT5
 have hPt0 : Pt.Ok x0 ⟨some ⟨gb, 0, none⟩, cb, bodyB f rs⟩ := by rw [HX0.out]; exact ptDr hPt5
 have hs0 : x0.heap.size = w5.heap.size := by rw [HX0.out]; rfl
 refine tq 0 rfl ?_
 refine tq 1 rfl ?_
 refine tq 2 rfl ?_
 refine tq 3 rfl ?_
 refine tq 4 rfl ?_
 refine tq 5 rfl ?_
 refine tk 6 rfl (yieldsIf_load_mid (by rfl) 25 _ rfl B 0 rfl F _ (fun w hS => hS.2.1) Tryz.underlying25 rfl hiF) ?_
 refine tk 7 rfl (yieldsIf_load_mid (by rfl) 25 _ rfl (B + 1) 0 rfl ZI _ (fun w hS => hS.2.2.1) Tryz.underlying25 rfl hiZI) ?_
 refine tq 8 rfl ?_
 refine tq 9 rfl ?_
 refine tq 10 rfl ?_
 refine tk 11 rfl (yieldsIf_load_mid (by rfl) 39 _ rfl g 2 rfl ZS _ (fun w hS => hS.2.2.2) Tryz.underlying39 rfl hiZS) ?_
 refine tq 12 rfl ?_
 refine tk 13 rfl (yieldsIf_build (by rfl) 83 _ rfl [(0, .int .i64 0), (1, .int .i64 t), (2, .int .i64 2), (3, .agg F.toArray), (4, .agg ZI.toArray), (5, .agg ZS.toArray), (6, .slice (some ⟨gb, 0, none⟩) N cb)] rfl ES hbE.out) ?_
 refine e1 14 rfl fun K' hK' => ?_
 obtain ⟨X, HX⟩ := hidE x0.heap.size
 refine step_allocV rfl 83 rfl Z hz.out X HX.out.symm ?_
 intro x1 hX1 hb1 hsz1
 have hBX : B + 4 ≤ X := by rw [HX.out]; omega
 have hgX : gb < X := by rw [HX.out]; omega
 have bx1 : Below (B + 4) w5 x1 := bx0.trans (hb1.mono (by omega))
 have hT1 := hT0.below hb1 (by omega)
 have hPt1 := ptLow hPt0 hb1 (fun b e => by injection e with e; subst e; exact hgX)
 refine ko hK' (hSS _ bx1) fun hHeld => ?_
 clear hK' K'
 refine e1 15 rfl fun K' hK' => ?_
 refine step_storeV rfl 83 _ _ rfl 83 X rfl ES rfl 68 aggEntry hEl Z hX1 HZ0.out hE1 ?_
 intro x2 hX2 hb2 hsz2
 have bx2 : Below (B + 4) w5 x2 := bx1.trans (hb2.mono (by omega))
 have hT2 := hT1.below hb2 (by omega)
 have hPt2 := ptLow hPt1 hb2 (fun b e => by injection e with e; subst e; exact hgX)
 refine ko hK' (hSS _ bx2) fun hHeld => ?_
 clear hK' K'
 refine wpAnyH_done (by kernel_rfl) ?_ _
 clear hHeld hSS
 have bb7 : Below B w x2 := bb5.trans (bx2.mono (by omega))
 go_wp2_with (first
  | (refine wl_storeV rfl 83 _ _ rfl 83 (B + 3) rfl Z rfl 68 aggEntry HZ0.out Z hT8 HZ0.out HZ1.out ?_; intro w9 hT9 hb9 hs9; have bb9 : Below B w w9 := bb8.trans (hb9.mono (by omega)))
  | (refine wl_build0G (by rfl) 83 rfl Z hbz.out ?_)
  | (go_at_call 84; refine (hef' x2).out.mono ?_; rintro e w8 ⟨rfl, hb8⟩; have bb8 : Below B w w8 := bb7.trans (hb8.mono (by omega)); have hT8 := hT2.below hb8 (by omega))
  | (refine wl_loadG (by rfl) 83 _ rfl ⟨X, 0, none⟩ rfl 68 ES hEl aggEntry hX2.at0 ?_))
 (try simp only [Exit.inBlock, Exit.then]); refine bodyPost_ret (results_cell2 rfl _ _ _ _ rfl Z (by rw [HZ0.out]; exact aggEntry) hT9.at0) rfl ?_
 exact HP.out _ bb9
theorem Next_ok (g : Nat) (mm mk mv : Nat) (t : Int) (f : List Int) (hf : f.length = 16) (of : Octs f) (ao : Option Addr) (cap : Nat) (rs : List ByteArray) (w : World) (hS : BlkV 160 w g (stC 0 0 zSum zID mm mk mv)) (hr : RowS w ao rs) (hs : ∀ i, i < rs.length → (roleAt rs i).size ≤ maxLen) (hn : rs.length ≤ 9223372036854775807) (hE : bodyE rs = 0) (ht : timeE t = 0) :
  Calls Tryz.prog 35 #[.pointer (some ⟨g, 0, none⟩), .int .i64 t, .int .i64 2, .agg (f.map (Value.int .u8)).toArray, .agg zID.toArray, .agg (bodyC (f.map (Value.int .u8)) (.slice ao rs.length cap)).toArray] w (NextPost t f rs w) := by
 have hFl : (f.map (Value.int .u8)).length = 16 := by rw [List.length_map, hf]
 have HP : Hid (∀ gb c w', Below w.heap.size w w' → w.heap.size ≤ gb → gb < w'.heap.size → Pt.Ok w' ⟨some ⟨gb, 0, none⟩, c, bodyB f rs⟩ → NextPost t f rs w (.returned (.tuple #[.agg (entC t (f.map (Value.int .u8)) (.slice (some ⟨gb, 0, none⟩) (bodyB f rs).length c)).toArray, .int .i64 0])) w') := hid (fun gb c w' h1 h2 h3 h4 => ⟨h1, Or.inr (Or.inr ⟨hE, ht, gb, c, rfl, h2, h3, h4⟩)⟩)
 have hpb := fun (w' : World) (hb : Below w.heap.size w w') => hid (PrintBody_ok f hf of ao cap rs w' (hr.below hb) hE)
 have hef := fun (gb c : Nat) (w' : World) (h : Pt.Ok w' ⟨some ⟨gb, 0, none⟩, c, bodyB f rs⟩) => hid (entryFault_ok t f rs (some ⟨gb, 0, none⟩) (bodyB f rs).length c w' hf ht hE rfl h)
 have hOB := hid (fun (h : bodyE rs = 0) => bodyB_octs of h)
 have hBl := hid (bodyC_len (ro := .slice ao rs.length cap) hFl)
 have HEl := fun bo => hid (entC_len (t := t) (bo := bo) hFl)
 have HE1 := fun bo h => hid (entC_one (t := t) (bo := bo) (ints_one .u8 f) h)
 have HbE := fun ao n c => hid (builtEntry hFl t ao n c)
 obtain ⟨Q, HQ⟩ := hidE (NextPost t f rs w)
 rw [← HQ.out] at HP ⊢
 obtain ⟨BS, HBS⟩ := hidE (bodyC (f.map (Value.int .u8)) (.slice ao rs.length cap))
 rw [← HBS.out] at hpb hBl ⊢
 obtain ⟨F, HF⟩ := hidE (f.map (Value.int .u8))
 have hF1 : ∀ u ∈ F, u.oneCell' = true := by rw [HF.out]; exact ints_one _ _
 rw [← HF.out] at hFl HEl HE1 HbE ⊢
 rw [← HF.out] at hef HP
 obtain ⟨ZI, HZI⟩ := hidE zID
 obtain ⟨ZS, HZS⟩ := hidE zSum
 have hZIl : ZI.length = 16 := by rw [HZI.out]; rfl
 have hZSl : ZS.length = 32 := by rw [HZS.out]; rfl
 have hcnt := fun (w' : World) (h : BlkV 160 w' g (stC 0 0 zSum zID mm mk mv)) => hid (⟨(st_cells rfl rfl h).1, st_last h⟩ : w'.cell? ⟨g, 0, none⟩ = some (.int .i64 0) ∧ At w' ⟨g, 2, none⟩ zSum)
 rw [← HZS.out] at hcnt HbE
 rw [← HZI.out] at hcnt HbE hS ⊢
 rw [← HZS.out] at hS
 have hz := hid zeroEntry
 have hbz := hid builtEntry0
 have HZ0 := hid entZ_len
 have HZ1 : Hid (∀ u ∈ entZ, u.oneCell' = true) := hid (by decide)
 obtain ⟨Z, HZ⟩ := hidE entZ
 rw [← HZ.out] at hz hbz HZ0 HZ1
 obtain ⟨B, hsz⟩ := szE w
 have hgB : g < B := by rw [← hsz]; exact hS.lt
 rw [hsz] at HP hpb
 have hSb := fun (w' : World) (hb : Below B w w') => hid (hS.below hb hgB)
 clear hr hs
 go_enter Tryz.func35, Tryz.ntmps35
 go_wp2_with (first
  | (go_at_call 83; refine (hpb w4 bb4).out.mono ?_; rintro e w5 ⟨hb5, ⟨hE5, rfl⟩ | ⟨_, gb, cb, rfl, hO5⟩⟩; exact absurd hE hE5; have bb5 : Below B w w5 := bb4.trans (hb5.mono (by omega)); have hT5 := hT4.below hb5 (by omega); have hA5 := hA4.below hb5 (by omega); have hK5 := hK4.below hb5 (by omega); have hs5 : B + 4 ≤ w5.heap.size := (by have := hb5.size; omega))
  | (refine wl_loadG (by rfl) 42 _ rfl ⟨B + 2, 0, none⟩ rfl 58 BS hBl.out aggBody hY4.at0 ?_)
  | (refine wl_allocV rfl 83 rfl Z hz.out (B + 3) (by omega) ?_; intro w4 hT4 hb4 hs4; have hA4 := hA3.below hb4 (by omega); have hK4 := hK3.below hb4 (by omega); have hY4 := hY3.below hb4 (by omega); have bb4 : Below B w w4 := bb3.trans (hb4.mono (by omega)))
  | (refine wl_boxV rfl 42 _ rfl BS rfl (B + 2) (by omega) ?_; intro w3 hY3 hb3 hs3; have hA3 := hA2.below hb3 (by omega); have hK3 := hK2.below hb3 (by omega); have bb3 : Below B w w3 := bb2.trans (hb3.mono (by omega)))
  | (refine wl_boxV rfl 25 _ rfl ZI rfl (B + 1) (by omega) ?_; intro w2 hK2 hb2 hs2; have hA2 := hA1.below hb2 (by omega); have bb2 : Below B w w2 := bb1.trans (hb2.mono (by omega)))
  | (refine wl_boxV rfl 25 _ rfl F rfl B hsz ?_; intro w1 hA1 bb1 hs1))
 obtain ⟨_, cb', e5, hlow5, hlt5, hPt5⟩ := hO5.pt (hOB.out hE)
 injection e5 with e5a e5b e5c
 injection e5a with e5a
 injection e5a with e5a
 subst e5a; subst e5c
 obtain ⟨N, HN⟩ := hidE ((bodyB f rs).length)
 have hbE := HbE (some ⟨gb, 0, none⟩) N cb
 have hEl := (HEl (.slice (some ⟨gb, 0, none⟩) N cb)).out
 have hE1 := (HE1 (.slice (some ⟨gb, 0, none⟩) N cb) rfl).out
 have hef' := hef gb cb
 have HP' := HP.out gb cb
 rw [← HN.out] at hef' HP'
 obtain ⟨ES, HES⟩ := hidE (entC t F (.slice (some ⟨gb, 0, none⟩) N cb))
 rw [← HES.out] at hbE hEl hE1 hef' HP'
 rw [← HN.out]
 have hiF : (Tryz.prog.info? 25).map (·.size) = some F.length := by rw [hFl]; exact aggIDT.2
 have hiZI : (Tryz.prog.info? 25).map (·.size) = some ZI.length := by rw [hZIl]; exact aggIDT.2
 have hiZS : (Tryz.prog.info? 39).map (·.size) = some ZS.length := by rw [hZSl]; exact aggSumT.2
 have hSS : ∀ w', Below (B + 4) w5 w' → (w'.cell? ⟨g, 0, none⟩ = some (.int .i64 0) ∧ w'.rangeAt B 0 F ∧ w'.rangeAt (B + 1) 0 ZI ∧ w'.rangeAt g 2 ZS) := fun w' hb => by
  have h1 := (hcnt w' (hSb w' (bb5.trans (hb.mono (by omega)))).out).out
  exact ⟨h1.1, at_range (hA5.below hb (by omega)).at0, at_range (hK5.below hb (by omega)).at0, at_range h1.2⟩
 refine wp_region_held_drew (S := (fun w' => w'.cell? ⟨g, 0, none⟩ = some (.int .i64 0) ∧ w'.rangeAt B 0 F ∧ w'.rangeAt (B + 1) 0 ZI ∧ w'.rangeAt g 2 ZS)) (by kernel_rfl) (hSS _ (bdN (Below.refl _ _) 1)) (fun hHeld => ?_)
 obtain ⟨x0, HX0⟩ := hidE w5.drew
 rw [← HX0.out] at hHeld ⊢
 have bx0 : Below (B + 4) w5 x0 := by rw [HX0.out]; exact (Below.refl _ _).drew
 have hT0 : BlkV 83 x0 (B + 3) Z := by rw [HX0.out]; exact hT5
 have hPt0 : Pt.Ok x0 ⟨some ⟨gb, 0, none⟩, cb, bodyB f rs⟩ := by rw [HX0.out]; exact ptDr hPt5
 have hs0 : x0.heap.size = w5.heap.size := by rw [HX0.out]; rfl
 refine tq 0 rfl ?_
 refine tq 1 rfl ?_
 refine tq 2 rfl ?_
 refine tq 3 rfl ?_
 refine tq 4 rfl ?_
 refine tq 5 rfl ?_
 refine tk 6 rfl (yieldsIf_load_mid (by rfl) 25 _ rfl B 0 rfl F _ (fun w hS => hS.2.1) Tryz.underlying25 rfl hiF) ?_
 refine tk 7 rfl (yieldsIf_load_mid (by rfl) 25 _ rfl (B + 1) 0 rfl ZI _ (fun w hS => hS.2.2.1) Tryz.underlying25 rfl hiZI) ?_
 refine tq 8 rfl ?_
 refine tq 9 rfl ?_
 refine tq 10 rfl ?_
 refine tk 11 rfl (yieldsIf_load_mid (by rfl) 39 _ rfl g 2 rfl ZS _ (fun w hS => hS.2.2.2) Tryz.underlying39 rfl hiZS) ?_
 refine tq 12 rfl ?_
 refine tk 13 rfl (yieldsIf_build (by rfl) 83 _ rfl [(0, .int .i64 0), (1, .int .i64 t), (2, .int .i64 2), (3, .agg F.toArray), (4, .agg ZI.toArray), (5, .agg ZS.toArray), (6, .slice (some ⟨gb, 0, none⟩) N cb)] rfl ES hbE.out) ?_
 refine e1 14 rfl fun K' hK' => ?_
 obtain ⟨X, HX⟩ := hidE x0.heap.size
 refine step_allocV rfl 83 rfl Z hz.out X HX.out.symm ?_
 intro x1 hX1 hb1 hsz1
 have hBX : B + 4 ≤ X := by rw [HX.out]; omega
 have hgX : gb < X := by rw [HX.out]; omega
 have bx1 : Below (B + 4) w5 x1 := bx0.trans (hb1.mono (by omega))
 have hT1 := hT0.below hb1 (by omega)
 have hPt1 := ptLow hPt0 hb1 (fun b e => by injection e with e; subst e; exact hgX)
 refine ko hK' (hSS _ bx1) fun hHeld => ?_
 clear hK' K'
 refine e1 15 rfl fun K' hK' => ?_
 refine step_storeV rfl 83 _ _ rfl 83 X rfl ES rfl 68 aggEntry hEl Z hX1 HZ0.out hE1 ?_
 intro x2 hX2 hb2 hsz2
 have bx2 : Below (B + 4) w5 x2 := bx1.trans (hb2.mono (by omega))
 have hT2 := hT1.below hb2 (by omega)
 have hPt2 := ptLow hPt1 hb2 (fun b e => by injection e with e; subst e; exact hgX)
 refine ko hK' (hSS _ bx2) fun hHeld => ?_
 clear hK' K'
 refine wpAnyH_done (by kernel_rfl) ?_ _
 clear hHeld hSS
 have bb7 : Below B w x2 := bb5.trans (bx2.mono (by omega))
 go_wp2_with (first
  | (refine wl_storeK rfl 83 _ _ rfl 83 (B + 3) rfl ES rfl 68 aggEntry hEl Z hT8 HZ0.out hE1 ?_; intro w9 hT9 hb9 hg9 hs9; have bb9 : Below B w w9 := bb8.trans (hb9.mono (by omega)); have hPt9 := ptGrown hPt8 hg9 (fun b e h => by injection e with e; subst e; injection h with h; dsimp only at h; omega))
  | (refine wl_loadG (by rfl) 83 _ rfl ⟨X, 0, none⟩ rfl 68 ES hEl aggEntry hX8.at0 ?_)
  | (go_at_call 84; refine (hef' x2 hPt2).out.mono ?_; rintro e w8 ⟨rfl, hb8⟩; have bb8 : Below B w w8 := bb7.trans (hb8.mono (by omega)); have hT8 := hT2.below hb8 (by omega); have hX8 := hX2.below hb8 hX2.lt; have hPt8 := hPt2.below hb8)
  | (refine wl_loadG (by rfl) 83 _ rfl ⟨X, 0, none⟩ rfl 68 ES hEl aggEntry hX2.at0 ?_))
 (try simp only [Exit.inBlock, Exit.then]); refine bodyPost_ret (results_cell2 rfl _ _ _ _ rfl ES (by rw [hEl]; exact aggEntry) hT9.at0) rfl ?_
 exact HP' _ bb9 (by omega) (hPt9.lt _ rfl) hPt9
end Go.Proofs.YtdhipjoplkpgmaaGreatDoor.hf
namespace Go.Proofs.YtdhipjoplkpgmaaGreatDoor.lk
open Go.RowKit wr Go.ChangeMaps
theorem ints_inj : ∀ {a b : List Int}, a.map (Value.int .u8) = b.map (Value.int .u8) → a = b
 | [], [], _ => rfl
 | [], _ :: _, h => by simp at h
 | _ :: _, [], h => by simp at h
 | x :: a, y :: b, h => by
  simp only [List.map_cons, List.cons.injEq, Value.int.injEq, true_and] at h
  rw [h.1, ints_inj h.2]
theorem idV_inj {a b : List Int} (h : idV a = idV b) : a = b := by
 unfold idV at h
 have h2 : (a.map (Value.int .u8)).toArray = (b.map (Value.int .u8)).toArray := by injection h
 exact ints_inj (by simpa using congrArg Array.toList h2)
structure Ents (es : List MapEntry) (clock : Nat) (D : Mp Value) : Prop where
 key : ∀ e ∈ es, ∃ k : Id, k.length = 16 ∧ e.key = idV k ∧ D k = some e.val
 all : ∀ k v, D k = some v → ∃ e ∈ es, e.key = idV k
 apart : es.Pairwise fun x y => x.key ≠ y.key
 born : (es.map (·.born)).Nodup
 old : ∀ e ∈ es, e.born < clock
theorem Ents.nil : Ents [] 0 (fun _ => none) := ⟨(fun e h => by cases h), (fun k v h => by cases h), List.Pairwise.nil, List.Pairwise.nil, (fun e h => by cases h)⟩
theorem Ents.len {es : List MapEntry} {clock : Nat} {D : Mp Value} (h : Ents es clock D) {k : Id} {v : Value} (hk : D k = some v) : k.length = 16 := by
 obtain ⟨e, he, h1⟩ := h.all k v hk
 obtain ⟨k', h2, h3, _⟩ := h.key e he
 rw [← idV_inj (h3.symm.trans h1)]; exact h2
theorem Ents.push {es : List MapEntry} {clock : Nat} {D : Mp Value} (h : Ents es clock D) {k : Id} (hk : k.length = 16) (v : Value) (hn : D k = none) : Ents (es ++ [⟨idV k, v, clock⟩]) (clock + 1) (upd D k v) := by
 refine ⟨fun e he => ?_, fun j u hj => ?_, ?_, ?_, fun e he => ?_⟩
 ·rcases List.mem_append.1 he with he | he
  ·obtain ⟨j, h1, h2, h3⟩ := h.key e he
   refine ⟨j, h1, h2, ?_⟩
   rw [upd_other]
   ·exact h3
   ·intro e; rw [e, hn] at h3; cases h3
  ·rw [List.mem_singleton.1 he]
   exact ⟨k, hk, rfl, upd_same ..⟩
 ·by_cases hjk : j = k
  ·exact ⟨_, List.mem_append_right _ (List.mem_singleton_self _), by rw [hjk]⟩
  ·rw [upd_other _ _ hjk] at hj
   obtain ⟨e, he, h1⟩ := h.all j u hj
   exact ⟨e, List.mem_append_left _ he, h1⟩
 ·refine List.pairwise_append.2 ⟨h.apart, List.pairwise_singleton _ _, fun x hx y hy => ?_⟩
  rw [List.mem_singleton.1 hy]
  obtain ⟨j, _, h2, h3⟩ := h.key x hx
  intro e
  rw [idV_inj (h2.symm.trans e), hn] at h3
  cases h3
 ·rw [List.map_append, List.map_cons, List.map_nil]
  refine List.nodup_append.2 ⟨h.born, by simp, fun x hx y hy => ?_⟩
  rw [List.mem_singleton.1 hy]
  obtain ⟨e, he, rfl⟩ := List.mem_map.1 hx
  have := h.old e he
  show e.born ≠ clock
  omega
 ·rcases List.mem_append.1 he with he | he
  ·have := h.old e he; omega
  ·rw [List.mem_singleton.1 he]; exact Nat.lt_succ_self _
theorem Ents.others {l1 l2 : List MapEntry} {e : MapEntry} {clock : Nat} {D : Mp Value} (h : Ents (l1 ++ e :: l2) clock D) : (∀ x ∈ l1, x.key ≠ e.key) ∧ ∀ x ∈ l2, x.key ≠ e.key := by
 obtain ⟨h1, h2, h3⟩ := List.pairwise_append.1 h.apart
 exact ⟨fun x hx => h3 x hx e (List.mem_cons_self ..), fun x hx g => (List.pairwise_cons.1 h2).1 x hx g.symm⟩
theorem Ents.put {l1 l2 : List MapEntry} {e : MapEntry} {clock : Nat} {D : Mp Value} (h : Ents (l1 ++ e :: l2) clock D) {k : Id} (hk : e.key = idV k) (v : Value) : Ents (l1 ++ ⟨idV k, v, e.born⟩ :: l2) clock (upd D k v) := by
 obtain ⟨o1, o2⟩ := h.others
 have hmem : ∀ x ∈ l1 ++ ⟨idV k, v, e.born⟩ :: l2, (x = ⟨idV k, v, e.born⟩) ∨ (x ∈ l1 ++ e :: l2 ∧ x.key ≠ e.key) := fun x hx => by
  rcases List.mem_append.1 hx with hx | hx
  ·exact Or.inr ⟨List.mem_append_left _ hx, o1 x hx⟩
  ·rcases List.mem_cons.1 hx with hx | hx
   ·exact Or.inl hx
   ·exact Or.inr ⟨List.mem_append_right _ (List.mem_cons_of_mem _ hx), o2 x hx⟩
 have hmap : ∀ {β : Type} (f : MapEntry → β), f ⟨idV k, v, e.born⟩ = f e → (l1 ++ ⟨idV k, v, e.born⟩ :: l2).map f = (l1 ++ e :: l2).map f := fun f hf => by simp [hf]
 have hk16 : k.length = 16 := by
  obtain ⟨j, h1, h2, _⟩ := h.key e (by simp)
  rw [idV_inj (hk.symm.trans h2)]; exact h1
 refine ⟨fun x hx => ?_, fun j u hj => ?_, ?_, ?_, fun x hx => ?_⟩
 ·rcases hmem x hx with rfl | ⟨hx, hne⟩
  ·exact ⟨k, hk16, rfl, upd_same ..⟩
  ·obtain ⟨j, h1, h2, h3⟩ := h.key x hx
   refine ⟨j, h1, h2, ?_⟩
   rw [upd_other]
   ·exact h3
   ·intro g; exact hne (by rw [h2, hk, g])
 ·by_cases hjk : j = k
  ·exact ⟨⟨idV k, v, e.born⟩, by simp, by rw [hjk]⟩
  ·rw [upd_other _ _ hjk] at hj
   obtain ⟨x, hx, h1⟩ := h.all j u hj
   have hxe : x ≠ e := fun g => hjk (idV_inj (by rw [← h1, g, hk]))
   refine ⟨x, ?_, h1⟩
   rcases List.mem_append.1 hx with hx | hx
   ·exact List.mem_append_left _ hx
   ·rcases List.mem_cons.1 hx with hx | hx
    ·exact absurd hx hxe
    ·exact List.mem_append_right _ (List.mem_cons_of_mem _ hx)
 ·have := (List.pairwise_map (f := fun x : MapEntry => x.key) (R := fun x y => x ≠ y)).2 h.apart
  rw [← hmap (fun x => x.key) hk.symm] at this
  exact List.pairwise_map.1 this
 ·have := h.born
  rwa [← hmap (fun x => x.born) rfl] at this
 ·rcases hmem x hx with rfl | ⟨hx, _⟩
  ·exact h.old e (by simp)
  ·exact h.old x hx
def MapD (w : World) (b : Nat) (D : Mp Value) : Prop := ∃ es clock, w.heap[b]? = some (.map es clock) ∧ Ents es.toList clock D
theorem MapD.new {w : World} {b : Nat} (h : w.heap[b]? = some (.map #[] 0)) : MapD w b (fun _ => none) := ⟨#[], 0, h, Ents.nil⟩
theorem MapD.lt {w : World} {b : Nat} {D : Mp Value} (h : MapD w b D) : b < w.heap.size := by
 obtain ⟨es, c, h, _⟩ := h
 exact (Array.getElem?_eq_some_iff.1 h).1
theorem MapD.len {w : World} {b : Nat} {D : Mp Value} (h : MapD w b D) {k : Id} {v : Value} (hk : D k = some v) : k.length = 16 := by
 obtain ⟨es, c, _, h⟩ := h
 exact h.len hk
theorem MapD.of_block {w w' : World} {b : Nat} {D : Mp Value} (h : MapD w b D) (hb : w'.heap[b]? = w.heap[b]?) : MapD w' b D := by
 obtain ⟨es, c, h1, h2⟩ := h
 exact ⟨es, c, hb.trans h1, h2⟩
theorem MapD.below {w w' : World} {b B : Nat} {D : Mp Value} (h : MapD w b D) (hb : Below B w w') (hB : b < B) : MapD w' b D := h.of_block (hb.block b hB)
theorem MapD.grown {w w' : World} {b : Nat} {D : Mp Value} {row : Option Nat} (h : MapD w b D) (hg : w.grownBy w' row) (hr : row ≠ some b) : MapD w' b D := h.of_block (hg.block b h.lt (fun e => hr e.symm))
theorem asks (w : World) (l : Id) (hl : l.length = 16) : ∀ (es : List MapEntry) (i : Nat), (∀ e ∈ es, ∃ k : Id, k.length = 16 ∧ e.key = idV k) →
  ((∀ e ∈ es, e.key ≠ idV l) ∧ (Instr.findAsking 25 (idV l) es i).run Tryz.prog w = .ok none w) ∨ ∃ l1 e l2, es = l1 ++ e :: l2 ∧ e.key = idV l ∧ (Instr.findAsking 25 (idV l) es i).run Tryz.prog w = .ok (some (i + l1.length, e.val)) w
 | [], i, _ => Or.inl ⟨(fun e h => by cases h), rfl⟩
 | e :: es, i, h => by
  obtain ⟨s, hs, hse⟩ := h e (List.mem_cons_self ..)
  have hq := run_equal_id w l s hl hs
  rw [← hse] at hq
  have hstep : Instr.findAsking 25 (idV l) (e :: es) i = (do if ← Op.equal 25 (idV l) e.key then pure (some (i, e.val)) else Instr.findAsking 25 (idV l) es (i + 1)) := rfl
  by_cases hls : l = s
  ·right
   refine ⟨[], e, es, rfl, by rw [hse, hls], ?_⟩
   rw [show (l == s) = true by simp [hls]] at hq
   rw [hstep]
   simp [Sem.run_bind, hq, Result.andThen]
  ·rw [show (l == s) = false by simp [hls]] at hq
   have hne : e.key ≠ idV l := fun g => hls (idV_inj (by rw [← g, hse]))
   rcases asks w l hl es (i + 1) (fun x hx => h x (List.mem_cons_of_mem _ hx)) with ⟨h1, h2⟩ | ⟨l1, x, l2, h1, h2, h3⟩
   ·left
    refine ⟨fun x hx => ?_, ?_⟩
    ·rcases List.mem_cons.1 hx with rfl | hx
     ·exact hne
     ·exact h1 x hx
    ·rw [hstep]; simp [Sem.run_bind, hq, Result.andThen, h2]
   ·right
    refine ⟨e :: l1, x, l2, by rw [h1]; rfl, h2, ?_⟩
    rw [hstep]
    simp only [Sem.run_bind, hq, Result.andThen]
    rw [if_neg (by simp), h3, List.length_cons, show i + 1 + l1.length = i + (l1.length + 1) by omega]
theorem finds {w : World} {es : List MapEntry} {clock : Nat} {D : Mp Value} (h : Ents es clock D) (l : Id) (hl : l.length = 16) :
  (D l = none ∧ (Instr.findKey 25 (idV l) es).run Tryz.prog w = .ok none w) ∨ ∃ l1 e l2, es = l1 ++ e :: l2 ∧ e.key = idV l ∧ D l = some e.val ∧ (Instr.findKey 25 (idV l) es).run Tryz.prog w = .ok (some (l1.length, e.val)) w := by
 rw [run_findKey_eq w (by kernel_rfl)]
 rcases asks w l hl es 0 (fun e he => by obtain ⟨k, h1, h2, _⟩ := h.key e he; exact ⟨k, h1, h2⟩) with ⟨h1, h2⟩ | ⟨l1, e, l2, h1, h2, h3⟩
 ·left
  refine ⟨?_, h2⟩
  cases hd : D l with
  | none => rfl
  | some v =>
   obtain ⟨e, he, h3⟩ := h.all l v hd
   exact absurd h3 (h1 e he)
 ·right
  obtain ⟨k, _, k2, k3⟩ := h.key e (by rw [h1]; simp)
  have : l = k := idV_inj (h2.symm.trans k2)
  rw [Nat.zero_add] at h3
  exact ⟨l1, e, l2, h1, h2, by rw [this]; exact k3, h3⟩
theorem run_lookD {w : World} {b : Nat} {D : Mp Value} (h : MapD w b D) (t et : TypeId) (ht : Tryz.prog.underlying t = some (.map 25 et)) (z : Value) (hz : (zeroValue et).run Tryz.prog w = .ok z w) (l : Id) (hl : l.length = 16) (ok : Bool) :
  (Instr.lookup t (.map (some b)) (idV l) ok).run Tryz.prog w = .ok (if ok then .tuple #[(D l).getD z, .bool (D l).isSome] else (D l).getD z) w := by
 obtain ⟨es, clock, hb, hE⟩ := h
 rcases finds (w := w) hE l hl with ⟨h1, h2⟩ | ⟨l1, e, l2, h1, h2, h3, h4⟩
 ·simp [Instr.lookup, run_underlying ht, MapKept.run_getObj_map hb, check_id, hl, h2, hz, Result.andThen, h1]
 ·simp [Instr.lookup, run_underlying ht, MapKept.run_getObj_map hb, check_id, hl, h4, Result.andThen, h3]
theorem sameBits_id (n : Nat) (l : Id) : Instr.sameBits (n + 1) (idV l) (idV l) = true := by
 unfold idV
 have hz : ∀ l : List Int, ((l.map (Value.int .u8)).zip (l.map (Value.int .u8))).all (fun (x, y) => Instr.sameBits n x y) = true := fun l => by
  induction l with
  | nil => rfl
  | cons a r ih =>
   rw [List.map_cons, List.zip_cons_cons, List.all_cons, ih]
   cases n <;> simp [Instr.sameBits]
 simp only [Instr.sameBits, List.size_toArray, beq_self_eq_true, Bool.true_and]
 simpa using hz l
theorem modify_mid (l1 l2 : List MapEntry) (e : MapEntry) (f : MapEntry → MapEntry) (es : Array MapEntry) (h : es.toList = l1 ++ e :: l2) : (es.modify l1.length f).toList = l1 ++ f e :: l2 := by
 rw [Array.toList_modify, h]
 clear h
 induction l1 with
 | nil => rfl
 | cons a l ih => simp [ih]
theorem run_updD {w : World} {b : Nat} {D : Mp Value} (h : MapD w b D) (t et : TypeId) (ht : Tryz.prog.underlying t = some (.map 25 et)) (l : Id) (hl : l.length = 16) (v : Value) :
  ∃ w', (Instr.mapUpdate t (.map (some b)) (idV l) v).run Tryz.prog w = .ok () w' ∧ MapD w' b (upd D l v) ∧ Below b w w' ∧ w'.heap.size = w.heap.size ∧ w.grownBy w' (some b) := by
 obtain ⟨es, clock, hb, hE⟩ := h
 rcases finds (w := w) hE l hl with ⟨h1, h2⟩ | ⟨l1, e, l2, h1, h2, h3, h4⟩
 ·obtain ⟨s1, s2⟩ := MapKept.heap_set (o' := .map (es.push ⟨idV l, v, clock⟩) (clock + 1)) hb
  refine ⟨{ w with heap := w.heap.setIfInBounds b (.map (es.push ⟨idV l, v, clock⟩) (clock + 1)) }, ?_, ⟨_, _, s1, by rw [Array.toList_push]; exact hE.push hl v h1⟩, ⟨rfl, rfl, rfl, by simp, fun j hj => s2 j (by omega)⟩, by simp, ⟨rfl, rfl, rfl, by simp, fun j _ hj => s2 j (fun e => hj (by rw [e]))⟩⟩
  simp [Instr.mapUpdate, run_underlying ht, MapKept.run_getObj_map hb, check_id, hl, h2, MapKept.run_setObj_map _ hb, Result.andThen]
 ·obtain ⟨s1, s2⟩ := MapKept.heap_set (o' := .map (es.modify l1.length fun e => { e with key := idV l, val := v }) clock) hb
  have hk : (es[l1.length]?).map (·.key) = some (idV l) := by
   rw [← Array.getElem?_toList, h1]
   simp [h2]
  have hstay : (Instr.keyThatStays (((es[l1.length]?).map (·.key)).getD (idV l)) (idV l)).run Tryz.prog w = .ok (idV l) w := by
   rw [hk]
   unfold Instr.keyThatStays
   rw [Option.getD_some, if_pos (sameBits_id 9999 l)]
   rfl
  refine ⟨{ w with heap := w.heap.setIfInBounds b (.map (es.modify l1.length fun e => { e with key := idV l, val := v }) clock) }, ?_, ⟨_, _, s1, by rw [modify_mid l1 l2 e _ es h1]; rw [h1] at hE; exact hE.put h2 v⟩, ⟨rfl, rfl, rfl, by simp, fun j hj => s2 j (by omega)⟩, by simp, ⟨rfl, rfl, rfl, by simp, fun j _ hj => s2 j (fun e => hj (by rw [e]))⟩⟩
  simp only [Instr.mapUpdate, Sem.run_bind, run_underlying ht, MapKept.run_getObj_map hb, check_id w false l hl, h4, hstay, MapKept.run_setObj_map _ hb, Result.andThen]
def IterD (w : World) (b r : Nat) (D : Mp Value) (left : Id → Prop) (cnt : Nat) : Prop :=
 ∃ es clock since seen c0, w.heap[b]? = some (.map es clock) ∧ Ents es.toList clock D ∧ w.heap[r]? = some (.mapIter (some b) since seen c0) ∧ (∀ x ∈ es.toList, x.born < since) ∧ since ≤ c0 ∧ since ≤ clock ∧ (leftOf es seen).size = cnt ∧
  (∀ k, left k ↔ ∃ x ∈ es.toList, x.key = idV k ∧ seen.contains x.born = false)
theorem IterD.map {w : World} {b r : Nat} {D : Mp Value} {left : Id → Prop} {cnt : Nat} (h : IterD w b r D left cnt) : MapD w b D := by
 obtain ⟨es, clock, _, _, _, h1, h2, _⟩ := h
 exact ⟨es, clock, h1, h2⟩
theorem IterD.left_eq {w : World} {b r : Nat} {D : Mp Value} {left : Id → Prop} {cnt : Nat} (h : IterD w b r D left cnt) : w.rangeLeft b r = cnt := by
 obtain ⟨es, clock, since, seen, c0, hb, _, hr, _, _, _, hc, _⟩ := h
 simp only [World.rangeLeft, hb, hr]
 exact hc
theorem IterD.ne {w : World} {b r : Nat} {D : Mp Value} {left : Id → Prop} {cnt : Nat} (h : IterD w b r D left cnt) : r ≠ b := by
 obtain ⟨es, clock, since, seen, c0, hb, _, hr, _⟩ := h
 intro e
 rw [e, hb] at hr
 cases hr
theorem IterD.lt {w : World} {b r : Nat} {D : Mp Value} {left : Id → Prop} {cnt : Nat} (h : IterD w b r D left cnt) : r < w.heap.size := by
 obtain ⟨es, clock, since, seen, c0, _, _, hr, _⟩ := h
 exact (Array.getElem?_eq_some_iff.1 hr).1
theorem IterD.keep {w w' : World} {b r : Nat} {D : Mp Value} {left : Id → Prop} {cnt : Nat} (h : IterD w b r D left cnt) (h1 : w'.heap[b]? = w.heap[b]?) (h2 : w'.heap[r]? = w.heap[r]?) : IterD w' b r D left cnt := by
 obtain ⟨es, clock, since, seen, c0, hb, hE, hr, rest⟩ := h
 exact ⟨es, clock, since, seen, c0, h1.trans hb, hE, h2.trans hr, rest⟩
theorem IterD.below {w w' : World} {b r B : Nat} {D : Mp Value} {left : Id → Prop} {cnt : Nat} (h : IterD w b r D left cnt) (hb : Below B w w') (h1 : b < B) (h2 : r < B) : IterD w' b r D left cnt := h.keep (hb.block b h1) (hb.block r h2)
theorem run_rangeD {w : World} {b : Nat} {D : Mp Value} (h : MapD w b D) (t et : TypeId) (ht : Tryz.prog.underlying t = some (.map 25 et)) :
  ∃ w' cnt, (Instr.range t (.map (some b))).run Tryz.prog w = .ok (.pointer (some ⟨w.heap.size, 0, none⟩)) w' ∧ IterD w' b w.heap.size D (fun k => (D k).isSome = true) cnt ∧ Below w.heap.size w w' ∧ w'.heap.size = w.heap.size + 1 := by
 have hlt := h.lt
 obtain ⟨es, clock, hb, hE⟩ := h
 refine ⟨_, _, run_range_map w t 25 et b es clock ht hb, ⟨es, clock, clock, #[], clock, ((MapKept.heap_alloc w _).2 b hlt).trans hb, hE, (MapKept.heap_alloc w _).1, hE.old, Nat.le_refl _, Nat.le_refl _, rfl, fun k => ?_⟩, (Below.refl _ _).alloc (Nat.le_refl _) _, by simp⟩
 dsimp only
 constructor
 ·intro hk
  cases hd : D k with
  | none => rw [hd] at hk; cases hk
  | some v =>
   obtain ⟨e, he, h1⟩ := hE.all k v hd
   exact ⟨e, he, h1, by simp⟩
 ·rintro ⟨e, he, h1, _⟩
  obtain ⟨j, _, h2, h3⟩ := hE.key e he
  rw [idV_inj (h1.symm.trans h2), h3]
  rfl
theorem born_key {es : List MapEntry} {clock : Nat} {D : Mp Value} (h : Ents es clock D) {x e : MapEntry} (hx : x ∈ es) (he : e ∈ es) : x.born = e.born ↔ x.key = e.key := by
 constructor
 ·intro hb
  rw [born_inj h.born hx he hb]
 ·intro hk
  rw [entry_eq_of_key h.apart hx he hk]
theorem IterD.step {w : World} {b r : Nat} {D : Mp Value} {left : Id → Prop} {cnt : Nat} (h : IterD w b r D left cnt) (ty : TypeId) :
  (cnt = 0 ∧ (∀ k, ¬ left k) ∧ (Instr.next (.pointer (some ⟨r, 0, none⟩)) false ty).run Tryz.prog w = .ok (.tuple #[.bool false]) w) ∨
  ∃ k v w' cnt', left k ∧ D k = some v ∧ (Instr.next (.pointer (some ⟨r, 0, none⟩)) false ty).run Tryz.prog w = .ok (.tuple #[.bool true, idV k, v]) w' ∧
   IterD w' b r D (fun j => left j ∧ j ≠ k) cnt' ∧ cnt' < cnt ∧ w.grownBy w' (some r) ∧ w'.heap.size = w.heap.size ∧ (Instr.entry (.pointer (some ⟨r, 0, none⟩))).run Tryz.prog w' = .ok (.tuple #[idV k, v]) w' := by
 have hne := h.ne
 obtain ⟨es, clock, since, seen, c0, hb, hE, hr, hold, hsc, hsk, rfl, hl⟩ := h
 rcases run_next_at (P := Tryz.prog) w ty r b since c0 seen es clock hr hb hold hsc with ⟨h0, hrun⟩ | ⟨e, he, w1, hal, hrun⟩
 ·refine Or.inl ⟨h0, fun k hk => ?_, hrun⟩
  obtain ⟨x, hx, _, h2⟩ := (hl k).1 hk
  rw [all_seen es seen h0 x hx] at h2
  cases h2
 ·obtain ⟨hem, hes⟩ := mem_left he
  obtain ⟨k, hk16, hk, hkv⟩ := hE.key e hem
  have hr1 : w1.heap[r]? = some (.mapIter (some b) since seen c0) := by rcases hal with rfl | rfl <;> exact hr
  have hb1 : w1.heap[b]? = some (.map es clock) := by rcases hal with rfl | rfl <;> exact hb
  have hset := MapKept.heap_set (o' := .mapIter (some b) since (seen.push e.born) clock) hr1
  have hb' : (setBlock w1 r (.mapIter (some b) since (seen.push e.born) clock)).heap[b]? = some (.map es clock) := (hset.2 b (fun e1 => hne e1.symm)).trans hb1
  rw [hk] at hrun
  refine Or.inr ⟨k, e.val, _, _, (hl k).2 ⟨e, hem, hk, hes⟩, hkv, hrun, ⟨es, clock, since, seen.push e.born, clock, hb', hE, hset.1, hold, hsk, hsk, rfl, fun j => ?_⟩, left_shrinks es seen e he, ?_, ?_, ?_⟩
  ·constructor
   ·rintro ⟨h1, h2⟩
    obtain ⟨x, hx, hxk, hxs⟩ := (hl j).1 h1
    refine ⟨x, hx, hxk, ?_⟩
    rw [contains_push, hxs]
    have : ¬ x.born = e.born := fun g => h2 (idV_inj (by rw [← hxk, (born_key hE hx hem).1 g, hk]))
    simp [this]
   ·rintro ⟨x, hx, hxk, hxs⟩
    rw [contains_push, Bool.or_eq_false_iff] at hxs
    refine ⟨(hl j).2 ⟨x, hx, hxk, by simpa using hxs.1⟩, fun g => ?_⟩
    have hx2 := hxs.2
    rw [(born_key hE hx hem).2 (by rw [hxk, hk, g])] at hx2
    simp at hx2
  ·rcases hal with rfl | rfl <;> exact ⟨rfl, rfl, rfl, by simp [setBlock], fun i _ hi => hset.2 i (fun e1 => hi (by rw [e1]))⟩
  ·rcases hal with rfl | rfl <;> simp [setBlock]
  ·rw [← hk]
   exact run_entry_at _ r b since seen es clock e hset.1 hb' hem hE.born
section
variable {w : World} {ops : Array Oper} {rest : List Oper} {o : Oper} {a : Act} {Q : Exit → Act → World → Prop}
theorem wl_rangeD (hgd : o.guard = none) (t et : TypeId) (m : Operand) (ho : o.op = .range t m) (ht : Tryz.prog.underlying t = some (.map 25 et)) (b : Nat) (D : Mp Value) (h : MapD w b D) (hmv : a.eval m = .map (some b)) (N : Nat) (hN : w.heap.size = N)
  (hK : ∀ w' cnt, IterD w' b N D (fun k => (D k).isSome = true) cnt → Below N w w' → w'.heap.size = N + 1 → wpList Tryz.prog ops Q rest (a.put o.dst (.pointer (some ⟨N, 0, none⟩))) w') : wpList Tryz.prog ops Q (o :: rest) a w := by
 subst hN
 obtain ⟨w', cnt, hrun, h1, h2, h3⟩ := run_rangeD h t et ht
 refine wpList_plain hgd fun K hK' => ?_
 unfold Oper.wp
 simp [execOp, ho, hmv, hrun, Result.andThen]
 exact hK' _ _ (hK w' cnt h1 h2 h3)
theorem wl_nextD (hgd : o.guard = none) (it : Operand) (ho : o.op = .next it false) (b r : Nat) (D : Mp Value) (left : Id → Prop) (cnt : Nat) (hit : a.eval it = .pointer (some ⟨r, 0, none⟩)) (h : IterD w b r D left cnt)
  (hDone : cnt = 0 → (∀ k, ¬ left k) → wpList Tryz.prog ops Q rest (a.put o.dst (.tuple #[.bool false])) w)
  (hMore : ∀ k v w' cnt', left k → D k = some v → IterD w' b r D (fun j => left j ∧ j ≠ k) cnt' → cnt' < cnt → w.grownBy w' (some r) → w'.heap.size = w.heap.size → (Instr.entry (.pointer (some ⟨r, 0, none⟩))).run Tryz.prog w' = .ok (.tuple #[idV k, v]) w' →
   wpList Tryz.prog ops Q rest (a.put o.dst (.tuple #[.bool true, idV k, v])) w') : wpList Tryz.prog ops Q (o :: rest) a w := by
 refine wpList_plain hgd fun K hK' => ?_
 unfold Oper.wp
 rcases h.step o.type with ⟨h0, hl, hrun⟩ | ⟨k, v, w', cnt', h1, h2, hrun, h3, h4, h5, h6, h7⟩
 ·simp [execOp, ho, hit, hrun, Result.andThen]
  exact hK' _ _ (hDone h0 hl)
 ·simp [execOp, ho, hit, hrun, Result.andThen]
  exact hK' _ _ (hMore k v w' cnt' h1 h2 h3 h4 h5 h6 h7)
end
end Go.Proofs.YtdhipjoplkpgmaaGreatDoor.lk
namespace Go.Proofs.YtdhipjoplkpgmaaGreatDoor.hf
open Go.RowKit st hs wr shr sh lk
def askC (t : Int) (fv dv : List Value) : List Value := fv ++ (.slice none 0 0 :: .int .i64 2 :: .string ⟨#[]⟩ :: (zID ++ (.int .i64 t :: dv)))
def askZ : List Value := zID ++ (.slice none 0 0 :: .int .i64 0 :: .string ⟨#[]⟩ :: (zID ++ (.int .i64 0 :: zSum)))
def keyZ : List Value := zID ++ (.string ⟨#[]⟩ :: .int .i64 0 :: (zSum ++ (.bool false :: .int .i64 0 :: zSum)))
theorem askC_len {t : Int} {fv dv : List Value} (h : fv.length = 16) (hd : dv.length = 32) : (askC t fv dv).length = 68 := by simp [askC, zID, h, hd]
theorem askC_one {t : Int} {fv dv : List Value} (h1 : ∀ u ∈ fv, u.oneCell' = true) (h2 : ∀ u ∈ dv, u.oneCell' = true) : ∀ u ∈ askC t fv dv, u.oneCell' = true := by
 intro u hu
 unfold askC at hu
 rcases List.mem_append.1 hu with hu | hu
 ·exact h1 u hu
 rcases List.mem_cons.1 hu with rfl | hu
 ·rfl
 rcases List.mem_cons.1 hu with rfl | hu
 ·rfl
 rcases List.mem_cons.1 hu with rfl | hu
 ·rfl
 rcases List.mem_append.1 hu with hu | hu
 ·exact ints_one _ _ u hu
 rcases List.mem_cons.1 hu with rfl | hu
 ·rfl
 ·exact h2 u hu
theorem askC_split (t : Int) (fv dv : List Value) : askC t fv dv = (fv ++ (.slice none 0 0 :: .int .i64 2 :: .string ⟨#[]⟩ :: (zID ++ [.int .i64 t]))) ++ dv := by simp [askC]
theorem askC_put {t : Int} {fv dv ev : List Value} (h : fv.length = 16) (hd : dv.length = 32) : (askC t fv dv).take 36 ++ ev ++ (askC t fv dv).drop (36 + 32) = askC t fv ev := by
 have hl : (fv ++ (.slice none 0 0 :: .int .i64 2 :: .string ⟨#[]⟩ :: (zID ++ [Value.int .i64 t]))).length = 36 := by simp [zID, h]
 rw [askC_split, askC_split, ← hl, List.take_left, List.drop_eq_nil_of_le (by simp [hd, h, zID]), List.append_nil]
theorem aggAsk : Agg Tryz.prog 165 68 := .str Tryz.underlying165 (by kernel_rfl)
theorem zeroAsk : (Tryz.prog.info? 165).map (·.zero) = some (some (.agg askZ.toArray)) := by kernel_rfl
theorem builtAsk {F : List Value} (hF : F.length = 16) (t : Int) : Tryz.prog.built 165 [(0, .agg F.toArray), (1, .slice none 0 0), (2, .int .i64 2), (3, .string ⟨#[]⟩), (4, .agg zID.toArray), (5, .int .i64 t)] = some (askC t F zSum).toArray := by
 obtain ⟨a0, a1, a2, a3, a4, a5, a6, a7, a8, a9, a10, a11, a12, a13, a14, a15, rfl⟩ := list16 hF
 kernel_rfl
theorem zeroRoles (w : World) : (zeroValue 26).run Tryz.prog w = .ok (.slice none 0 0) w := by kernel_rfl
theorem zeroKeyS (w : World) : (zeroValue 70).run Tryz.prog w = .ok (.agg keyZ.toArray) w := by kernel_rfl
theorem yieldsIf_lookD {ops : Array Oper} {S : World → Prop} {op : Oper} {a : Act} (hw : Region.wanted op (yielded ops a.tmps) = true) (t et : TypeId) (m x : Operand) (ok : Bool) (ho : op.op = .lookup t m x ok)
  (ht : Tryz.prog.underlying t = some (.map 25 et)) (z : Value) (hz : ∀ w, (zeroValue et).run Tryz.prog w = .ok z w) (b : Nat) (D : Mp Value) (hS : ∀ w, S w → MapD w b D) (l : List Int) (hl : l.length = 16) (kv : Value) (hk : kv = idV l) (hmv : a.eval m = .map (some b)) (hx : a.eval x = kv)
  (v : Value) (hv : (if ok then .tuple #[(D l).getD z, .bool (D l).isSome] else (D l).getD z) = v) : YieldsIf Tryz.prog ops S op v a :=
 .inl ⟨hw, fun w hw' => by
  subst hv
  subst hk
  have hrun := run_lookD (hS w hw') t et ht z (hz w) l hl ok
  unfold execOp
  simp only [ho, hmv, hx, hrun, Sem.run_bind, Result.andThen_ok, Sem.run_pure]⟩
theorem CloneS_nil (w : World) : Calls Tryz.prog 73 #[.slice none 0 0] w fun e w' => e = .returned (.slice none 0 0) ∧ w = w' := by
 have hq := Lib.run_eql_slice_nil (P := Tryz.prog) w 26 9 none 0 0 0 0 Tryz.underlying26
 go_enter Tryz.func73, Tryz.ntmps73
 go_wp2
 go_ret
 exact ⟨rfl, rfl⟩
structure StOk (w : World) (g mm mk mv : Nat) : Prop where
 blk : BlkV 160 w g (stC 0 0 zSum zID mm mk mv)
 mem : MapD w mm (fun _ => none)
 keys : MapD w mk (fun _ => none)
 vot : w.heap[mv]? = some (.map #[] 0)
theorem StOk.below {w w' : World} {g mm mk mv B : Nat} (h : StOk w g mm mk mv) (hb : Below B w w') (h1 : w.heap.size ≤ B) : StOk w' g mm mk mv :=
 ⟨h.blk.below hb (Nat.lt_of_lt_of_le h.blk.lt h1), h.mem.below hb (Nat.lt_of_lt_of_le h.mem.lt h1), h.keys.below hb (Nat.lt_of_lt_of_le h.keys.lt h1), (hb.block _ (Nat.lt_of_lt_of_le (Array.getElem?_eq_some_iff.1 h.vot).1 h1)).trans h.vot⟩
theorem Ask_ok (g mm mk mv : Nat) (t : Int) (f : List Int) (rs : List ByteArray) (ao : Option Addr) (n c : Nat) (w : World) (h : EntOk w t f rs ao n c) (hS : StOk w g mm mk mv) :
  Calls Tryz.prog 146 #[.pointer (some ⟨g, 0, none⟩), .agg (entC t (f.map (Value.int .u8)) (.slice ao n c)).toArray] w fun e w' => e = .returned (.tuple #[.agg (askC t (f.map (Value.int .u8)) ((sumL 0 (bodyB f rs)).map (Value.int .u8))).toArray, .int .i64 0]) ∧ Below w.heap.size w w' := by
 have hFl : (f.map (Value.int .u8)).length = 16 := by rw [List.length_map, h.hf]
 have hef := fun (w' : World) (hb : Below w.heap.size w w') => hid (h.below hb).fault
 have hso := fun (w' : World) (hb : Below w.heap.size w w') => hid (sumOf_in 0 ⟨by decide, by decide⟩ ao c n _ w' h.hn (h.below hb).pt (by have := h.le; omega))
 have hSb := fun (w' : World) (hb : Below w.heap.size w w') => hid (hS.below hb (Nat.le_refl _))
 have hCl := entC_len (t := t) (bo := .slice ao n c) hFl
 have hcells := fun (w : World) (g : Nat) (h : BlkV 83 w g (entC t (f.map (Value.int .u8)) (.slice ao n c))) => hid (ent_cells hFl h)
 have hact := fun (w : World) (g : Nat) (h : BlkV 83 w g (entC t (f.map (Value.int .u8)) (.slice ao n c))) => hid (ent_actor hFl h)
 have hkey := fun (w : World) (g : Nat) (h : BlkV 83 w g (entC t (f.map (Value.int .u8)) (.slice ao n c))) => hid (ent_key hFl h)
 obtain ⟨CS, HCS⟩ := hidE (entC t (f.map (Value.int .u8)) (.slice ao n c))
 rw [← HCS.out] at hef hcells hact hkey hCl ⊢
 obtain ⟨DV, HDV⟩ := hidE ((sumL 0 (bodyB f rs)).map (Value.int .u8))
 have hDl : DV.length = 32 := by rw [HDV.out, List.length_map, sumL_length]
 have hD1 : ∀ u ∈ DV, u.oneCell' = true := by rw [HDV.out]; exact ints_one _ _
 rw [← HDV.out] at hso ⊢
 have hf := h.hf
 obtain ⟨F, HF⟩ := hidE (f.map (Value.int .u8))
 have hF1 : ∀ u ∈ F, u.oneCell' = true := by rw [HF.out]; exact ints_one _ _
 have HFI : Hid (Value.agg F.toArray = idV f) := hid (by rw [HF.out]; rfl)
 rw [← HF.out] at hFl hact ⊢
 have hb0 := hid (builtAsk hFl t)
 have hA0l := askC_len (t := t) hFl (dv := zSum) rfl
 have hA01 := askC_one (t := t) hF1 (dv := zSum) (ints_one _ _)
 have hAl := askC_len (t := t) hFl hDl
 have hA1 := askC_one (t := t) hF1 hD1
 have HPUT := hid (askC_put (t := t) (ev := DV) hFl (dv := zSum) rfl)
 obtain ⟨A0, HA0⟩ := hidE (askC t F zSum)
 obtain ⟨AS, HAS⟩ := hidE (askC t F DV)
 rw [← HA0.out] at hb0 hA0l hA01 HPUT
 rw [← HAS.out] at hAl hA1 HPUT ⊢
 have hz := hid zeroAsk
 have hZl : askZ.length = 68 := by rfl
 obtain ⟨Z, HZ⟩ := hidE askZ
 rw [← HZ.out] at hz hZl
 obtain ⟨ZI, HZI⟩ := hidE zID
 have hZIl : ZI.length = 16 := by rw [HZI.out]; rfl
 have HZV : Hid (Value.agg ZI.toArray = idV (List.replicate 16 0)) := hid (by rw [HZI.out]; rfl)
 rw [← HZI.out] at hkey hb0
 obtain ⟨KZ, HKZ⟩ := hidE (Value.agg keyZ.toArray)
 obtain ⟨B, hsz⟩ := szE w
 rw [hsz] at hef hso hSb ⊢
 clear h hS
 go_enter Tryz.func146, Tryz.ntmps146
 go_wp2_with (first
  | (go_at_call 84; refine (hef w2 bb2).out.mono ?_; rintro e w3 ⟨rfl, hb3⟩; have hT3 := hT2.below hb3 (by omega); have hE3 := hE2.below hb3 (by omega); have bb3 : Below B w w3 := bb2.trans (hb3.mono (by omega)); have hs3 : B + 2 ≤ w3.heap.size := (by have := hb3.size; omega))
  | (refine wl_loadG (by rfl) 83 _ rfl ⟨B, 0, none⟩ rfl 68 CS hCl aggEntry hE2.at0 ?_)
  | (refine wl_allocV rfl 165 rfl Z hz.out (B + 1) (by omega) ?_; intro w2 hT2 hb2 hs2; have hE2 := hE1.below hb2 (by omega); have bb2 : Below B w w2 := bb1.trans (hb2.mono (by omega)))
  | (refine wl_boxV rfl 83 _ rfl CS rfl B hsz ?_; intro w1 hE1 bb1 hs1))
 have hiF : (Tryz.prog.info? 25).map (·.size) = some F.length := by rw [hFl]; exact aggIDT.2
 have hiZI : (Tryz.prog.info? 25).map (·.size) = some ZI.length := by rw [hZIl]; exact aggIDT.2
 have hSS : ∀ w', Below B w w' → BlkV 83 w' B CS → (w'.rangeAt B 3 F ∧ w'.rangeAt B 19 ZI ∧ MapD w' mm (fun _ => none) ∧ MapD w' mk (fun _ => none) ∧ w'.cell? ⟨g, 52, none⟩ = some (.map (some mm)) ∧ w'.cell? ⟨g, 53, none⟩ = some (.map (some mk)) ∧ w'.cell? ⟨B, 1, none⟩ = some (.int .i64 t) ∧ w'.cell? ⟨B, 2, none⟩ = some (.int .i64 2)) := fun w' hb hE => by
  have hs := (hSb w' hb).out
  have hc := st_cells rfl rfl hs.blk
  have he := (hcells _ _ hE).out
  exact ⟨at_range (hact _ _ hE).out, at_range (hkey _ _ hE).out, hs.mem, hs.keys, hc.2.2.2.2.1, hc.2.2.2.2.2.1, he.2.1, he.2.2.1⟩
 refine wp_region_held_drew (S := (fun w' => w'.rangeAt B 3 F ∧ w'.rangeAt B 19 ZI ∧ MapD w' mm (fun _ => none) ∧ MapD w' mk (fun _ => none) ∧ w'.cell? ⟨g, 52, none⟩ = some (.map (some mm)) ∧ w'.cell? ⟨g, 53, none⟩ = some (.map (some mk)) ∧ w'.cell? ⟨B, 1, none⟩ = some (.int .i64 t) ∧ w'.cell? ⟨B, 2, none⟩ = some (.int .i64 2))) (by kernel_rfl) (hSS _ bb3.drew hE3) (fun hHeld => ?_)
 obtain ⟨x0, HX0⟩ := hidE w3.drew
 rw [← HX0.out] at hHeld ⊢
 have hE0 : BlkV 83 x0 B CS := by rw [HX0.out]; exact hE3
 have hT0 : BlkV 165 x0 (B + 1) Z := by rw [HX0.out]; exact hT3
 have bb0 : Below B w x0 := by rw [HX0.out]; exact bb3.drew
 have hs0 : B + 2 ≤ x0.heap.size := by rw [HX0.out]; exact hs3
 clear hE3 hT3 bb3 hs3
 refine tq 0 rfl ?_
 refine tk 1 rfl (yieldsIf_load_mid (by rfl) 25 _ rfl B 3 rfl F _ (fun w hS => hS.1) Tryz.underlying25 rfl hiF) ?_
 refine tq 2 rfl ?_
 refine tq 3 rfl ?_
 refine tq 4 rfl ?_
 refine tq 5 rfl ?_
 refine tq 6 rfl ?_
 refine tk 7 rfl (yieldsIf_load_mid (by rfl) 25 _ rfl B 3 rfl F _ (fun w hS => hS.1) Tryz.underlying25 rfl hiF) ?_
 refine tk 8 rfl (yieldsIf_lookD (by rfl) _ 26 _ _ false rfl (by kernel_rfl) (.slice none 0 0) zeroRoles mm (fun _ => none) (fun w hS => hS.2.2.1) f hf (.agg F.toArray) HFI.out rfl rfl (.slice none 0 0) rfl) ?_
 refine tq 10 rfl ?_
 refine tq 11 rfl ?_
 refine tq 12 rfl ?_
 refine tq 13 rfl ?_
 refine tq 14 rfl ?_
 refine tq 15 rfl ?_
 refine tq 16 rfl ?_
 refine tk 17 rfl (yieldsIf_load_mid (by rfl) 25 _ rfl B 19 rfl ZI _ (fun w hS => hS.2.1) Tryz.underlying25 rfl hiZI) ?_
 refine tk 18 rfl (yieldsIf_lookD (by rfl) _ 70 _ _ false rfl (by kernel_rfl) (.agg keyZ.toArray) zeroKeyS mk (fun _ => none) (fun w hS => hS.2.2.2.1) (List.replicate 16 0) (by simp) (.agg ZI.toArray) HZV.out rfl rfl (.agg keyZ.toArray) rfl) ?_
 refine take_l (i := 19) (v := .string ⟨#[]⟩) rfl (by kernel_rfl) (by kernel_rfl) (by kernel_rfl) (fun _ _ _ h => h) (.inl ⟨by rfl, fun w _ => by kernel_rfl⟩) (by assumption) ?_
 try simp only [Act.put, fpA, fpZ, fpN]
 refine tq 20 rfl ?_
 refine tk 21 rfl (yieldsIf_load_mid (by rfl) 25 _ rfl B 19 rfl ZI _ (fun w hS => hS.2.1) Tryz.underlying25 rfl hiZI) ?_
 refine tq 22 rfl ?_
 refine tq 23 rfl ?_
 refine e2 9 25 rfl rfl (fun K' hK' => ?_) fun K' hK' => ?_
 focus
  rw [if_pos (by rfl)]
  go_simp
  go_at_call 73
  refine (CloneS_nil x0).mono ?_
  rintro e x1 ⟨rfl, rfl⟩
  refine ko hK' (hSS _ bb0 hE0) fun hHeld => ?_
  clear hK' K'
  refine tk 24 rfl (yieldsIf_build (by rfl) 165 _ rfl [(0, .agg F.toArray), (1, .slice none 0 0), (2, .int .i64 2), (3, .string ⟨#[]⟩), (4, .agg ZI.toArray), (5, .int .i64 t)] rfl A0 hb0.out) ?_
  refine e1 25 rfl fun K' hK' => ?_
  obtain ⟨X, HX⟩ := hidE x0.heap.size
  refine step_allocV rfl 165 rfl Z hz.out X HX.out.symm ?_
  intro x1 hX1 hb1 hsz1
  have hBX : B + 2 ≤ X := by rw [HX.out]; exact hs0
  have hT1 := hT0.below hb1 (by omega)
  have hE1 := hE0.below hb1 (by omega)
  have bb1 : Below B w x1 := bb0.trans (hb1.mono (by omega))
  refine ko hK' (hSS _ bb1 hE1) fun hHeld => ?_
  clear hK' K'
  refine e1 26 rfl fun K' hK' => ?_
  refine step_storeV rfl 165 _ _ rfl 165 X rfl A0 rfl 68 aggAsk hA0l Z hX1 hZl hA01 ?_
  intro x2 hX2 hb2 hsz2
  have hT2 := hT1.below hb2 (by omega)
  have hE2 := hE1.below hb2 (by omega)
  have bb2 : Below B w x2 := bb1.trans (hb2.mono (by omega))
  refine ko hK' (hSS _ bb2 hE2) fun hHeld => ?_
  clear hK' K'
  refine wpAnyH_done (by kernel_rfl) ?_ _
  skip
 rotate_left 1
 focus
  obtain ⟨X, HX⟩ := hidE x0.heap.size
  refine step_allocV rfl 165 rfl Z hz.out X HX.out.symm ?_
  intro x1 hX1 hb1 hsz1
  have hBX : B + 2 ≤ X := by rw [HX.out]; exact hs0
  have hT1 := hT0.below hb1 (by omega)
  have hE1 := hE0.below hb1 (by omega)
  have bb1 : Below B w x1 := bb0.trans (hb1.mono (by omega))
  refine ko hK' (hSS _ bb1 hE1) fun hHeld => ?_
  clear hK' K'
  refine e1 9 rfl fun K' hK' => ?_
  rw [if_pos (by rfl)]
  go_simp
  go_at_call 73
  refine (CloneS_nil x1).mono ?_
  rintro e x1b ⟨rfl, rfl⟩
  refine ko hK' (hSS _ bb1 hE1) fun hHeld => ?_
  clear hK' K'
  refine tk 24 rfl (yieldsIf_build (by rfl) 165 _ rfl [(0, .agg F.toArray), (1, .slice none 0 0), (2, .int .i64 2), (3, .string ⟨#[]⟩), (4, .agg ZI.toArray), (5, .int .i64 t)] rfl A0 hb0.out) ?_
  refine e1 26 rfl fun K' hK' => ?_
  refine step_storeV rfl 165 _ _ rfl 165 X rfl A0 rfl 68 aggAsk hA0l Z hX1 hZl hA01 ?_
  intro x2 hX2 hb2 hsz2
  have hT2 := hT1.below hb2 (by omega)
  have hE2 := hE1.below hb2 (by omega)
  have bb2 : Below B w x2 := bb1.trans (hb2.mono (by omega))
  refine ko hK' (hSS _ bb2 hE2) fun hHeld => ?_
  clear hK' K'
  refine wpAnyH_done (by kernel_rfl) ?_ _
  skip
 rotate_left 1
 all_goals (clear hHeld hSS; obtain ⟨hm0, hm1, hm2, hm67⟩ := (hcells _ _ hE2).out)
 all_goals (go_wp2_with (first
  | (refine wl_storeV rfl 165 _ _ rfl 165 (B + 1) rfl AS rfl 68 aggAsk hAl Z hT4 hZl hA1 ?_; intro x5 hT5 hb5 hs5; have bb5 : Below B w x5 := bb4.trans (hb5.mono (by omega)))
  | (refine wl_loadG (by rfl) 165 _ rfl ⟨X, 0, none⟩ rfl 68 AS hAl aggAsk hX4.at0 ?_)
  | (refine wl_storeP rfl 39 _ _ rfl 165 X 36 rfl DV rfl 32 aggSumT hDl A0 hX3 (by rw [hA0l]; decide) hD1 AS HPUT.out ?_; intro x4 hX4 hb4 hg4 hs4; have hT4 := hT3.below hb4 (by omega); have bb4 : Below B w x4 := bb3.trans (hb4.mono (by omega)))
  | (go_at_call 100; refine (hso x2 bb2).out.mono ?_; rintro e x3 ⟨rfl, hb3⟩; have hX3 := hX2.below hb3 hX2.lt; have hT3 := hT2.below hb3 hT2.lt; have bb3 : Below B w x3 := bb2.trans (hb3.mono (by omega)))))
 all_goals ((try simp only [Exit.inBlock, Exit.then]); refine bodyPost_ret (results_cell2 rfl _ _ _ _ rfl AS (by rw [hAl]; exact aggAsk) hT5.at0) rfl ?_)
 all_goals (exact ⟨rfl, bb5⟩)
end Go.Proofs.YtdhipjoplkpgmaaGreatDoor.hf
namespace Go.Proofs.YtdhipjoplkpgmaaGreatDoor.hf
open Go.RowKit st hs wr shr sh lk
theorem keyless_two (w : World) : Calls Tryz.prog 154 #[.int .i64 2] w fun e w' => e = .returned (.bool true) ∧ w = w' := by
 go_enter Tryz.func154, Tryz.ntmps154
 go_wp2
 go_ret
 exact ⟨rfl, rfl⟩
theorem timeE_lo {t : Int} (h : timeE t = 0) : 0 ≤ t ∧ t ≤ 1099511627776 := by
 unfold timeE at h
 split at h
 ·cases h
 ·rename_i g; omega
theorem run_eq_id' (w : World) (s t : List Int) (hs : s.length = 16) (ht : t.length = 16) : (Op.equalIn 10000 25 (.agg (s.map (Value.int .u8)).toArray) (.agg (t.map (Value.int .u8)).toArray)).run Tryz.prog w = .ok (s == t) w :=
 run_equalIn_ints w 9998 25 5 16 .u8 Tryz.underlying25 Tryz.underlying5 size5' s t hs ht
theorem rowFault_ok (g mm mk mv : Nat) (t : Int) (f : List Int) (bo ro : Value) (w : World) (hf : f.length = 16) (ht : timeE t = 0) (hS : StOk w g mm mk mv) :
  Calls Tryz.prog 152 #[.pointer (some ⟨g, 0, none⟩), .agg (entC t (f.map (Value.int .u8)) bo).toArray, .agg (bodyC (f.map (Value.int .u8)) ro).toArray] w fun e w' => e = .returned (.int .i64 0) ∧ Below w.heap.size w w' := by
 have hFl : (f.map (Value.int .u8)).length = 16 := by rw [List.length_map, hf]
 obtain ⟨ht0, ht1⟩ := timeE_lo ht
 have htI : ¬ t < 0 := by omega
 have hSb := fun (w' : World) (hb : Below w.heap.size w w') => hid (hS.below hb (Nat.le_refl _))
 have hcells := fun (w : World) (g : Nat) (h : BlkV 83 w g (entC t (f.map (Value.int .u8)) bo)) => hid (ent_cells hFl h)
 have hact := fun (w : World) (g : Nat) (h : BlkV 83 w g (entC t (f.map (Value.int .u8)) bo)) => hid (ent_actor hFl h)
 have hprv := fun (w : World) (g : Nat) (h : BlkV 83 w g (entC t (f.map (Value.int .u8)) bo)) => hid (ent_prev hFl h)
 have hmem := fun (w : World) (g : Nat) (h : BlkV 42 w g (bodyC (f.map (Value.int .u8)) ro)) => hid (body_member hFl h)
 obtain ⟨CS, HCS⟩ := hidE (entC t (f.map (Value.int .u8)) bo)
 obtain ⟨BS, HBS⟩ := hidE (bodyC (f.map (Value.int .u8)) ro)
 rw [← HCS.out] at hcells hact hprv ⊢
 rw [← HBS.out] at hmem ⊢
 have heq : Hid (∀ w, (Op.equalIn 10000 25 (.agg (f.map (Value.int .u8)).toArray) (.agg (f.map (Value.int .u8)).toArray)).run Tryz.prog w = .ok true w) := hid (fun w => by rw [run_eq_id' w f f hf hf]; simp)
 have hes : Hid (∀ w, (Op.equalIn 10000 39 (.agg zSum.toArray) (.agg zSum.toArray)).run Tryz.prog w = .ok true w) := hid (fun w => by rw [show zSum = (List.replicate 32 (0 : Int)).map (Value.int .u8) from rfl, run_eq_sum' w _ _ (by simp) (by simp)]; simp)
 obtain ⟨F, HF⟩ := hidE (f.map (Value.int .u8))
 rw [← HF.out] at hact hmem heq hFl
 obtain ⟨ZS, HZS⟩ := hidE zSum
 have hZSl : ZS.length = 32 := by rw [HZS.out]; rfl
 have hst := fun (w' : World) (h : StOk w' g mm mk mv) => hid (⟨(st_cells rfl rfl h.blk).1, (st_cells rfl rfl h.blk).2.1, st_last h.blk⟩ : w'.cell? ⟨g, 0, none⟩ = some (.int .i64 0) ∧ w'.cell? ⟨g, 1, none⟩ = some (.int .i64 0) ∧ At w' ⟨g, 2, none⟩ zSum)
 rw [← HZS.out] at hprv hes hst
 obtain ⟨B, hsz⟩ := szE w
 rw [hsz] at hSb ⊢
 clear ht hS
 go_enter Tryz.func152, Tryz.ntmps152
 go_wp2_with (first
  | (refine wl_boxV rfl 42 _ rfl BS rfl (B + 1) (by omega) ?_; intro w2 hY2 hb2 hs2; have hE2 := hE1.below hb2 (by omega); have bb2 : Below B w w2 := bb1.trans (hb2.mono (by omega)))
  | (refine wl_boxV rfl 83 _ rfl CS rfl B hsz ?_; intro w1 hE1 bb1 hs1))
 have hSS : ∀ w', Below B w w' → BlkV 83 w' B CS → BlkV 42 w' (B + 1) BS → (w'.cell? ⟨B, 0, none⟩ = some (.int .i64 0) ∧ w'.cell? ⟨B, 1, none⟩ = some (.int .i64 t) ∧ w'.cell? ⟨g, 0, none⟩ = some (.int .i64 0) ∧ w'.cell? ⟨g, 1, none⟩ = some (.int .i64 0) ∧ w'.rangeAt B 35 ZS ∧ w'.rangeAt g 2 ZS) := fun w' hb hE hY => by
  have h1 := (hst w' (hSb w' hb).out).out
  have he := (hcells _ _ hE).out
  exact ⟨he.1, he.2.1, h1.1, h1.2.1, at_range (hprv _ _ hE).out, at_range h1.2.2⟩
 have hiZS : (Tryz.prog.info? 39).map (·.size) = some ZS.length := by rw [hZSl]; exact aggSumT.2
 refine wp_region_held_drew (S := (fun w' => w'.cell? ⟨B, 0, none⟩ = some (.int .i64 0) ∧ w'.cell? ⟨B, 1, none⟩ = some (.int .i64 t) ∧ w'.cell? ⟨g, 0, none⟩ = some (.int .i64 0) ∧ w'.cell? ⟨g, 1, none⟩ = some (.int .i64 0) ∧ w'.rangeAt B 35 ZS ∧ w'.rangeAt g 2 ZS)) (by kernel_rfl) (hSS _ bb2.drew hE2 hY2) (fun hHeld => ?_)
 obtain ⟨x1, HXx1⟩ := hidE w2.drew
 rw [← HXx1.out] at hHeld ⊢
 have hEx1 : BlkV 83 x1 B CS := by rw [HXx1.out]; exact hE2
 have hYx1 : BlkV 42 x1 (B + 1) BS := by rw [HXx1.out]; exact hY2
 have bbx1 : Below B w x1 := by rw [HXx1.out]; exact bb2.drew
 refine tq 0 rfl ?_
 refine tq 1 rfl ?_
 refine tq 2 rfl ?_
 refine tq 3 rfl ?_
 refine tq 4 rfl ?_
 refine tq 5 rfl ?_
 refine tq 6 rfl ?_
 refine tq 7 rfl ?_
 refine wpAnyH_done (by kernel_rfl) ?_ _
 clear hHeld
 go_wp2_with fail
 refine wp_region_held_drew (S := (fun w' => w'.cell? ⟨B, 0, none⟩ = some (.int .i64 0) ∧ w'.cell? ⟨B, 1, none⟩ = some (.int .i64 t) ∧ w'.cell? ⟨g, 0, none⟩ = some (.int .i64 0) ∧ w'.cell? ⟨g, 1, none⟩ = some (.int .i64 0) ∧ w'.rangeAt B 35 ZS ∧ w'.rangeAt g 2 ZS)) (by kernel_rfl) (hSS _ bbx1.drew hEx1 hYx1) (fun hHeld => ?_)
 obtain ⟨x2, HXx2⟩ := hidE x1.drew
 rw [← HXx2.out] at hHeld ⊢
 have hEx2 : BlkV 83 x2 B CS := by rw [HXx2.out]; exact hEx1
 have hYx2 : BlkV 42 x2 (B + 1) BS := by rw [HXx2.out]; exact hYx1
 have bbx2 : Below B w x2 := by rw [HXx2.out]; exact bbx1.drew
 refine tq 0 rfl ?_
 refine tk 1 rfl (yieldsIf_load_mid (by rfl) 39 _ rfl B 35 rfl ZS _ (fun w hS => hS.2.2.2.2.1) Tryz.underlying39 rfl hiZS) ?_
 refine tq 2 rfl ?_
 refine tq 3 rfl ?_
 refine tq 4 rfl ?_
 refine tk 5 rfl (yieldsIf_load_mid (by rfl) 39 _ rfl g 2 rfl ZS _ (fun w hS => hS.2.2.2.2.2) Tryz.underlying39 rfl hiZS) ?_
 refine tk 6 rfl (yieldsIf_neM (by rfl) 39 _ _ _ rfl ZS.toArray ZS.toArray rfl rfl true (fun w => hes.out w) (by kernel_rfl)) ?_
 refine tq 7 rfl ?_
 refine wpAnyH_done (by kernel_rfl) ?_ _
 clear hHeld
 go_wp2_with fail
 refine wp_region_held_drew (S := (fun w' => w'.cell? ⟨B, 0, none⟩ = some (.int .i64 0) ∧ w'.cell? ⟨B, 1, none⟩ = some (.int .i64 t) ∧ w'.cell? ⟨g, 0, none⟩ = some (.int .i64 0) ∧ w'.cell? ⟨g, 1, none⟩ = some (.int .i64 0) ∧ w'.rangeAt B 35 ZS ∧ w'.rangeAt g 2 ZS)) (by kernel_rfl) (hSS _ bbx2.drew hEx2 hYx2) (fun hHeld => ?_)
 obtain ⟨x3, HXx3⟩ := hidE x2.drew
 rw [← HXx3.out] at hHeld ⊢
 have hEx3 : BlkV 83 x3 B CS := by rw [HXx3.out]; exact hEx2
 have hYx3 : BlkV 42 x3 (B + 1) BS := by rw [HXx3.out]; exact hYx2
 have bbx3 : Below B w x3 := by rw [HXx3.out]; exact bbx2.drew
 refine tq 0 rfl ?_
 refine tq 1 rfl ?_
 refine tq 2 rfl ?_
 refine tq 3 rfl ?_
 refine tq 4 rfl ?_
 refine tq 5 rfl ?_
 refine tq 6 rfl ?_
 refine tq 7 rfl ?_
 refine wpAnyH_done (by kernel_rfl) ?_ _
 clear hHeld
 obtain ⟨c0, c1, c2, c67⟩ := (hcells _ _ hEx3).out
 have s0 := ((hst _ (hSb _ bbx3).out).out).1
 clear hcells hst
 go_wp2_with (first
  | (refine wl_neqD 45 rfl (by kernel_rfl) 25 _ _ _ rfl F.toArray F.toArray rfl rfl true (heq.out _) (by kernel_rfl) false rfl ?_)
  | (refine wl_loadG (by rfl) 25 _ rfl ⟨B, 3, none⟩ rfl 16 F hFl aggIDT (hact _ _ hEx3).out ?_)
  | (refine wl_loadG (by rfl) 25 _ rfl ⟨B + 1, 1, none⟩ rfl 16 F hFl aggIDT (hmem _ _ hYx3).out ?_))
 go_ret
 exact ⟨rfl, bbx3⟩
theorem wl_eqK {P : Program} {w : World} {ops : Array Oper} {rest : List Oper} {o : Oper} {a : Act} {Q : Exit → Act → World → Prop} (d : Nat) (hd : o.dst = some d) (hgd : Region.wanted o (yielded ops a.tmps) = true) (ty ty2 : TypeId) (x y : Operand) (ho : o.op = .binOp .eql ty x y ty2)
  (A B : Array Value) (hx : a.eval x = .agg A) (hy : a.eval y = .agg B) (b : Bool) (he : (Op.equalIn 10000 ty (.agg A) (.agg B)).run P w = .ok b w) (hm : P.eqGuardType P.depth ty = false) (h : wpList P ops Q rest (a.put o.dst (.bool b)) w) : wpList P ops Q (o :: rest) a w := by
 refine wpList_step fun K hK' => ?_
 rw [if_pos hgd]
 unfold Oper.wp
 simp [execOp, ho, hx, hy, run_eqGuard_agg, run_eql_struct, hm, he, Result.andThen]
 exact hK' _ _ h
theorem builtID0 : Tryz.prog.built 25 [] = some zID.toArray := by kernel_rfl
theorem memberFault_ok (g mm mk mv : Nat) (t : Int) (f : List Int) (bo ro : Value) (w : World) (hf : f.length = 16) (h0 : f ≠ List.replicate 16 0) (hS : StOk w g mm mk mv) :
  Calls Tryz.prog 155 #[.pointer (some ⟨g, 0, none⟩), .agg (entC t (f.map (Value.int .u8)) bo).toArray, .agg (bodyC (f.map (Value.int .u8)) ro).toArray] w fun e w' => e = .returned (.int .i64 0) ∧ Below w.heap.size w w' := by
 have hFl : (f.map (Value.int .u8)).length = 16 := by rw [List.length_map, hf]
 have hSb := fun (w' : World) (hb : Below w.heap.size w w') => hid (hS.below hb (Nat.le_refl _))
 have hcells := fun (w : World) (g : Nat) (h : BlkV 83 w g (entC t (f.map (Value.int .u8)) bo)) => hid (ent_cells hFl h)
 have hkey := fun (w : World) (g : Nat) (h : BlkV 83 w g (entC t (f.map (Value.int .u8)) bo)) => hid (ent_key hFl h)
 have hmem := fun (w : World) (g : Nat) (h : BlkV 42 w g (bodyC (f.map (Value.int .u8)) ro)) => hid (body_member hFl h)
 obtain ⟨CS, HCS⟩ := hidE (entC t (f.map (Value.int .u8)) bo)
 obtain ⟨BS, HBS⟩ := hidE (bodyC (f.map (Value.int .u8)) ro)
 rw [← HCS.out] at hcells hkey ⊢
 rw [← HBS.out] at hmem ⊢
 have hzz : Hid (∀ w, (Op.equalIn 10000 25 (.agg zID.toArray) (.agg zID.toArray)).run Tryz.prog w = .ok true w) := hid (fun w => by rw [show zID = (List.replicate 16 (0 : Int)).map (Value.int .u8) from rfl, run_eq_id' w _ _ (by simp) (by simp)]; simp)
 have hfz : Hid (∀ w, (Op.equalIn 10000 25 (.agg (f.map (Value.int .u8)).toArray) (.agg zID.toArray)).run Tryz.prog w = .ok false w) := hid (fun w => by rw [show zID = (List.replicate 16 (0 : Int)).map (Value.int .u8) from rfl, run_eq_id' w f _ hf (by simp)]; congr 1; simpa using h0)
 obtain ⟨F, HF⟩ := hidE (f.map (Value.int .u8))
 have HFI : Hid (Value.agg F.toArray = idV f) := hid (by rw [HF.out]; rfl)
 rw [← HF.out] at hmem hfz hFl
 obtain ⟨ZI, HZI⟩ := hidE zID
 have hZIl : ZI.length = 16 := by rw [HZI.out]; rfl
 have hbi := hid builtID0
 rw [← HZI.out] at hkey hzz hfz hbi
 obtain ⟨B, hsz⟩ := szE w
 rw [hsz] at hSb ⊢
 clear hS h0
 go_enter Tryz.func155, Tryz.ntmps155
 go_wp2_with (first
  | (refine wl_boxV rfl 42 _ rfl BS rfl (B + 1) (by omega) ?_; intro w2 hY2 hb2 hs2; have hE2 := hE1.below hb2 (by omega); have bb2 : Below B w w2 := bb1.trans (hb2.mono (by omega)))
  | (refine wl_boxV rfl 83 _ rfl CS rfl B hsz ?_; intro w1 hE1 bb1 hs1))
 have hSS : ∀ w', Below B w w' → BlkV 83 w' B CS → BlkV 42 w' (B + 1) BS → (MapD w' mm (fun _ => none) ∧ w'.cell? ⟨g, 52, none⟩ = some (.map (some mm)) ∧ w'.rangeAt (B + 1) 1 F) := fun w' hb hE hY => by
  have hs := (hSb w' hb).out
  exact ⟨hs.mem, (st_cells rfl rfl hs.blk).2.2.2.2.1, at_range (hmem _ _ hY).out⟩
 have hiF : (Tryz.prog.info? 25).map (·.size) = some F.length := by rw [hFl]; exact aggIDT.2
 refine wp_region_held_drew (S := (fun w' => MapD w' mm (fun _ => none) ∧ w'.cell? ⟨g, 52, none⟩ = some (.map (some mm)) ∧ w'.rangeAt (B + 1) 1 F)) (by kernel_rfl) (hSS _ bb2.drew hE2 hY2) (fun hHeld => ?_)
 obtain ⟨x1, HXx1⟩ := hidE w2.drew
 rw [← HXx1.out] at hHeld ⊢
 have hEx1 : BlkV 83 x1 B CS := by rw [HXx1.out]; exact hE2
 have hYx1 : BlkV 42 x1 (B + 1) BS := by rw [HXx1.out]; exact hY2
 have bbx1 : Below B w x1 := by rw [HXx1.out]; exact bb2.drew
 refine tq 0 rfl ?_
 refine tq 1 rfl ?_
 refine tq 2 rfl ?_
 refine tq 3 rfl ?_
 refine tq 4 rfl ?_
 refine tk 5 rfl (yieldsIf_load_mid (by rfl) 25 _ rfl (B + 1) 1 rfl F _ (fun w hS => hS.2.2) Tryz.underlying25 rfl hiF) ?_
 refine tk 6 rfl (yieldsIf_lookD (by rfl) _ 26 _ _ true rfl (by kernel_rfl) (.slice none 0 0) zeroRoles mm (fun _ => none) (fun w hS => hS.1) f hf (.agg F.toArray) HFI.out rfl rfl (.tuple #[.slice none 0 0, .bool false]) rfl) ?_
 refine tq 7 rfl ?_
 refine tq 8 rfl ?_
 refine tq 9 rfl ?_
 refine tq 10 rfl ?_
 refine tq 11 rfl ?_
 refine wpAnyH_done (by kernel_rfl) ?_ _
 clear hHeld
 obtain ⟨c0, c1, c2, c67⟩ := (hcells _ _ hEx1).out
 clear hcells
 go_wp2_with (first
  | (refine wl_eqK 49 rfl (by kernel_rfl) 25 _ _ _ rfl F.toArray ZI.toArray rfl rfl false (hfz.out _) (by kernel_rfl) ?_)
  | (refine wl_neqD 33 rfl (by kernel_rfl) 25 _ _ _ rfl ZI.toArray ZI.toArray rfl rfl true (hzz.out _) (by kernel_rfl) false rfl ?_)
  | (refine wl_build0G (by kernel_rfl) 25 rfl ZI hbi.out ?_)
  | (refine wl_loadG (by kernel_rfl) 25 _ rfl ⟨B, 19, none⟩ rfl 16 ZI hZIl aggIDT (hkey _ _ hEx1).out ?_)
  | (refine wl_loadG (by kernel_rfl) 25 _ rfl ⟨B + 1, 1, none⟩ rfl 16 F hFl aggIDT (hmem _ _ hYx1).out ?_))
 refine wp_region_held_drew (S := (fun w' => w'.cell? ⟨B, 2, none⟩ = some (.int .i64 2))) (by kernel_rfl) c2 (fun hHeld => ?_)
 refine tq 0 rfl ?_
 refine tq 1 rfl ?_
 refine tq 2 rfl ?_
 refine tq 3 rfl ?_
 refine tk 4 rfl (Or.inr ⟨by kernel_rfl, rfl⟩) ?_
 refine tk 5 rfl (Or.inr ⟨by kernel_rfl, rfl⟩) ?_
 refine tk 6 rfl (Or.inr ⟨by kernel_rfl, rfl⟩) ?_
 refine tk 7 rfl (Or.inr ⟨by kernel_rfl, rfl⟩) ?_
 refine tk 8 rfl (Or.inr ⟨by kernel_rfl, rfl⟩) ?_
 refine tk 9 rfl (Or.inr ⟨by kernel_rfl, rfl⟩) ?_
 refine tk 10 rfl (Or.inr ⟨by kernel_rfl, rfl⟩) ?_
 refine tq 11 rfl ?_
 refine tq 12 rfl ?_
 refine wpAnyH_done (by kernel_rfl) ?_ _
 go_wp2_with fail
 go_ret
 exact ⟨rfl, bbx1.drew⟩
end Go.Proofs.YtdhipjoplkpgmaaGreatDoor.hf
