/-
  Contract of keyref2.ReadEnvelope. Conditions: a slice of octets that lies in memory.
-/
import Derived.Test.YtbjmadcbhkeenaaGreatCWrL
set_option maxRecDepth 100000
set_option linter.unusedSimpArgs false
set_option linter.unusedVariables false
namespace Go.Proofs.YtbjmadcbhkeenaaGreat.wr
open Go.RowKit st hs shr sh
theorem step_set1 {P : Program} {ops : Array Oper} {o : Oper} {a : Act} {w : World} {K : Act → World → Prop} {Q : Exit → Act → World → Prop} {E : Prop} (hgd : o.guard = none) (ty : TypeId) (x y : Operand) (ho : o.op = .store ty x y)
  (t : TypeId) (g i : Nat) (hx : a.eval x = .pointer (some ⟨g, i, none⟩)) (v : Value) (hy : a.eval y = v) (hv : v.cells = #[v]) (h1 : v.oneCell' = true) (hi1 : (P.info? ty).map (·.size) = some 1) (cur : List Value) (hg : BlkV t w g cur) (hi : i < cur.length)
  (h : ∀ w', BlkV t w' g (cur.set i v) → w.grownBy w' (some g) → Below g w w' → w'.heap.size = w.heap.size → K (a.put o.dst undef) w') : if Region.wanted o (yielded ops a.tmps) = true then Oper.wp P o a w K Q else E := by
 have hw : Region.wanted o (yielded ops a.tmps) = true := by simp [Region.wanted, hgd]
 rw [if_pos hw]
 obtain ⟨f, hf, hs⟩ := Option.map_eq_some_iff.1 hi1
 have hrun : (storeVar ty ⟨g, i, none⟩ v).run P w = .ok () (w.setRow g (cur.set i v).toArray) := by
  have h := run_storeCells_at (P := P) g i t [v] 0 cur.toArray w hg (by simp; omega) (by intro u hu; rw [List.mem_singleton.1 hu]; exact h1)
  simp only [Nat.add_zero] at h
  have e : cur.take i ++ [v] ++ cur.drop (i + 1) = cur.set i v := by
   rw [List.set_eq_take_append_cons_drop, if_pos hi]; simp
  have h' : (storeCells ⟨g, i, none⟩ [v]).run P w = .ok () (w.setRow g (cur.set i v).toArray) := by
   rw [← e]; simpa using h
  simp [storeVar, hv, sizeOf, typeInfo, hf, hs, h']
 have h' := h _ (hg.setRow _) (grown_setRow _ _ _) (below_setRow' (Below.refl _ _) (Nat.le_refl _) _) (by simp)
 unfold Oper.wp
 simp only [execOp, ho, hx, hy, Instr.storeAt, Instr.sureAddr, hrun, Sem.run_bind, Result.andThen_ok, Sem.run_pure]
 exact h'
theorem sizeSl : (Tryz.prog.info? 25).map (·.size) = some 1 := by kernel_rfl
theorem sizeIn : (Tryz.prog.info? 3).map (·.size) = some 1 := by kernel_rfl
theorem env0_set (v e : Int) : (env0.cs.set 0 (.int .i64 v)).set 1 (.int .i64 e) = (⟨v, e, List.replicate 16 0, List.replicate 16 0, List.replicate 16 0, List.replicate 32 0, List.replicate 32 0, List.replicate 16 0⟩ : Env).cs := rfl
theorem env_put_b {x : Env} (h : x.Len) (d : List Int) (hd : d.length = 16) : x.cs.take 2 ++ d.map (Value.int .u8) ++ x.cs.drop (2 + (d.map (Value.int .u8)).length) = ({x with b := d} : Env).cs := by
 have e1 : x.cs = [.int .i64 x.v, .int .i64 x.e] ++ x.b.map (Value.int .u8) ++ (x.o.map (Value.int .u8) ++ x.n.map (Value.int .u8) ++ x.c.map (Value.int .u8) ++ x.g.map (Value.int .u8) ++ x.t.map (Value.int .u8)) := by rw [Env.cs_split] <;> simp
 have e2 : ({x with b := d} : Env).cs = [.int .i64 x.v, .int .i64 x.e] ++ d.map (Value.int .u8) ++ (x.o.map (Value.int .u8) ++ x.n.map (Value.int .u8) ++ x.c.map (Value.int .u8) ++ x.g.map (Value.int .u8) ++ x.t.map (Value.int .u8)) := by rw [Env.cs_split] <;> simp
 rw [e1, e2, show 2 + (d.map (Value.int .u8)).length = 2 + 16 by rw [List.length_map, hd]]
 exact put_mid _ _ _ _ 2 16 (by simp) (by simp [h.bl]) (by simp [hd])
theorem env_len_b {x : Env} (h : x.Len) (d : List Int) (hd : d.length = 16) : ({x with b := d} : Env).Len := ⟨hd, h.ol, h.nl, h.cl, h.gl, h.tl⟩
theorem env_tak_b {x : Env} (h : x.Len) (d : List Int) (hd : d.length = 16) : x.cs.take 2 ++ d.map (Value.int .u8) ++ x.cs.drop (2 + 16) = ({x with b := d} : Env).cs := by
 have h := env_put_b h d hd
 rwa [List.length_map, hd] at h
theorem env_tak_o {x : Env} (h : x.Len) (d : List Int) (hd : d.length = 16) : x.cs.take 18 ++ d.map (Value.int .u8) ++ x.cs.drop (18 + 16) = ({x with o := d} : Env).cs := by
 have h := env_put_o h d hd
 rwa [List.length_map, hd] at h
theorem env_tak_n {x : Env} (h : x.Len) (d : List Int) (hd : d.length = 16) : x.cs.take 34 ++ d.map (Value.int .u8) ++ x.cs.drop (34 + 16) = ({x with n := d} : Env).cs := by
 have h := env_put_n h d hd
 rwa [List.length_map, hd] at h
theorem env_tak_c {x : Env} (h : x.Len) (d : List Int) (hd : d.length = 32) : x.cs.take 50 ++ d.map (Value.int .u8) ++ x.cs.drop (50 + 32) = ({x with c := d} : Env).cs := by
 have h := env_put_c h d hd
 rwa [List.length_map, hd] at h
theorem env_tak_g {x : Env} (h : x.Len) (d : List Int) (hd : d.length = 32) : x.cs.take 82 ++ d.map (Value.int .u8) ++ x.cs.drop (82 + 32) = ({x with g := d} : Env).cs := by
 have h := env_put_g h d hd
 rwa [List.length_map, hd] at h
theorem env_tak_t {x : Env} (h : x.Len) (d : List Int) (hd : d.length = 16) : x.cs.take 114 ++ d.map (Value.int .u8) ++ x.cs.drop (114 + 16) = ({x with t := d} : Env).cs := by
 have h := env_put_t h d hd
 rwa [List.length_map, hd] at h
set_option maxHeartbeats 8000000 in
theorem RefRead_full1 (ao : Option Addr) (cap n : Nat) (l : List Int) (w : World) (hn : n = l.length) (hP : Pt.Ok w ⟨ao, cap, l⟩) (hf : l.take 3 = kww) (hv : l.getD 3 0 = 1) (hl : n = 88) :
  Calls Tryz.prog 27 #[.slice ao n cap] w fun e w' => e = .returned (readV l) ∧ Below w.heap.size w w' := by
 obtain ⟨B, HB⟩ : ∃ B, Hid (B = w.heap.size) := ⟨_, rfl⟩
 have hsz : w.heap.size = B := HB.out.symm
 have hz := hid zeroEnv
 obtain ⟨Z, HZ⟩ : ∃ Z, Hid (Z = env0.cs) := ⟨_, rfl⟩
 have hZl : Z.length = 130 := by rw [HZ.out]; exact env0_ok.csl
 rw [← HZ.out] at hz
 have HN := hid hn
 have hE : readE l = 0 := by
  have hs : szR l = 88 := (by unfold szR; rw [if_neg (by omega)])
  unfold readE
  rw [if_neg (by omega), if_neg (fun h => h hf), if_neg (by omega), hs, if_neg (by omega), if_neg (by omega)]
 have HV := hid (readV_ok hE)
 have HXE : Hid (readX l = ⟨1, numL (seg l 4 4), seg l 8 16, List.replicate 16 0, seg l 24 16, List.replicate 32 0, seg l 40 32, seg l 72 16⟩) := hid (by unfold readX; rw [if_neg (by omega)])
 have hcap : 88 ≤ cap := by rw [← hl, hn]; exact hP.len
 have hmax : cap ≤ maxLen := hP.cap
 have hlen : l.length = 88 := by rw [← hn]; exact hl
 obtain ⟨E, HEE⟩ : ∃ E, Hid (E = numL (seg l 4 4)) := ⟨_, rfl⟩
 rw [← HEE.out] at HXE
 have hob4 := seg_octs hP.oct 4 4
 subst hl
 obtain ⟨b, off, rfl, hb, hc⟩ := hP.row.at (i := 0) (by show 0 < l.length; omega)
 have hI : ¬ (88 : Int) < 4 := by omega
 have h3c : 3 ≤ cap := by omega
 have h3I : (3 : Int) ≤ (cap : Int) := by omega
 have h8I : (8 : Int) ≤ (cap : Int) := by omega
 have hc4 : ¬ cap = 4 := by omega
 have hc8 : ¬ cap = 8 := by omega
 obtain ⟨S, HS⟩ : ∃ S, Hid (S = strOfNums (l.take 3)) := ⟨_, rfl⟩
 have hlen3 : 3 = (l.take 3).length := by rw [List.length_take]; omega
 have hkS := fun w1 (hb1 : Below B w w1) => hid (run_convStr w1 (some ⟨b, off, none⟩) 3 cap (l.take 3) hlen3 (RowI.takeS (hP.row.below (hsz ▸ hb1)) 3))
 rw [← HS.out] at hkS
 have ems : S = ⟨#[75, 87, 87]⟩ := by rw [HS.out, hf]; rfl
 rw [ems] at hkS
 have hc3 : w.cell? ⟨b, off + 3, none⟩ = some (.int .u8 1) := by rw [hc 3 (by show 3 < l.length; omega), hv]
 have hbB : b < B := by rw [HB.out]; exact hb
 have h4 := hid (seg_at (l := l) hc (k := 4) (n := 4) (by omega))
 have hnb := fun (w1 : World) (hb1 : Below B w w1) (hs1 : B ≤ w1.heap.size) => hid (NumberOf_any (some ⟨b, off + 4, none⟩) (cap - 4) 4 (seg l 4 4) w1 (seg_length (by omega)).symm (RowV.i (at_row (by omega) (at_below h4.out hb1 hbB))) hob4 (by decide))
 rw [← HEE.out] at hnb
 obtain ⟨Db, HDb⟩ : ∃ D, Hid (D = seg l 8 16) := ⟨_, rfl⟩
 have hlb : Hid (Db.length = 16) := hid (by rw [HDb.out]; exact seg_length (by omega))
 have hmb : Hid ((Db.map (Value.int .u8)).length = 16) := hid (by rw [List.length_map]; exact hlb.out)
 have hab : Hid (At w ⟨b, off + 8, none⟩ (Db.map (Value.int .u8))) := hid (by rw [HDb.out]; exact seg_at (l := l) hc (by omega))
 rw [← HDb.out] at HXE
 obtain ⟨Dn, HDn⟩ : ∃ D, Hid (D = seg l 24 16) := ⟨_, rfl⟩
 have hln : Hid (Dn.length = 16) := hid (by rw [HDn.out]; exact seg_length (by omega))
 have hmn : Hid ((Dn.map (Value.int .u8)).length = 16) := hid (by rw [List.length_map]; exact hln.out)
 have han : Hid (At w ⟨b, off + 24, none⟩ (Dn.map (Value.int .u8))) := hid (by rw [HDn.out]; exact seg_at (l := l) hc (by omega))
 rw [← HDn.out] at HXE
 obtain ⟨Dg, HDg⟩ : ∃ D, Hid (D = seg l 40 32) := ⟨_, rfl⟩
 have hlg : Hid (Dg.length = 32) := hid (by rw [HDg.out]; exact seg_length (by omega))
 have hmg : Hid ((Dg.map (Value.int .u8)).length = 32) := hid (by rw [List.length_map]; exact hlg.out)
 have hag : Hid (At w ⟨b, off + 40, none⟩ (Dg.map (Value.int .u8))) := hid (by rw [HDg.out]; exact seg_at (l := l) hc (by omega))
 rw [← HDg.out] at HXE
 obtain ⟨Dt, HDt⟩ : ∃ D, Hid (D = seg l 72 16) := ⟨_, rfl⟩
 have hlt : Hid (Dt.length = 16) := hid (by rw [HDt.out]; exact seg_length (by omega))
 have hmt : Hid ((Dt.map (Value.int .u8)).length = 16) := hid (by rw [List.length_map]; exact hlt.out)
 have hat : Hid (At w ⟨b, off + 72, none⟩ (Dt.map (Value.int .u8))) := hid (by rw [HDt.out]; exact seg_at (l := l) hc (by omega))
 rw [← HDt.out] at HXE
 obtain ⟨X0, HX0⟩ : ∃ X, Hid (X = (⟨1, E, List.replicate 16 0, List.replicate 16 0, List.replicate 16 0, List.replicate 32 0, List.replicate 32 0, List.replicate 16 0⟩ : Env)) := ⟨_, rfl⟩
 have hL0 : Hid X0.Len := hid (by rw [HX0.out]; exact ⟨rfl, rfl, rfl, rfl, rfl, rfl⟩)
 have hv0 : Hid (X0.v = 1) := hid (by rw [HX0.out])
 have hZ0 : Hid ((Z.set 0 (.int .i64 1)).set 1 (.int .i64 E) = X0.cs) := hid (by rw [HZ.out, HX0.out]; exact env0_set 1 E)
 obtain ⟨X1, HX1⟩ : ∃ X, Hid (X = ({X0 with b := Db} : Env)) := ⟨_, rfl⟩
 have hL1 : Hid X1.Len := hid (by rw [HX1.out]; exact env_len_b hL0.out Db hlb.out)
 have hv1 : Hid (X1.v = 1) := hid (by rw [HX1.out]; exact hv0.out)
 have hT1 : Hid (X0.cs.take 2 ++ Db.map (Value.int .u8) ++ X0.cs.drop (2 + 16) = X1.cs) := hid (by rw [HX1.out]; exact env_tak_b hL0.out Db hlb.out)
 obtain ⟨X2, HX2⟩ : ∃ X, Hid (X = ({X1 with n := Dn} : Env)) := ⟨_, rfl⟩
 have hL2 : Hid X2.Len := hid (by rw [HX2.out]; exact env_len_n hL1.out Dn hln.out)
 have hv2 : Hid (X2.v = 1) := hid (by rw [HX2.out]; exact hv1.out)
 have hT2 : Hid (X1.cs.take 34 ++ Dn.map (Value.int .u8) ++ X1.cs.drop (34 + 16) = X2.cs) := hid (by rw [HX2.out]; exact env_tak_n hL1.out Dn hln.out)
 obtain ⟨X3, HX3⟩ : ∃ X, Hid (X = ({X2 with g := Dg} : Env)) := ⟨_, rfl⟩
 have hL3 : Hid X3.Len := hid (by rw [HX3.out]; exact env_len_g hL2.out Dg hlg.out)
 have hv3 : Hid (X3.v = 1) := hid (by rw [HX3.out]; exact hv2.out)
 have hT3 : Hid (X2.cs.take 82 ++ Dg.map (Value.int .u8) ++ X2.cs.drop (82 + 32) = X3.cs) := hid (by rw [HX3.out]; exact env_tak_g hL2.out Dg hlg.out)
 obtain ⟨X4, HX4⟩ : ∃ X, Hid (X = ({X3 with t := Dt} : Env)) := ⟨_, rfl⟩
 have hL4 : Hid X4.Len := hid (by rw [HX4.out]; exact env_len_t hL3.out Dt hlt.out)
 have hv4 : Hid (X4.v = 1) := hid (by rw [HX4.out]; exact hv3.out)
 have hT4 : Hid (X3.cs.take 114 ++ Dt.map (Value.int .u8) ++ X3.cs.drop (114 + 16) = X4.cs) := hid (by rw [HX4.out]; exact env_tak_t hL3.out Dt hlt.out)
 have hfin : Hid (X4 = readX l) := hid (by rw [HXE.out, HX4.out, HX3.out, HX2.out, HX1.out, HX0.out])
 unfold maxLen at hmax
 have hq0 : 80 ≤ cap - 8 := by omega
 have hqm0 : cap - 8 ≤ maxLen := by unfold maxLen; omega
 have hql0 : 16 < cap - 8 := by omega
 have hq1 : 64 ≤ cap - 8 - 16 := by omega
 have hqm1 : cap - 8 - 16 ≤ maxLen := by unfold maxLen; omega
 have hql1 : 16 < cap - 8 - 16 := by omega
 have hq2 : 48 ≤ cap - 8 - 16 - 16 := by omega
 have hqm2 : cap - 8 - 16 - 16 ≤ maxLen := by unfold maxLen; omega
 have hql2 : 32 < cap - 8 - 16 - 16 := by omega
 have hq3 : 16 ≤ cap - 8 - 16 - 16 - 32 := by omega
 have hqm3 : cap - 8 - 16 - 16 - 32 ≤ maxLen := by unfold maxLen; omega
 obtain ⟨C, HC⟩ : ∃ C, Hid (C = X4.cs) := ⟨_, rfl⟩
 have hCl : C.length = 130 := by rw [HC.out]; exact hL4.out.csl
 have hC1 : ∀ u ∈ C, u.oneCell' = true := by rw [HC.out]; exact Env.cs_one _
 have HVC : Hid (readV l = .tuple #[.agg C.toArray, .int .i64 0]) := hid (by rw [HV.out, HC.out, hfin.out])
 clear hn hP hf hlen3 hc hE ems hv
 go_enter Tryz.func27, Tryz.ntmps27
 go_wp2_with (first | (refine wl_lookup1 rfl 93 5 3 _ _ rfl Tryz.underlying93 .u8 Tryz.underlying5 (B + 3) 2 0 #[⟨.int .u8 1, .int .i64 88, 0⟩, ⟨.int .u8 2, .int .i64 136, 1⟩] 1 (.int .i64 88) rfl rfl hM5 (by rfl) ?_) | (refine wl_insert rfl 93 5 3 _ _ _ rfl Tryz.underlying93 .u8 Tryz.underlying5 (B + 3) 1 #[⟨.int .u8 1, .int .i64 88, 0⟩] 2 (.int .i64 136) rfl rfl rfl hM4 (by rfl) ?_; intro w5 hM5 hb5 hs5; have hP5 := hP4.below hb5 (by omega); have hR5 := hR4.below hb5 (by omega); have hX5 := hX4.below hb5 (by omega); have bb5 := bb4.trans (hb5.mono (by omega : B ≤ _)); have cP5 : w5.cell? ⟨B, 0, none⟩ = some (Value.slice (some ⟨b, off, none⟩) 88 cap) := hP5.cell 0; have c35 := (bb5.cell (p := ⟨b, off + 3, none⟩) hbB).trans hc3; clear hP4 hR4 hX4 bb4 cP4 hb5; clear hM4 c34) | (refine wl_insert rfl 93 5 3 _ _ _ rfl Tryz.underlying93 .u8 Tryz.underlying5 (B + 3) 0 #[] 1 (.int .i64 88) rfl rfl rfl hM3 (by rfl) ?_; intro w4 hM4 hb4 hs4; have hP4 := hP3.below hb4 (by omega); have hR4 := hR3.below hb4 (by omega); have hX4 := hX3.below hb4 (by omega); have bb4 := bb3.trans (hb4.mono (by omega : B ≤ _)); have cP4 : w4.cell? ⟨B, 0, none⟩ = some (Value.slice (some ⟨b, off, none⟩) 88 cap) := hP4.cell 0; have c34 := (bb4.cell (p := ⟨b, off + 3, none⟩) hbB).trans hc3; clear hP3 hR3 hX3 bb3 cP3 hb4; clear hM3 c33) | (refine wl_makeMap rfl 93 rfl (B + 3) hs2 ?_; intro w3 hM3 hb3 hs3; have hP3 := hP2.below hb3 (by omega); have hR3 := hR2.below hb3 (by omega); have hX3 := hX2.below hb3 (by omega); have bb3 := bb2.trans (hb3.mono (by omega : B ≤ _)); have cP3 : w3.cell? ⟨B, 0, none⟩ = some (Value.slice (some ⟨b, off, none⟩) 88 cap) := hP3.cell 0; have c33 := (bb3.cell (p := ⟨b, off + 3, none⟩) hbB).trans hc3; clear hP2 hR2 hX2 bb2 cP2 hb3; clear c3) | (refine wl_allocV rfl 57 rfl Z hz.out (B + 2) hs1 ?_; intro w2 hX2 hb2 hs2; have hP2 := hP1.below hb2 (by omega); have hR2 := hR1.below hb2 (by omega); have bb2 := bb1.trans (hb2.mono (by omega : B ≤ _)); have cP2 : w2.cell? ⟨B, 0, none⟩ = some (Value.slice (some ⟨b, off, none⟩) 88 cap) := hP2.cell 0; clear hP1 hR1 bb1 hb2; have kS := (hkS w2 bb2).out; have c3 := (bb2.cell (p := ⟨b, off + 3, none⟩) hbB).trans hc3) | (refine wl_allocV rfl 57 rfl Z hz.out (B + 1) hs0 ?_; intro w1 hR1 hb1 hs1; have hP1 := hP0.below hb1 (by omega); have bb1 := hb0.trans (hb1.mono (by omega : B ≤ _)); clear hP0 hb0 hb1) | (refine wl_box1 rfl 25 _ rfl (Value.slice (some ⟨b, off, none⟩) 88 cap) rfl rfl B hsz ?_; intro w0 hP0 hb0 hs0))
 refine wp_region_held_drew (S := (fun w' => w'.cell? ⟨B, 0, none⟩ = some (Value.slice (some ⟨b, off, none⟩) 88 cap) ∧ w'.cell? ⟨b, off + 3, none⟩ = some (.int .u8 1))) (by kernel_rfl) ⟨cP5, c35⟩ (fun hHeld => ?_)
 obtain ⟨y0, HY0⟩ : ∃ x, Hid (x = w5.drew) := ⟨_, rfl⟩
 rw [← HY0.out] at hHeld ⊢
 have bb0 : Below B w y0 := by rw [HY0.out]; exact bb5.drew
 have hR0 : BlkV 57 y0 (B + 1) Z := by rw [HY0.out]; exact hR5
 have hX0 : BlkV 57 y0 (B + 2) Z := by rw [HY0.out]; exact hX5
 have hP0 : BlkV 25 y0 B [Value.slice (some ⟨b, off, none⟩) 88 cap] := by rw [HY0.out]; exact hP5
 have hsy0 : B + 3 ≤ y0.heap.size := by rw [HY0.out]; show B + 3 ≤ w5.heap.size; omega
 have q0 := hHeld.1
 have c0 := hHeld.2
 clear cP5 c35 bb5 hR5 hX5 hP5 hM5 hs3 hs4 hs5
 refine take_l (i := 0) (v := ?rv1) rfl (by kernel_rfl) (by kernel_rfl) (by kernel_rfl) (fun _ _ _ h => h) (Or.inl ⟨by rfl, ?rhy1⟩) (by assumption) ?rrest1
 case rhy1 => (intro w hSw; (try dsimp only at hSw); go_simp; (try with_reducible rfl))
 try simp only [Act.put, fpA, fpZ, fpN]
 refine take_l (i := 1) (v := ?rv2) rfl (by kernel_rfl) (by kernel_rfl) (by kernel_rfl) (fun _ _ _ h => h) (Or.inl ⟨by rfl, ?rhy2⟩) (by assumption) ?rrest2
 case rhy2 => (intro w hSw; (try dsimp only at hSw); go_simp; (try with_reducible rfl))
 try simp only [Act.put, fpA, fpZ, fpN]
 refine take_l (i := 2) (v := ?rv3) rfl (by kernel_rfl) (by kernel_rfl) (by kernel_rfl) (fun _ _ _ h => h) (Or.inl ⟨by rfl, ?rhy3⟩) (by assumption) ?rrest3
 case rhy3 => (intro w hSw; (try dsimp only at hSw); go_simp; (try with_reducible rfl))
 try simp only [Act.put, fpA, fpZ, fpN]
 refine take_l (i := 3) (v := ?rv4) rfl (by kernel_rfl) (by kernel_rfl) (by kernel_rfl) (fun _ _ _ h => h) (Or.inl ⟨by rfl, ?rhy4⟩) (by assumption) ?rrest4
 case rhy4 => (intro w hSw; (try dsimp only at hSw); go_simp; (try with_reducible rfl))
 try simp only [Act.put, fpA, fpZ, fpN]
 refine take_l (i := 4) (v := ?rv5) rfl (by kernel_rfl) (by kernel_rfl) (by kernel_rfl) (fun _ _ _ h => h) (Or.inl ⟨by rfl, ?rhy5⟩) (by assumption) ?rrest5
 case rhy5 => (intro w hSw; (try dsimp only at hSw); go_simp; (try with_reducible rfl))
 try simp only [Act.put, fpA, fpZ, fpN]
 refine take_l (i := 5) (v := ?rv6) rfl (by kernel_rfl) (by kernel_rfl) (by kernel_rfl) (fun _ _ _ h => h) (Or.inl ⟨by rfl, ?rhy6⟩) (by assumption) ?rrest6
 case rhy6 => (intro w hSw; (try dsimp only at hSw); go_simp; (try with_reducible rfl))
 try simp only [Act.put, fpA, fpZ, fpN]
 refine wpAnyH_ready (rs := [6]) (by kernel_rfl) (by simp) (cons_l rfl (fun K' hK' => ?_) AllReadyH.nil)
 rw [if_pos (by rfl)]
 go_simp
 go_at_call 49
 refine (hnb y0 bb0 (by omega)).out.mono ?_
 rintro e y1 ⟨rfl, rfl⟩
 refine hK'.out _ _ ⟨q0, c0⟩ (fun hHeld => ?_)
 clear hK' K'
 try simp only [Act.put, fpA, fpZ, fpN]
 refine take_l (i := 7) (v := ?rv7) rfl (by kernel_rfl) (by kernel_rfl) (by kernel_rfl) (fun _ _ _ h => h) (Or.inl ⟨by rfl, ?rhy7⟩) (by assumption) ?rrest7
 case rhy7 => (intro w hSw; (try dsimp only at hSw); go_simp; (try with_reducible rfl))
 try simp only [Act.put, fpA, fpZ, fpN]
 refine wpAnyH_ready (rs := [8]) (by kernel_rfl) (by simp) (cons_l rfl (fun K' hK' => ?_) AllReadyH.nil)
 refine step_set1 (by rfl) 3 _ _ (by rfl) 57 (B + 2) 0 (by rfl) (.int .i64 1) (by rfl) rfl rfl sizeIn Z hX0 (by rw [hZl]; decide) ?_
 intro y2 hX2 hg2 hb2 hs2
 have q2 := (hb2.cell (p := ⟨B, 0, none⟩) (by show B < B + 2; omega)).trans q0
 have c2 := (hb2.cell (p := ⟨b, off + 3, none⟩) (by show b < B + 2; omega)).trans c0
 refine hK'.out _ _ ⟨q2, c2⟩ (fun hHeld => ?_)
 clear hK' K'
 try simp only [Act.put, fpA, fpZ, fpN]
 refine take_l (i := 9) (v := ?rv8) rfl (by kernel_rfl) (by kernel_rfl) (by kernel_rfl) (fun _ _ _ h => h) (Or.inl ⟨by rfl, ?rhy8⟩) (by assumption) ?rrest8
 case rhy8 => (intro w hSw; (try dsimp only at hSw); go_simp; (try with_reducible rfl))
 try simp only [Act.put, fpA, fpZ, fpN]
 refine wpAnyH_ready (rs := [10]) (by kernel_rfl) (by simp) (cons_l rfl (fun K' hK' => ?_) AllReadyH.nil)
 refine step_set1 (by rfl) 3 _ _ (by rfl) 57 (B + 2) 1 (by rfl) (.int .i64 E) (by rfl) rfl rfl sizeIn _ hX2 (by rw [List.length_set, hZl]; decide) ?_
 intro y3 hX3 hg3 hb3 hs3
 rw [hZ0.out] at hX3
 have q3 := (hb3.cell (p := ⟨B, 0, none⟩) (by show B < B + 2; omega)).trans q2
 have c33 := (hb3.cell (p := ⟨b, off + 3, none⟩) (by show b < B + 2; omega)).trans c2
 refine hK'.out _ _ ⟨q3, c33⟩ (fun hHeld => ?_)
 clear hK' K'
 try simp only [Act.put, fpA, fpZ, fpN]
 refine wpAnyH_done (by kernel_rfl) ?_ _
 have hb03 : Below (B + 2) y0 y3 := hb2.trans hb3
 have bb3 := bb0.trans (hb03.mono (by omega : B ≤ _))
 have hR3 := hR0.below hb03 (by omega)
 have hP3 := hP0.below hb03 (by omega)
 have hsy3 : B + 3 ≤ y3.heap.size := by omega
 have cP3 : y3.cell? ⟨B, 0, none⟩ = some (Value.slice (some ⟨b, off, none⟩) 88 cap) := hP3.cell 0
 clear hHeld q0 c0 q2 c2 q3 c33 hX0 hX2 hb2 hb3 hg2 hg3 hs2 hs3 hb03 bb0 hR0 hP0 hsy0
 go_wp2_with (first | (refine wl_storeV rfl 57 _ _ rfl 57 (B + 1) rfl C rfl 130 aggEnv hCl Z hR8 hZl hC1 ?_; intro wF hRF hbF hsF) | (refine wl_load rfl 57 _ rfl ⟨B + 2, 0, none⟩ rfl C (by rw [hCl]; exact aggEnv) hXC.at0 ?_) | (go_at_call 50; refine (take_ok B (B + 2) 114 16 16 b (off + 8 + 16 + 16 + 32) 16 (cap - 8 - 16 - 16 - 32) 57 X3.cs (Dt.map (Value.int .u8)) z7 hP7 hX7 (at_below hat.out bb7 hbB) hmt.out (by decide) hq3 hqm3 (by rw [hL3.out.csl]; decide) (by omega) (ints_one _ _) (by decide)).mono ?_; rintro e z8 ⟨rfl, ⟨ao8, hP8, hao8⟩, hX8, hb8, hk8, hs8⟩; rw [hT4.out] at hX8; have hR8 : BlkV 57 z8 (B + 1) Z := (by unfold BlkV; rw [hk8 (B + 1) (by omega) (by omega)]; exact hR7); have bb8 := bb7.trans hb8; have hsz8 : B + 3 ≤ z8.heap.size := (by omega); rw [← HC.out] at hX8; have hXC := hX8; clear hP7 hX7 hR7 bb7 cP7 cv7 hb8 hk8) | (go_at_call 50; refine (take_ok B (B + 2) 82 32 32 b (off + 8 + 16 + 16) 48 (cap - 8 - 16 - 16) 57 X2.cs (Dg.map (Value.int .u8)) z6 hP6 hX6 (at_below hag.out bb6 hbB) hmg.out (by decide) hq2 hqm2 (by rw [hL2.out.csl]; decide) (by omega) (ints_one _ _) (by decide)).mono ?_; rintro e z7 ⟨rfl, ⟨ao7, hP7, hao7⟩, hX7, hb7, hk7, hs7⟩; have hao7 := hao7 hql2; subst hao7; rw [hT3.out] at hX7; have hR7 : BlkV 57 z7 (B + 1) Z := (by unfold BlkV; rw [hk7 (B + 1) (by omega) (by omega)]; exact hR6); have bb7 := bb6.trans hb7; have hsz7 : B + 3 ≤ z7.heap.size := (by omega); have cP7 := hP7.cell 0; have cv7 := (hX7.cell 0).trans (by rw [Env.cv, hv3.out] : X3.cs[0]? = some (.int .i64 1)); clear hP6 hX6 hR6 bb6 cP6 cv6 hb7 hk7) | (go_at_call 50; refine (take_ok B (B + 2) 34 16 16 b (off + 8 + 16) 64 (cap - 8 - 16) 57 X1.cs (Dn.map (Value.int .u8)) z5 hP5 hX5 (at_below han.out bb5 hbB) hmn.out (by decide) hq1 hqm1 (by rw [hL1.out.csl]; decide) (by omega) (ints_one _ _) (by decide)).mono ?_; rintro e z6 ⟨rfl, ⟨ao6, hP6, hao6⟩, hX6, hb6, hk6, hs6⟩; have hao6 := hao6 hql1; subst hao6; rw [hT2.out] at hX6; have hR6 : BlkV 57 z6 (B + 1) Z := (by unfold BlkV; rw [hk6 (B + 1) (by omega) (by omega)]; exact hR5); have bb6 := bb5.trans hb6; have hsz6 : B + 3 ≤ z6.heap.size := (by omega); have cP6 := hP6.cell 0; have cv6 := (hX6.cell 0).trans (by rw [Env.cv, hv2.out] : X2.cs[0]? = some (.int .i64 1)); clear hP5 hX5 hR5 bb5 cP5 cv5 hb6 hk6) | (go_at_call 50; refine (take_ok B (B + 2) 2 16 16 b (off + 8) 80 (cap - 8) 57 X0.cs (Db.map (Value.int .u8)) z0 hP4 hX4 (at_below hab.out bb4 hbB) hmb.out (by decide) hq0 hqm0 (by rw [hL0.out.csl]; decide) (by omega) (ints_one _ _) (by decide)).mono ?_; rintro e z5 ⟨rfl, ⟨ao5, hP5, hao5⟩, hX5, hb5, hk5, hs5⟩; have hao5 := hao5 hql0; subst hao5; rw [hT1.out] at hX5; have hR5 : BlkV 57 z5 (B + 1) Z := (by unfold BlkV; rw [hk5 (B + 1) (by omega) (by omega)]; exact hR4); have bb5 := bb4.trans hb5; have hsz5 : B + 3 ≤ z5.heap.size := (by omega); have cP5 := hP5.cell 0; have cv5 := (hX5.cell 0).trans (by rw [Env.cv, hv1.out] : X1.cs[0]? = some (.int .i64 1)); clear hP4 hX4 hR4 bb4 cP4 cv4 hb5 hk5) | (refine wl_setV rfl 25 _ _ rfl 25 B 0 rfl (Value.slice (some ⟨b, off + 8, none⟩) 80 (cap - 8)) rfl rfl rfl sizeSl _ hP3 (by simp) ?_; intro z0 hP4 hg4 hs4; have hX4 := hX3.grown hg4 (by intro e; injection e with e; omega); have hR4 := hR3.grown hg4 (by intro e; injection e with e; omega); have bb4 := bb3.grown hg4 (by omega) (fun k hk => by cases hk; omega); have hsz4 : B + 3 ≤ z0.heap.size := (by omega); have cP4 : z0.cell? ⟨B, 0, none⟩ = some (Value.slice (some ⟨b, off + 8, none⟩) 80 (cap - 8)) := hP4.cell 0; have cv4 := (hX4.cell 0).trans (by rw [Env.cv, hv0.out] : X0.cs[0]? = some (.int .i64 1)); clear hP3 hX3 hR3 bb3 cP3 hg4))
 (try simp only [Exit.inBlock, Exit.then]); refine bodyPost_ret (results_cell2 rfl _ _ _ _ rfl C (by rw [hCl]; exact aggEnv) hRF.at0) rfl ?_
 exact ⟨by rw [HVC.out]; rfl, by first | exact bb8.trans (hbF.mono (by omega)) | (rw [hsz]; exact bb8.trans (hbF.mono (by omega)))⟩
set_option maxHeartbeats 8000000 in
theorem RefRead_full2 (ao : Option Addr) (cap n : Nat) (l : List Int) (w : World) (hn : n = l.length) (hP : Pt.Ok w ⟨ao, cap, l⟩) (hf : l.take 3 = kww) (hv : l.getD 3 0 = 2) (hl : n = 136) :
  Calls Tryz.prog 27 #[.slice ao n cap] w fun e w' => e = .returned (readV l) ∧ Below w.heap.size w w' := by
 obtain ⟨B, HB⟩ : ∃ B, Hid (B = w.heap.size) := ⟨_, rfl⟩
 have hsz : w.heap.size = B := HB.out.symm
 have hz := hid zeroEnv
 obtain ⟨Z, HZ⟩ : ∃ Z, Hid (Z = env0.cs) := ⟨_, rfl⟩
 have hZl : Z.length = 130 := by rw [HZ.out]; exact env0_ok.csl
 rw [← HZ.out] at hz
 have HN := hid hn
 have hE : readE l = 0 := by
  have hs : szR l = 136 := (by unfold szR; rw [if_pos hv])
  unfold readE
  rw [if_neg (by omega), if_neg (fun h => h hf), if_neg (by omega), hs, if_neg (by omega), if_neg (by omega)]
 have HV := hid (readV_ok hE)
 have HXE : Hid (readX l = ⟨2, numL (seg l 4 4), seg l 8 16, seg l 24 16, seg l 40 16, seg l 56 32, seg l 88 32, seg l 120 16⟩) := hid (by unfold readX; rw [if_pos hv])
 have hcap : 136 ≤ cap := by rw [← hl, hn]; exact hP.len
 have hmax : cap ≤ maxLen := hP.cap
 have hlen : l.length = 136 := by rw [← hn]; exact hl
 obtain ⟨E, HEE⟩ : ∃ E, Hid (E = numL (seg l 4 4)) := ⟨_, rfl⟩
 rw [← HEE.out] at HXE
 have hob4 := seg_octs hP.oct 4 4
 subst hl
 obtain ⟨b, off, rfl, hb, hc⟩ := hP.row.at (i := 0) (by show 0 < l.length; omega)
 have hI : ¬ (136 : Int) < 4 := by omega
 have h3c : 3 ≤ cap := by omega
 have h3I : (3 : Int) ≤ (cap : Int) := by omega
 have h8I : (8 : Int) ≤ (cap : Int) := by omega
 have hc4 : ¬ cap = 4 := by omega
 have hc8 : ¬ cap = 8 := by omega
 obtain ⟨S, HS⟩ : ∃ S, Hid (S = strOfNums (l.take 3)) := ⟨_, rfl⟩
 have hlen3 : 3 = (l.take 3).length := by rw [List.length_take]; omega
 have hkS := fun w1 (hb1 : Below B w w1) => hid (run_convStr w1 (some ⟨b, off, none⟩) 3 cap (l.take 3) hlen3 (RowI.takeS (hP.row.below (hsz ▸ hb1)) 3))
 rw [← HS.out] at hkS
 have ems : S = ⟨#[75, 87, 87]⟩ := by rw [HS.out, hf]; rfl
 rw [ems] at hkS
 have hc3 : w.cell? ⟨b, off + 3, none⟩ = some (.int .u8 2) := by rw [hc 3 (by show 3 < l.length; omega), hv]
 have hbB : b < B := by rw [HB.out]; exact hb
 have h4 := hid (seg_at (l := l) hc (k := 4) (n := 4) (by omega))
 have hnb := fun (w1 : World) (hb1 : Below B w w1) (hs1 : B ≤ w1.heap.size) => hid (NumberOf_any (some ⟨b, off + 4, none⟩) (cap - 4) 4 (seg l 4 4) w1 (seg_length (by omega)).symm (RowV.i (at_row (by omega) (at_below h4.out hb1 hbB))) hob4 (by decide))
 rw [← HEE.out] at hnb
 obtain ⟨Db, HDb⟩ : ∃ D, Hid (D = seg l 8 16) := ⟨_, rfl⟩
 have hlb : Hid (Db.length = 16) := hid (by rw [HDb.out]; exact seg_length (by omega))
 have hmb : Hid ((Db.map (Value.int .u8)).length = 16) := hid (by rw [List.length_map]; exact hlb.out)
 have hab : Hid (At w ⟨b, off + 8, none⟩ (Db.map (Value.int .u8))) := hid (by rw [HDb.out]; exact seg_at (l := l) hc (by omega))
 rw [← HDb.out] at HXE
 obtain ⟨Do, HDo⟩ : ∃ D, Hid (D = seg l 24 16) := ⟨_, rfl⟩
 have hlo : Hid (Do.length = 16) := hid (by rw [HDo.out]; exact seg_length (by omega))
 have hmo : Hid ((Do.map (Value.int .u8)).length = 16) := hid (by rw [List.length_map]; exact hlo.out)
 have hao : Hid (At w ⟨b, off + 24, none⟩ (Do.map (Value.int .u8))) := hid (by rw [HDo.out]; exact seg_at (l := l) hc (by omega))
 rw [← HDo.out] at HXE
 obtain ⟨Dn, HDn⟩ : ∃ D, Hid (D = seg l 40 16) := ⟨_, rfl⟩
 have hln : Hid (Dn.length = 16) := hid (by rw [HDn.out]; exact seg_length (by omega))
 have hmn : Hid ((Dn.map (Value.int .u8)).length = 16) := hid (by rw [List.length_map]; exact hln.out)
 have han : Hid (At w ⟨b, off + 40, none⟩ (Dn.map (Value.int .u8))) := hid (by rw [HDn.out]; exact seg_at (l := l) hc (by omega))
 rw [← HDn.out] at HXE
 obtain ⟨Dc, HDc⟩ : ∃ D, Hid (D = seg l 56 32) := ⟨_, rfl⟩
 have hlc : Hid (Dc.length = 32) := hid (by rw [HDc.out]; exact seg_length (by omega))
 have hmc : Hid ((Dc.map (Value.int .u8)).length = 32) := hid (by rw [List.length_map]; exact hlc.out)
 have hac : Hid (At w ⟨b, off + 56, none⟩ (Dc.map (Value.int .u8))) := hid (by rw [HDc.out]; exact seg_at (l := l) hc (by omega))
 rw [← HDc.out] at HXE
 obtain ⟨Dg, HDg⟩ : ∃ D, Hid (D = seg l 88 32) := ⟨_, rfl⟩
 have hlg : Hid (Dg.length = 32) := hid (by rw [HDg.out]; exact seg_length (by omega))
 have hmg : Hid ((Dg.map (Value.int .u8)).length = 32) := hid (by rw [List.length_map]; exact hlg.out)
 have hag : Hid (At w ⟨b, off + 88, none⟩ (Dg.map (Value.int .u8))) := hid (by rw [HDg.out]; exact seg_at (l := l) hc (by omega))
 rw [← HDg.out] at HXE
 obtain ⟨Dt, HDt⟩ : ∃ D, Hid (D = seg l 120 16) := ⟨_, rfl⟩
 have hlt : Hid (Dt.length = 16) := hid (by rw [HDt.out]; exact seg_length (by omega))
 have hmt : Hid ((Dt.map (Value.int .u8)).length = 16) := hid (by rw [List.length_map]; exact hlt.out)
 have hat : Hid (At w ⟨b, off + 120, none⟩ (Dt.map (Value.int .u8))) := hid (by rw [HDt.out]; exact seg_at (l := l) hc (by omega))
 rw [← HDt.out] at HXE
 obtain ⟨X0, HX0⟩ : ∃ X, Hid (X = (⟨2, E, List.replicate 16 0, List.replicate 16 0, List.replicate 16 0, List.replicate 32 0, List.replicate 32 0, List.replicate 16 0⟩ : Env)) := ⟨_, rfl⟩
 have hL0 : Hid X0.Len := hid (by rw [HX0.out]; exact ⟨rfl, rfl, rfl, rfl, rfl, rfl⟩)
 have hv0 : Hid (X0.v = 2) := hid (by rw [HX0.out])
 have hZ0 : Hid ((Z.set 0 (.int .i64 2)).set 1 (.int .i64 E) = X0.cs) := hid (by rw [HZ.out, HX0.out]; exact env0_set 2 E)
 obtain ⟨X1, HX1⟩ : ∃ X, Hid (X = ({X0 with b := Db} : Env)) := ⟨_, rfl⟩
 have hL1 : Hid X1.Len := hid (by rw [HX1.out]; exact env_len_b hL0.out Db hlb.out)
 have hv1 : Hid (X1.v = 2) := hid (by rw [HX1.out]; exact hv0.out)
 have hT1 : Hid (X0.cs.take 2 ++ Db.map (Value.int .u8) ++ X0.cs.drop (2 + 16) = X1.cs) := hid (by rw [HX1.out]; exact env_tak_b hL0.out Db hlb.out)
 obtain ⟨X2, HX2⟩ : ∃ X, Hid (X = ({X1 with o := Do} : Env)) := ⟨_, rfl⟩
 have hL2 : Hid X2.Len := hid (by rw [HX2.out]; exact env_len_o hL1.out Do hlo.out)
 have hv2 : Hid (X2.v = 2) := hid (by rw [HX2.out]; exact hv1.out)
 have hT2 : Hid (X1.cs.take 18 ++ Do.map (Value.int .u8) ++ X1.cs.drop (18 + 16) = X2.cs) := hid (by rw [HX2.out]; exact env_tak_o hL1.out Do hlo.out)
 obtain ⟨X3, HX3⟩ : ∃ X, Hid (X = ({X2 with n := Dn} : Env)) := ⟨_, rfl⟩
 have hL3 : Hid X3.Len := hid (by rw [HX3.out]; exact env_len_n hL2.out Dn hln.out)
 have hv3 : Hid (X3.v = 2) := hid (by rw [HX3.out]; exact hv2.out)
 have hT3 : Hid (X2.cs.take 34 ++ Dn.map (Value.int .u8) ++ X2.cs.drop (34 + 16) = X3.cs) := hid (by rw [HX3.out]; exact env_tak_n hL2.out Dn hln.out)
 obtain ⟨X4, HX4⟩ : ∃ X, Hid (X = ({X3 with c := Dc} : Env)) := ⟨_, rfl⟩
 have hL4 : Hid X4.Len := hid (by rw [HX4.out]; exact env_len_c hL3.out Dc hlc.out)
 have hv4 : Hid (X4.v = 2) := hid (by rw [HX4.out]; exact hv3.out)
 have hT4 : Hid (X3.cs.take 50 ++ Dc.map (Value.int .u8) ++ X3.cs.drop (50 + 32) = X4.cs) := hid (by rw [HX4.out]; exact env_tak_c hL3.out Dc hlc.out)
 obtain ⟨X5, HX5⟩ : ∃ X, Hid (X = ({X4 with g := Dg} : Env)) := ⟨_, rfl⟩
 have hL5 : Hid X5.Len := hid (by rw [HX5.out]; exact env_len_g hL4.out Dg hlg.out)
 have hv5 : Hid (X5.v = 2) := hid (by rw [HX5.out]; exact hv4.out)
 have hT5 : Hid (X4.cs.take 82 ++ Dg.map (Value.int .u8) ++ X4.cs.drop (82 + 32) = X5.cs) := hid (by rw [HX5.out]; exact env_tak_g hL4.out Dg hlg.out)
 obtain ⟨X6, HX6⟩ : ∃ X, Hid (X = ({X5 with t := Dt} : Env)) := ⟨_, rfl⟩
 have hL6 : Hid X6.Len := hid (by rw [HX6.out]; exact env_len_t hL5.out Dt hlt.out)
 have hv6 : Hid (X6.v = 2) := hid (by rw [HX6.out]; exact hv5.out)
 have hT6 : Hid (X5.cs.take 114 ++ Dt.map (Value.int .u8) ++ X5.cs.drop (114 + 16) = X6.cs) := hid (by rw [HX6.out]; exact env_tak_t hL5.out Dt hlt.out)
 have hfin : Hid (X6 = readX l) := hid (by rw [HXE.out, HX6.out, HX5.out, HX4.out, HX3.out, HX2.out, HX1.out, HX0.out])
 unfold maxLen at hmax
 have hq0 : 128 ≤ cap - 8 := by omega
 have hqm0 : cap - 8 ≤ maxLen := by unfold maxLen; omega
 have hql0 : 16 < cap - 8 := by omega
 have hq1 : 112 ≤ cap - 8 - 16 := by omega
 have hqm1 : cap - 8 - 16 ≤ maxLen := by unfold maxLen; omega
 have hql1 : 16 < cap - 8 - 16 := by omega
 have hq2 : 96 ≤ cap - 8 - 16 - 16 := by omega
 have hqm2 : cap - 8 - 16 - 16 ≤ maxLen := by unfold maxLen; omega
 have hql2 : 16 < cap - 8 - 16 - 16 := by omega
 have hq3 : 80 ≤ cap - 8 - 16 - 16 - 16 := by omega
 have hqm3 : cap - 8 - 16 - 16 - 16 ≤ maxLen := by unfold maxLen; omega
 have hql3 : 32 < cap - 8 - 16 - 16 - 16 := by omega
 have hq4 : 48 ≤ cap - 8 - 16 - 16 - 16 - 32 := by omega
 have hqm4 : cap - 8 - 16 - 16 - 16 - 32 ≤ maxLen := by unfold maxLen; omega
 have hql4 : 32 < cap - 8 - 16 - 16 - 16 - 32 := by omega
 have hq5 : 16 ≤ cap - 8 - 16 - 16 - 16 - 32 - 32 := by omega
 have hqm5 : cap - 8 - 16 - 16 - 16 - 32 - 32 ≤ maxLen := by unfold maxLen; omega
 obtain ⟨C, HC⟩ : ∃ C, Hid (C = X6.cs) := ⟨_, rfl⟩
 have hCl : C.length = 130 := by rw [HC.out]; exact hL6.out.csl
 have hC1 : ∀ u ∈ C, u.oneCell' = true := by rw [HC.out]; exact Env.cs_one _
 have HVC : Hid (readV l = .tuple #[.agg C.toArray, .int .i64 0]) := hid (by rw [HV.out, HC.out, hfin.out])
 clear hn hP hf hlen3 hc hE ems hv
 go_enter Tryz.func27, Tryz.ntmps27
 go_wp2_with (first | (refine wl_lookup1 rfl 93 5 3 _ _ rfl Tryz.underlying93 .u8 Tryz.underlying5 (B + 3) 2 1 #[⟨.int .u8 1, .int .i64 88, 0⟩, ⟨.int .u8 2, .int .i64 136, 1⟩] 2 (.int .i64 136) rfl rfl hM5 (by rfl) ?_) | (refine wl_insert rfl 93 5 3 _ _ _ rfl Tryz.underlying93 .u8 Tryz.underlying5 (B + 3) 1 #[⟨.int .u8 1, .int .i64 88, 0⟩] 2 (.int .i64 136) rfl rfl rfl hM4 (by rfl) ?_; intro w5 hM5 hb5 hs5; have hP5 := hP4.below hb5 (by omega); have hR5 := hR4.below hb5 (by omega); have hX5 := hX4.below hb5 (by omega); have bb5 := bb4.trans (hb5.mono (by omega : B ≤ _)); have cP5 : w5.cell? ⟨B, 0, none⟩ = some (Value.slice (some ⟨b, off, none⟩) 136 cap) := hP5.cell 0; have c35 := (bb5.cell (p := ⟨b, off + 3, none⟩) hbB).trans hc3; clear hP4 hR4 hX4 bb4 cP4 hb5; clear hM4 c34) | (refine wl_insert rfl 93 5 3 _ _ _ rfl Tryz.underlying93 .u8 Tryz.underlying5 (B + 3) 0 #[] 1 (.int .i64 88) rfl rfl rfl hM3 (by rfl) ?_; intro w4 hM4 hb4 hs4; have hP4 := hP3.below hb4 (by omega); have hR4 := hR3.below hb4 (by omega); have hX4 := hX3.below hb4 (by omega); have bb4 := bb3.trans (hb4.mono (by omega : B ≤ _)); have cP4 : w4.cell? ⟨B, 0, none⟩ = some (Value.slice (some ⟨b, off, none⟩) 136 cap) := hP4.cell 0; have c34 := (bb4.cell (p := ⟨b, off + 3, none⟩) hbB).trans hc3; clear hP3 hR3 hX3 bb3 cP3 hb4; clear hM3 c33) | (refine wl_makeMap rfl 93 rfl (B + 3) hs2 ?_; intro w3 hM3 hb3 hs3; have hP3 := hP2.below hb3 (by omega); have hR3 := hR2.below hb3 (by omega); have hX3 := hX2.below hb3 (by omega); have bb3 := bb2.trans (hb3.mono (by omega : B ≤ _)); have cP3 : w3.cell? ⟨B, 0, none⟩ = some (Value.slice (some ⟨b, off, none⟩) 136 cap) := hP3.cell 0; have c33 := (bb3.cell (p := ⟨b, off + 3, none⟩) hbB).trans hc3; clear hP2 hR2 hX2 bb2 cP2 hb3; clear c3) | (refine wl_allocV rfl 57 rfl Z hz.out (B + 2) hs1 ?_; intro w2 hX2 hb2 hs2; have hP2 := hP1.below hb2 (by omega); have hR2 := hR1.below hb2 (by omega); have bb2 := bb1.trans (hb2.mono (by omega : B ≤ _)); have cP2 : w2.cell? ⟨B, 0, none⟩ = some (Value.slice (some ⟨b, off, none⟩) 136 cap) := hP2.cell 0; clear hP1 hR1 bb1 hb2; have kS := (hkS w2 bb2).out; have c3 := (bb2.cell (p := ⟨b, off + 3, none⟩) hbB).trans hc3) | (refine wl_allocV rfl 57 rfl Z hz.out (B + 1) hs0 ?_; intro w1 hR1 hb1 hs1; have hP1 := hP0.below hb1 (by omega); have bb1 := hb0.trans (hb1.mono (by omega : B ≤ _)); clear hP0 hb0 hb1) | (refine wl_box1 rfl 25 _ rfl (Value.slice (some ⟨b, off, none⟩) 136 cap) rfl rfl B hsz ?_; intro w0 hP0 hb0 hs0))
 refine wp_region_held_drew (S := (fun w' => w'.cell? ⟨B, 0, none⟩ = some (Value.slice (some ⟨b, off, none⟩) 136 cap) ∧ w'.cell? ⟨b, off + 3, none⟩ = some (.int .u8 2))) (by kernel_rfl) ⟨cP5, c35⟩ (fun hHeld => ?_)
 obtain ⟨y0, HY0⟩ : ∃ x, Hid (x = w5.drew) := ⟨_, rfl⟩
 rw [← HY0.out] at hHeld ⊢
 have bb0 : Below B w y0 := by rw [HY0.out]; exact bb5.drew
 have hR0 : BlkV 57 y0 (B + 1) Z := by rw [HY0.out]; exact hR5
 have hX0 : BlkV 57 y0 (B + 2) Z := by rw [HY0.out]; exact hX5
 have hP0 : BlkV 25 y0 B [Value.slice (some ⟨b, off, none⟩) 136 cap] := by rw [HY0.out]; exact hP5
 have hsy0 : B + 3 ≤ y0.heap.size := by rw [HY0.out]; show B + 3 ≤ w5.heap.size; omega
 have q0 := hHeld.1
 have c0 := hHeld.2
 clear cP5 c35 bb5 hR5 hX5 hP5 hM5 hs3 hs4 hs5
 refine take_l (i := 0) (v := ?rv9) rfl (by kernel_rfl) (by kernel_rfl) (by kernel_rfl) (fun _ _ _ h => h) (Or.inl ⟨by rfl, ?rhy9⟩) (by assumption) ?rrest9
 case rhy9 => (intro w hSw; (try dsimp only at hSw); go_simp; (try with_reducible rfl))
 try simp only [Act.put, fpA, fpZ, fpN]
 refine take_l (i := 1) (v := ?rv10) rfl (by kernel_rfl) (by kernel_rfl) (by kernel_rfl) (fun _ _ _ h => h) (Or.inl ⟨by rfl, ?rhy10⟩) (by assumption) ?rrest10
 case rhy10 => (intro w hSw; (try dsimp only at hSw); go_simp; (try with_reducible rfl))
 try simp only [Act.put, fpA, fpZ, fpN]
 refine take_l (i := 2) (v := ?rv11) rfl (by kernel_rfl) (by kernel_rfl) (by kernel_rfl) (fun _ _ _ h => h) (Or.inl ⟨by rfl, ?rhy11⟩) (by assumption) ?rrest11
 case rhy11 => (intro w hSw; (try dsimp only at hSw); go_simp; (try with_reducible rfl))
 try simp only [Act.put, fpA, fpZ, fpN]
 refine take_l (i := 3) (v := ?rv12) rfl (by kernel_rfl) (by kernel_rfl) (by kernel_rfl) (fun _ _ _ h => h) (Or.inl ⟨by rfl, ?rhy12⟩) (by assumption) ?rrest12
 case rhy12 => (intro w hSw; (try dsimp only at hSw); go_simp; (try with_reducible rfl))
 try simp only [Act.put, fpA, fpZ, fpN]
 refine take_l (i := 4) (v := ?rv13) rfl (by kernel_rfl) (by kernel_rfl) (by kernel_rfl) (fun _ _ _ h => h) (Or.inl ⟨by rfl, ?rhy13⟩) (by assumption) ?rrest13
 case rhy13 => (intro w hSw; (try dsimp only at hSw); go_simp; (try with_reducible rfl))
 try simp only [Act.put, fpA, fpZ, fpN]
 refine take_l (i := 5) (v := ?rv14) rfl (by kernel_rfl) (by kernel_rfl) (by kernel_rfl) (fun _ _ _ h => h) (Or.inl ⟨by rfl, ?rhy14⟩) (by assumption) ?rrest14
 case rhy14 => (intro w hSw; (try dsimp only at hSw); go_simp; (try with_reducible rfl))
 try simp only [Act.put, fpA, fpZ, fpN]
 refine wpAnyH_ready (rs := [6]) (by kernel_rfl) (by simp) (cons_l rfl (fun K' hK' => ?_) AllReadyH.nil)
 rw [if_pos (by rfl)]
 go_simp
 go_at_call 49
 refine (hnb y0 bb0 (by omega)).out.mono ?_
 rintro e y1 ⟨rfl, rfl⟩
 refine hK'.out _ _ ⟨q0, c0⟩ (fun hHeld => ?_)
 clear hK' K'
 try simp only [Act.put, fpA, fpZ, fpN]
 refine take_l (i := 7) (v := ?rv15) rfl (by kernel_rfl) (by kernel_rfl) (by kernel_rfl) (fun _ _ _ h => h) (Or.inl ⟨by rfl, ?rhy15⟩) (by assumption) ?rrest15
 case rhy15 => (intro w hSw; (try dsimp only at hSw); go_simp; (try with_reducible rfl))
 try simp only [Act.put, fpA, fpZ, fpN]
 refine wpAnyH_ready (rs := [8]) (by kernel_rfl) (by simp) (cons_l rfl (fun K' hK' => ?_) AllReadyH.nil)
 refine step_set1 (by rfl) 3 _ _ (by rfl) 57 (B + 2) 0 (by rfl) (.int .i64 2) (by rfl) rfl rfl sizeIn Z hX0 (by rw [hZl]; decide) ?_
 intro y2 hX2 hg2 hb2 hs2
 have q2 := (hb2.cell (p := ⟨B, 0, none⟩) (by show B < B + 2; omega)).trans q0
 have c2 := (hb2.cell (p := ⟨b, off + 3, none⟩) (by show b < B + 2; omega)).trans c0
 refine hK'.out _ _ ⟨q2, c2⟩ (fun hHeld => ?_)
 clear hK' K'
 try simp only [Act.put, fpA, fpZ, fpN]
 refine take_l (i := 9) (v := ?rv16) rfl (by kernel_rfl) (by kernel_rfl) (by kernel_rfl) (fun _ _ _ h => h) (Or.inl ⟨by rfl, ?rhy16⟩) (by assumption) ?rrest16
 case rhy16 => (intro w hSw; (try dsimp only at hSw); go_simp; (try with_reducible rfl))
 try simp only [Act.put, fpA, fpZ, fpN]
 refine wpAnyH_ready (rs := [10]) (by kernel_rfl) (by simp) (cons_l rfl (fun K' hK' => ?_) AllReadyH.nil)
 refine step_set1 (by rfl) 3 _ _ (by rfl) 57 (B + 2) 1 (by rfl) (.int .i64 E) (by rfl) rfl rfl sizeIn _ hX2 (by rw [List.length_set, hZl]; decide) ?_
 intro y3 hX3 hg3 hb3 hs3
 rw [hZ0.out] at hX3
 have q3 := (hb3.cell (p := ⟨B, 0, none⟩) (by show B < B + 2; omega)).trans q2
 have c33 := (hb3.cell (p := ⟨b, off + 3, none⟩) (by show b < B + 2; omega)).trans c2
 refine hK'.out _ _ ⟨q3, c33⟩ (fun hHeld => ?_)
 clear hK' K'
 try simp only [Act.put, fpA, fpZ, fpN]
 refine wpAnyH_done (by kernel_rfl) ?_ _
 have hb03 : Below (B + 2) y0 y3 := hb2.trans hb3
 have bb3 := bb0.trans (hb03.mono (by omega : B ≤ _))
 have hR3 := hR0.below hb03 (by omega)
 have hP3 := hP0.below hb03 (by omega)
 have hsy3 : B + 3 ≤ y3.heap.size := by omega
 have cP3 : y3.cell? ⟨B, 0, none⟩ = some (Value.slice (some ⟨b, off, none⟩) 136 cap) := hP3.cell 0
 clear hHeld q0 c0 q2 c2 q3 c33 hX0 hX2 hb2 hb3 hg2 hg3 hs2 hs3 hb03 bb0 hR0 hP0 hsy0
 go_wp2_with (first | (refine wl_storeV rfl 57 _ _ rfl 57 (B + 1) rfl C rfl 130 aggEnv hCl Z hR10 hZl hC1 ?_; intro wF hRF hbF hsF) | (refine wl_load rfl 57 _ rfl ⟨B + 2, 0, none⟩ rfl C (by rw [hCl]; exact aggEnv) hXC.at0 ?_) | (go_at_call 50; refine (take_ok B (B + 2) 114 16 16 b (off + 8 + 16 + 16 + 16 + 32 + 32) 16 (cap - 8 - 16 - 16 - 16 - 32 - 32) 57 X5.cs (Dt.map (Value.int .u8)) z9 hP9 hX9 (at_below hat.out bb9 hbB) hmt.out (by decide) hq5 hqm5 (by rw [hL5.out.csl]; decide) (by omega) (ints_one _ _) (by decide)).mono ?_; rintro e z10 ⟨rfl, ⟨ao10, hP10, hao10⟩, hX10, hb10, hk10, hs10⟩; rw [hT6.out] at hX10; have hR10 : BlkV 57 z10 (B + 1) Z := (by unfold BlkV; rw [hk10 (B + 1) (by omega) (by omega)]; exact hR9); have bb10 := bb9.trans hb10; have hsz10 : B + 3 ≤ z10.heap.size := (by omega); rw [← HC.out] at hX10; have hXC := hX10; clear hP9 hX9 hR9 bb9 cP9 cv9 hb10 hk10) | (go_at_call 50; refine (take_ok B (B + 2) 82 32 32 b (off + 8 + 16 + 16 + 16 + 32) 48 (cap - 8 - 16 - 16 - 16 - 32) 57 X4.cs (Dg.map (Value.int .u8)) z8 hP8 hX8 (at_below hag.out bb8 hbB) hmg.out (by decide) hq4 hqm4 (by rw [hL4.out.csl]; decide) (by omega) (ints_one _ _) (by decide)).mono ?_; rintro e z9 ⟨rfl, ⟨ao9, hP9, hao9⟩, hX9, hb9, hk9, hs9⟩; have hao9 := hao9 hql4; subst hao9; rw [hT5.out] at hX9; have hR9 : BlkV 57 z9 (B + 1) Z := (by unfold BlkV; rw [hk9 (B + 1) (by omega) (by omega)]; exact hR8); have bb9 := bb8.trans hb9; have hsz9 : B + 3 ≤ z9.heap.size := (by omega); have cP9 := hP9.cell 0; have cv9 := (hX9.cell 0).trans (by rw [Env.cv, hv5.out] : X5.cs[0]? = some (.int .i64 2)); clear hP8 hX8 hR8 bb8 cP8 cv8 hb9 hk9) | (go_at_call 50; refine (take_ok B (B + 2) 50 32 32 b (off + 8 + 16 + 16 + 16) 80 (cap - 8 - 16 - 16 - 16) 57 X3.cs (Dc.map (Value.int .u8)) z7 hP7 hX7 (at_below hac.out bb7 hbB) hmc.out (by decide) hq3 hqm3 (by rw [hL3.out.csl]; decide) (by omega) (ints_one _ _) (by decide)).mono ?_; rintro e z8 ⟨rfl, ⟨ao8, hP8, hao8⟩, hX8, hb8, hk8, hs8⟩; have hao8 := hao8 hql3; subst hao8; rw [hT4.out] at hX8; have hR8 : BlkV 57 z8 (B + 1) Z := (by unfold BlkV; rw [hk8 (B + 1) (by omega) (by omega)]; exact hR7); have bb8 := bb7.trans hb8; have hsz8 : B + 3 ≤ z8.heap.size := (by omega); have cP8 := hP8.cell 0; have cv8 := (hX8.cell 0).trans (by rw [Env.cv, hv4.out] : X4.cs[0]? = some (.int .i64 2)); clear hP7 hX7 hR7 bb7 cP7 cv7 hb8 hk8) | (go_at_call 50; refine (take_ok B (B + 2) 34 16 16 b (off + 8 + 16 + 16) 96 (cap - 8 - 16 - 16) 57 X2.cs (Dn.map (Value.int .u8)) z6 hP6 hX6 (at_below han.out bb6 hbB) hmn.out (by decide) hq2 hqm2 (by rw [hL2.out.csl]; decide) (by omega) (ints_one _ _) (by decide)).mono ?_; rintro e z7 ⟨rfl, ⟨ao7, hP7, hao7⟩, hX7, hb7, hk7, hs7⟩; have hao7 := hao7 hql2; subst hao7; rw [hT3.out] at hX7; have hR7 : BlkV 57 z7 (B + 1) Z := (by unfold BlkV; rw [hk7 (B + 1) (by omega) (by omega)]; exact hR6); have bb7 := bb6.trans hb7; have hsz7 : B + 3 ≤ z7.heap.size := (by omega); have cP7 := hP7.cell 0; have cv7 := (hX7.cell 0).trans (by rw [Env.cv, hv3.out] : X3.cs[0]? = some (.int .i64 2)); clear hP6 hX6 hR6 bb6 cP6 cv6 hb7 hk7) | (go_at_call 50; refine (take_ok B (B + 2) 18 16 16 b (off + 8 + 16) 112 (cap - 8 - 16) 57 X1.cs (Do.map (Value.int .u8)) z5 hP5 hX5 (at_below hao.out bb5 hbB) hmo.out (by decide) hq1 hqm1 (by rw [hL1.out.csl]; decide) (by omega) (ints_one _ _) (by decide)).mono ?_; rintro e z6 ⟨rfl, ⟨ao6, hP6, hao6⟩, hX6, hb6, hk6, hs6⟩; have hao6 := hao6 hql1; subst hao6; rw [hT2.out] at hX6; have hR6 : BlkV 57 z6 (B + 1) Z := (by unfold BlkV; rw [hk6 (B + 1) (by omega) (by omega)]; exact hR5); have bb6 := bb5.trans hb6; have hsz6 : B + 3 ≤ z6.heap.size := (by omega); have cP6 := hP6.cell 0; have cv6 := (hX6.cell 0).trans (by rw [Env.cv, hv2.out] : X2.cs[0]? = some (.int .i64 2)); clear hP5 hX5 hR5 bb5 cP5 cv5 hb6 hk6) | (go_at_call 50; refine (take_ok B (B + 2) 2 16 16 b (off + 8) 128 (cap - 8) 57 X0.cs (Db.map (Value.int .u8)) z0 hP4 hX4 (at_below hab.out bb4 hbB) hmb.out (by decide) hq0 hqm0 (by rw [hL0.out.csl]; decide) (by omega) (ints_one _ _) (by decide)).mono ?_; rintro e z5 ⟨rfl, ⟨ao5, hP5, hao5⟩, hX5, hb5, hk5, hs5⟩; have hao5 := hao5 hql0; subst hao5; rw [hT1.out] at hX5; have hR5 : BlkV 57 z5 (B + 1) Z := (by unfold BlkV; rw [hk5 (B + 1) (by omega) (by omega)]; exact hR4); have bb5 := bb4.trans hb5; have hsz5 : B + 3 ≤ z5.heap.size := (by omega); have cP5 := hP5.cell 0; have cv5 := (hX5.cell 0).trans (by rw [Env.cv, hv1.out] : X1.cs[0]? = some (.int .i64 2)); clear hP4 hX4 hR4 bb4 cP4 cv4 hb5 hk5) | (refine wl_setV rfl 25 _ _ rfl 25 B 0 rfl (Value.slice (some ⟨b, off + 8, none⟩) 128 (cap - 8)) rfl rfl rfl sizeSl _ hP3 (by simp) ?_; intro z0 hP4 hg4 hs4; have hX4 := hX3.grown hg4 (by intro e; injection e with e; omega); have hR4 := hR3.grown hg4 (by intro e; injection e with e; omega); have bb4 := bb3.grown hg4 (by omega) (fun k hk => by cases hk; omega); have hsz4 : B + 3 ≤ z0.heap.size := (by omega); have cP4 : z0.cell? ⟨B, 0, none⟩ = some (Value.slice (some ⟨b, off + 8, none⟩) 128 (cap - 8)) := hP4.cell 0; have cv4 := (hX4.cell 0).trans (by rw [Env.cv, hv0.out] : X0.cs[0]? = some (.int .i64 2)); clear hP3 hX3 hR3 bb3 cP3 hg4))
 (try simp only [Exit.inBlock, Exit.then]); refine bodyPost_ret (results_cell2 rfl _ _ _ _ rfl C (by rw [hCl]; exact aggEnv) hRF.at0) rfl ?_
 exact ⟨by rw [HVC.out]; rfl, by first | exact bb10.trans (hbF.mono (by omega)) | (rw [hsz]; exact bb10.trans (hbF.mono (by omega)))⟩
theorem RefRead_any (ao : Option Addr) (cap n : Nat) (l : List Int) (w : World) (hn : n = l.length) (hP : 4 ≤ n → Pt.Ok w ⟨ao, cap, l⟩) :
  Calls Tryz.prog 27 #[.slice ao n cap] w fun e w' => e = .returned (readV l) ∧ Below w.heap.size w w' := by
 by_cases h1 : n < 4
 ·exact RefRead_short ao cap n l w hn h1
 ·have hP := hP (by omega)
  by_cases hf : l.take 3 = kww
  ·by_cases hv1 : l.getD 3 0 = 1
   ·by_cases h2 : n < 88
    ·exact RefRead_few1 ao cap n l w hn hP (by omega) hf hv1 h2
    ·by_cases h3 : 88 < n
     ·exact RefRead_many1 ao cap n l w hn hP (by omega) hf hv1 h3
     ·exact RefRead_full1 ao cap n l w hn hP hf hv1 (by omega)
   ·by_cases hv2 : l.getD 3 0 = 2
    ·by_cases h2 : n < 136
     ·exact RefRead_few2 ao cap n l w hn hP (by omega) hf hv2 h2
     ·by_cases h3 : 136 < n
      ·exact RefRead_many2 ao cap n l w hn hP (by omega) hf hv2 h3
      ·exact RefRead_full2 ao cap n l w hn hP hf hv2 (by omega)
    ·exact RefRead_version ao cap n l w hn hP (by omega) hf (fun h => h.elim hv1 hv2)
  ·exact RefRead_form ao cap n l w hn hP (by omega) hf
end Go.Proofs.YtbjmadcbhkeenaaGreat.wr
