/-
  Contract of keyref2.Envelope. Conditions: an envelope of the type's form.
-/
import Derived.Test.YtbljihhelladbaaPWrH
namespace Go.Proofs.Ytbljihhelladbaa.wr
open Go.RowKit Go.Proofs.Ytbljihhelladbaa.st Go.Proofs.Ytbljihhelladbaa.hs Go.Proofs.Ytbljihhelladbaa.shr Go.Proofs.Ytbljihhelladbaa.sh
set_option linter.unusedSimpArgs false
set_option linter.unusedVariables false
set_option pp.maxSteps 6000
def EnvPost (x : Env) (w : World) (e : Ending) (w' : World) : Prop :=
  Below w.heap.size w w' ∧ if errV x = 0 then ∃ ao c, e = .returned (.tuple #[.slice ao (sizeV x) c, .int .i64 0]) ∧ Mine w' w.heap.size 5 1 (.slice ao (sizeV x) c) (sizeV x) ((envL x).map (Value.int .u8)) else e = .returned (.tuple #[.slice none 0 0, .int .i64 (errV x)])
theorem hal16 : Try.prog.arrayLen 57 = 16 := by kernel_rfl
theorem hal25 : Try.prog.arrayLen 25 = 16 := by kernel_rfl
theorem hal32 : Try.prog.arrayLen 73 = 32 := by kernel_rfl
theorem hal22 : Try.prog.arrayLen 22 = 32 := by kernel_rfl
theorem halTag : Try.prog.arrayLen 105 = 16 := by kernel_rfl
set_option maxRecDepth 100000 in
set_option maxHeartbeats 8000000 in
theorem Envelope_A (x : Env) (hx : x.Ok) (w : World) (hv : ¬ (x.v = 1 ∨ x.v = 2)) :
    Calls Try.prog 69 #[.agg x.cs.toArray] w (EnvPost x w) := by
  obtain ⟨B, HB⟩ : ∃ B, Hid (B = w.heap.size) := ⟨_, rfl⟩
  have hsz : w.heap.size = B := HB.out.symm
  have hin := fun w => hid (In_b x.e 0 4294967295 w)
  have hal1 := hal16
  have hal2 := hal25
  have hal3 := hal32
  have hal4 := hal22
  have hal5 := halTag
  have HXO := hid hx
  have haI := fun w' (h : BlkV 107 w' B x.cs) => hid (env_o hx h)
  have haS := fun w' (h : BlkV 107 w' B x.cs) => hid (env_c hx h)
  have hlo := hid hx.ol
  have hlc := hid hx.cl
  have HE : Hid (errV x = 19) := hid (by unfold errV; rw [if_pos hv])
  have hcv := hid x.cv
  have hce := hid x.ce
  obtain ⟨V, HV⟩ : ∃ V, Hid (V = x.v) := ⟨_, rfl⟩
  rw [← HV.out] at hcv hv
  have hv1 : ¬ V = 1 := fun h => hv (Or.inl h)
  have hv2 : ¬ V = 2 := fun h => hv (Or.inr h)
  have hn1 : (V != 1) = true := by simpa using hv1
  have hn2 : (V != 2) = true := by simpa using hv2
  clear hv hx
  obtain ⟨CS, HCS⟩ : ∃ C, Hid (C = x.cs) := ⟨_, rfl⟩
  rw [← HCS.out] at haI haS hcv hce ⊢
  go_enter Try.func69, Try.ntmps69
  go_wp2_with (first | (refine wl_boxV rfl 107 _ rfl CS rfl B hsz ?_; intro w0 hB0 hb0 hs0; have c00 := (hB0.cell 0).trans hcv.out; have c01 := (hB0.cell 1).trans hce.out; have hsz0 : B + 1 ≤ w0.heap.size := (by omega); clear hs0))
  go_ret2
  have he : errV x = 19 := HE.out
  unfold EnvPost
  rw [he, ← HB.out, if_neg (by decide)]
  exact ⟨hb0, rfl⟩
set_option maxRecDepth 100000 in
set_option maxHeartbeats 8000000 in
theorem Envelope_B (x : Env) (hx : x.Ok) (w : World) (hv : x.v = 1 ∨ x.v = 2) (he : ¬ (0 ≤ x.e ∧ x.e ≤ 4294967295)) :
    Calls Try.prog 69 #[.agg x.cs.toArray] w (EnvPost x w) := by
  obtain ⟨B, HB⟩ : ∃ B, Hid (B = w.heap.size) := ⟨_, rfl⟩
  have hsz : w.heap.size = B := HB.out.symm
  have hin := fun w => hid (In_b x.e 0 4294967295 w)
  have hal1 := hal16
  have hal2 := hal25
  have hal3 := hal32
  have hal4 := hal22
  have hal5 := halTag
  have HXO := hid hx
  have haI := fun w' (h : BlkV 107 w' B x.cs) => hid (env_o hx h)
  have haS := fun w' (h : BlkV 107 w' B x.cs) => hid (env_c hx h)
  have hlo := hid hx.ol
  have hlc := hid hx.cl
  have HE : Hid (errV x = 4) := hid (by unfold errV; rw [if_neg (fun h => h hv), if_pos he])
  have hi : inB x.e 0 4294967295 = false := by unfold inB; simp; omega
  rw [hi] at hin
  have hcv := hid x.cv
  have hce := hid x.ce
  obtain ⟨V, HV⟩ : ∃ V, Hid (V = x.v) := ⟨_, rfl⟩
  rw [← HV.out] at hcv hv
  clear hi hx
  obtain ⟨CS, HCS⟩ : ∃ C, Hid (C = x.cs) := ⟨_, rfl⟩
  rw [← HCS.out] at haI haS hcv hce ⊢
  rcases hv with rfl | rfl
  · skip
    go_enter Try.func69, Try.ntmps69
    go_wp2_with (first | (refine wl_boxV rfl 107 _ rfl CS rfl B hsz ?_; intro w0 hB0 hb0 hs0; have c00 := (hB0.cell 0).trans hcv.out; have c01 := (hB0.cell 1).trans hce.out; have hsz0 : B + 1 ≤ w0.heap.size := (by omega); clear hs0) | (go_at_call 16; refine (hin _).out.mono ?_; rintro e w1 ⟨rfl, rfl⟩))
    go_ret2
    have he : errV x = 4 := HE.out
    unfold EnvPost
    rw [he, ← HB.out, if_neg (by decide)]
    exact ⟨hb0, rfl⟩
  · skip
    go_enter Try.func69, Try.ntmps69
    go_wp2_with (first | (refine wl_boxV rfl 107 _ rfl CS rfl B hsz ?_; intro w0 hB0 hb0 hs0; have c00 := (hB0.cell 0).trans hcv.out; have c01 := (hB0.cell 1).trans hce.out; have hsz0 : B + 1 ≤ w0.heap.size := (by omega); clear hs0) | (go_at_call 16; refine (hin _).out.mono ?_; rintro e w1 ⟨rfl, rfl⟩))
    go_ret2
    have he : errV x = 4 := HE.out
    unfold EnvPost
    rw [he, ← HB.out, if_neg (by decide)]
    exact ⟨hb0, rfl⟩
set_option maxRecDepth 100000 in
set_option maxHeartbeats 8000000 in
theorem Envelope_C1 (x : Env) (hx : x.Ok) (w : World) (hv : x.v = 1) (he : 0 ≤ x.e ∧ x.e ≤ 4294967295) (ho : ¬ x.o = List.replicate 16 0) :
    Calls Try.prog 69 #[.agg x.cs.toArray] w (EnvPost x w) := by
  obtain ⟨B, HB⟩ : ∃ B, Hid (B = w.heap.size) := ⟨_, rfl⟩
  have hsz : w.heap.size = B := HB.out.symm
  have hin := fun w => hid (In_b x.e 0 4294967295 w)
  have hal1 := hal16
  have hal2 := hal25
  have hal3 := hal32
  have hal4 := hal22
  have hal5 := halTag
  have HXO := hid hx
  have haI := fun w' (h : BlkV 107 w' B x.cs) => hid (env_o hx h)
  have haS := fun w' (h : BlkV 107 w' B x.cs) => hid (env_c hx h)
  have hlo := hid hx.ol
  have hlc := hid hx.cl
  have HE : Hid (errV x = 2) := hid (by unfold errV; rw [if_neg (fun h => h (Or.inl hv)), if_neg (fun h => h he), if_pos ⟨hv, fun h => by first | exact ho h.1 | exact hc h.2⟩])
  have hi : inB x.e 0 4294967295 = true := by unfold inB; simp; omega
  rw [hi] at hin
  have hcv : Hid (x.cs[0]? = some (.int .i64 1)) := hid (by rw [← hv]; exact x.cv)
  have hce := hid x.ce
  obtain ⟨OV, HOV⟩ : ∃ O, Hid (O = x.o.map (Value.int .u8)) := ⟨_, rfl⟩
  obtain ⟨CV, HCV⟩ : ∃ O, Hid (O = x.c.map (Value.int .u8)) := ⟨_, rfl⟩
  obtain ⟨Z16, HZ16⟩ : ∃ O, Hid (O = (List.replicate 16 (0 : Int)).map (Value.int .u8)) := ⟨_, rfl⟩
  obtain ⟨Z32, HZ32⟩ : ∃ O, Hid (O = (List.replicate 32 (0 : Int)).map (Value.int .u8)) := ⟨_, rfl⟩
  have hOl : OV.length = 16 := by rw [HOV.out, List.length_map]; exact hlo.out
  have hCl : CV.length = 32 := by rw [HCV.out, List.length_map]; exact hlc.out
  have hb16 := built_id0
  have hb32 := built_sum0
  have hneo := fun w => hid (run_eq_id w x.o (List.replicate 16 0) hlo.out rfl)
  have hnec := fun w => hid (run_eq_sum w x.c (List.replicate 32 0) hlc.out rfl)
  rw [← HOV.out] at haI hneo
  rw [← HCV.out] at haS hnec
  rw [← HZ16.out] at hneo hb16
  rw [← HZ32.out] at hnec hb32
  have e1 : (x.o == List.replicate 16 0) = false := by simpa using ho
  rw [e1] at hneo
  clear hx
  obtain ⟨CS, HCS⟩ : ∃ C, Hid (C = x.cs) := ⟨_, rfl⟩
  rw [← HCS.out] at haI haS hcv hce ⊢
  go_enter Try.func69, Try.ntmps69
  go_wp2_with (first | (refine wl_boxV rfl 107 _ rfl CS rfl B hsz ?_; intro w0 hB0 hb0 hs0; have c00 := (hB0.cell 0).trans hcv.out; have c01 := (hB0.cell 1).trans hce.out; have hsz0 : B + 1 ≤ w0.heap.size := (by omega); clear hs0) | (go_at_call 16; refine (hin _).out.mono ?_; rintro e w1 ⟨rfl, rfl⟩) | (refine wl_loadD 22 rfl (by rfl) 57 _ rfl ⟨B, 18, none⟩ rfl 16 OV hOl aggID (haI _ hB0).out ?_) | (refine wl_build0G (by rfl) 57 rfl Z16 hb16 ?_) | (refine wl_neM 24 rfl (by rfl) 57 _ _ _ rfl OV.toArray Z16.toArray rfl rfl false (hneo _).out (by kernel_rfl) ?_))
  go_ret2
  have he : errV x = 2 := HE.out
  unfold EnvPost
  rw [he, ← HB.out, if_neg (by decide)]
  exact ⟨hb0, rfl⟩
set_option maxRecDepth 100000 in
set_option maxHeartbeats 8000000 in
theorem Envelope_C2 (x : Env) (hx : x.Ok) (w : World) (hv : x.v = 1) (he : 0 ≤ x.e ∧ x.e ≤ 4294967295) (ho : x.o = List.replicate 16 0) (hc : ¬ x.c = List.replicate 32 0) :
    Calls Try.prog 69 #[.agg x.cs.toArray] w (EnvPost x w) := by
  obtain ⟨B, HB⟩ : ∃ B, Hid (B = w.heap.size) := ⟨_, rfl⟩
  have hsz : w.heap.size = B := HB.out.symm
  have hin := fun w => hid (In_b x.e 0 4294967295 w)
  have hal1 := hal16
  have hal2 := hal25
  have hal3 := hal32
  have hal4 := hal22
  have hal5 := halTag
  have HXO := hid hx
  have haI := fun w' (h : BlkV 107 w' B x.cs) => hid (env_o hx h)
  have haS := fun w' (h : BlkV 107 w' B x.cs) => hid (env_c hx h)
  have hlo := hid hx.ol
  have hlc := hid hx.cl
  have HE : Hid (errV x = 2) := hid (by unfold errV; rw [if_neg (fun h => h (Or.inl hv)), if_neg (fun h => h he), if_pos ⟨hv, fun h => by first | exact ho h.1 | exact hc h.2⟩])
  have hi : inB x.e 0 4294967295 = true := by unfold inB; simp; omega
  rw [hi] at hin
  have hcv : Hid (x.cs[0]? = some (.int .i64 1)) := hid (by rw [← hv]; exact x.cv)
  have hce := hid x.ce
  obtain ⟨OV, HOV⟩ : ∃ O, Hid (O = x.o.map (Value.int .u8)) := ⟨_, rfl⟩
  obtain ⟨CV, HCV⟩ : ∃ O, Hid (O = x.c.map (Value.int .u8)) := ⟨_, rfl⟩
  obtain ⟨Z16, HZ16⟩ : ∃ O, Hid (O = (List.replicate 16 (0 : Int)).map (Value.int .u8)) := ⟨_, rfl⟩
  obtain ⟨Z32, HZ32⟩ : ∃ O, Hid (O = (List.replicate 32 (0 : Int)).map (Value.int .u8)) := ⟨_, rfl⟩
  have hOl : OV.length = 16 := by rw [HOV.out, List.length_map]; exact hlo.out
  have hCl : CV.length = 32 := by rw [HCV.out, List.length_map]; exact hlc.out
  have hb16 := built_id0
  have hb32 := built_sum0
  have hneo := fun w => hid (run_eq_id w x.o (List.replicate 16 0) hlo.out rfl)
  have hnec := fun w => hid (run_eq_sum w x.c (List.replicate 32 0) hlc.out rfl)
  rw [← HOV.out] at haI hneo
  rw [← HCV.out] at haS hnec
  rw [← HZ16.out] at hneo hb16
  rw [← HZ32.out] at hnec hb32
  have e1 : (x.o == List.replicate 16 0) = true := by simpa using ho
  have e2 : (x.c == List.replicate 32 0) = false := by simpa using hc
  rw [e1] at hneo
  rw [e2] at hnec
  clear hx
  obtain ⟨CS, HCS⟩ : ∃ C, Hid (C = x.cs) := ⟨_, rfl⟩
  rw [← HCS.out] at haI haS hcv hce ⊢
  go_enter Try.func69, Try.ntmps69
  go_wp2_with (first | (refine wl_boxV rfl 107 _ rfl CS rfl B hsz ?_; intro w0 hB0 hb0 hs0; have c00 := (hB0.cell 0).trans hcv.out; have c01 := (hB0.cell 1).trans hce.out; have hsz0 : B + 1 ≤ w0.heap.size := (by omega); clear hs0) | (go_at_call 16; refine (hin _).out.mono ?_; rintro e w1 ⟨rfl, rfl⟩) | (refine wl_loadD 22 rfl (by rfl) 57 _ rfl ⟨B, 18, none⟩ rfl 16 OV hOl aggID (haI _ hB0).out ?_) | (refine wl_build0G (by rfl) 57 rfl Z16 hb16 ?_) | (refine wl_neM 24 rfl (by rfl) 57 _ _ _ rfl OV.toArray Z16.toArray rfl rfl true (hneo _).out (by kernel_rfl) ?_) | (refine wl_loadD 27 rfl (by rfl) 73 _ rfl ⟨B, 50, none⟩ rfl 32 CV hCl aggSumT (haS _ hB0).out ?_) | (refine wl_build0G (by rfl) 73 rfl Z32 hb32 ?_) | (refine wl_neM 29 rfl (by rfl) 73 _ _ _ rfl CV.toArray Z32.toArray rfl rfl false (hnec _).out (by kernel_rfl) ?_))
  go_ret2
  have he : errV x = 2 := HE.out
  unfold EnvPost
  rw [he, ← HB.out, if_neg (by decide)]
  exact ⟨hb0, rfl⟩
set_option maxRecDepth 100000 in
set_option maxHeartbeats 8000000 in
theorem Envelope_D (x : Env) (hx : x.Ok) (w : World) (hv : x.v = 1) (he : 0 ≤ x.e ∧ x.e ≤ 4294967295) (ho : x.o = List.replicate 16 0) (hc : x.c = List.replicate 32 0) :
    Calls Try.prog 69 #[.agg x.cs.toArray] w (EnvPost x w) := by
  obtain ⟨B, HB⟩ : ∃ B, Hid (B = w.heap.size) := ⟨_, rfl⟩
  have hsz : w.heap.size = B := HB.out.symm
  have hin := fun w => hid (In_b x.e 0 4294967295 w)
  have hal1 := hal16
  have hal2 := hal25
  have hal3 := hal32
  have hal4 := hal22
  have hal5 := halTag
  have HXO := hid hx
  have haI := fun w' (h : BlkV 107 w' B x.cs) => hid (env_o hx h)
  have haS := fun w' (h : BlkV 107 w' B x.cs) => hid (env_c hx h)
  have hlo := hid hx.ol
  have hlc := hid hx.cl
  have HE : Hid (errV x = 0) := hid (by unfold errV; rw [if_neg (by simp [hv]), if_neg (fun h => h he), if_neg (fun h => h.2 ⟨ho, hc⟩)])
  have hi : inB x.e 0 4294967295 = true := by unfold inB; simp; omega
  rw [hi] at hin
  have hcv : Hid (x.cs[0]? = some (.int .i64 1)) := hid (by rw [← hv]; exact x.cv)
  have hce := hid x.ce
  obtain ⟨OV, HOV⟩ : ∃ O, Hid (O = x.o.map (Value.int .u8)) := ⟨_, rfl⟩
  obtain ⟨CV, HCV⟩ : ∃ O, Hid (O = x.c.map (Value.int .u8)) := ⟨_, rfl⟩
  obtain ⟨Z16, HZ16⟩ : ∃ O, Hid (O = (List.replicate 16 (0 : Int)).map (Value.int .u8)) := ⟨_, rfl⟩
  obtain ⟨Z32, HZ32⟩ : ∃ O, Hid (O = (List.replicate 32 (0 : Int)).map (Value.int .u8)) := ⟨_, rfl⟩
  have hOl : OV.length = 16 := by rw [HOV.out, List.length_map]; exact hlo.out
  have hCl : CV.length = 32 := by rw [HCV.out, List.length_map]; exact hlc.out
  have hb16 := built_id0
  have hb32 := built_sum0
  have hneo := fun w => hid (run_eq_id w x.o (List.replicate 16 0) hlo.out rfl)
  have hnec := fun w => hid (run_eq_sum w x.c (List.replicate 32 0) hlc.out rfl)
  rw [← HOV.out] at haI hneo
  rw [← HCV.out] at haS hnec
  rw [← HZ16.out] at hneo hb16
  rw [← HZ32.out] at hnec hb32
  have e1 : (x.o == List.replicate 16 0) = true := by simpa using ho
  have e2 : (x.c == List.replicate 32 0) = true := by simpa using hc
  rw [e1] at hneo
  rw [e2] at hnec
  have hlb : Hid ((x.b.map (Value.int .u8)).length = 16 * 1) := hid (by rw [List.length_map, hx.bl])
  have hlo : Hid ((x.o.map (Value.int .u8)).length = 16 * 1) := hid (by rw [List.length_map, hx.ol])
  have hln : Hid ((x.n.map (Value.int .u8)).length = 16 * 1) := hid (by rw [List.length_map, hx.nl])
  have hlc : Hid ((x.c.map (Value.int .u8)).length = 32 * 1) := hid (by rw [List.length_map, hx.cl])
  have hlt : Hid ((x.t.map (Value.int .u8)).length = 16 * 1) := hid (by rw [List.length_map, hx.tl])
  have hlg : Hid ((x.g.map (Value.int .u8)).length = 32 * 1) := hid (by rw [List.length_map, hx.gl])
  have hab := fun w' (h : BlkV 107 w' B x.cs) => hid (env_b h)
  have hao := fun w' (h : BlkV 107 w' B x.cs) => hid (env_o hx h)
  have han := fun w' (h : BlkV 107 w' B x.cs) => hid (env_n hx h)
  have hac := fun w' (h : BlkV 107 w' B x.cs) => hid (env_c hx h)
  have hat := fun w' (h : BlkV 107 w' B x.cs) => hid (env_t hx h)
  have hag := fun w' (h : BlkV 107 w' B x.cs) => hid (env_g hx h)
  clear hx
  obtain ⟨CS, HCS⟩ : ∃ C, Hid (C = x.cs) := ⟨_, rfl⟩
  rw [← HCS.out] at haI haS hab hao han hac hag hat hcv hce ⊢
  have hEQ : Hid ((envL x).map (Value.int .u8) = (((((([.int .u8 75, .int .u8 87, .int .u8 87] ++ [.int .u8 1]) ++ (o4 x.e).map (Value.int .u8)) ++ x.b.map (Value.int .u8)) ++ x.n.map (Value.int .u8)) ++ x.g.map (Value.int .u8)) ++ x.t.map (Value.int .u8))) := hid (by unfold envL aheadL twoL; rw [hv]; simp [o4])
  have hSZ : Hid (sizeV x = 88) := hid (by unfold sizeV; rw [hv]; rfl)
  have hoct := fun w => hid (Octets_any x.e 4 w (by omega))
  simp only [octN_four] at hoct
  go_enter Try.func69, Try.ntmps69
  go_wp2_with (first | (refine wl_boxV rfl 107 _ rfl CS rfl B hsz ?_; intro w0 hB0 hb0 hs0; have c00 := (hB0.cell 0).trans hcv.out; have c01 := (hB0.cell 1).trans hce.out; have hsz0 : B + 1 ≤ w0.heap.size := (by omega); clear hs0) | (go_at_call 16; refine (hin _).out.mono ?_; rintro e w1 ⟨rfl, rfl⟩) | (refine wl_loadD 22 rfl (by rfl) 57 _ rfl ⟨B, 18, none⟩ rfl 16 OV hOl aggID (haI _ hB0).out ?_) | (refine wl_build0G (by rfl) 57 rfl Z16 hb16 ?_) | (refine wl_neM 24 rfl (by rfl) 57 _ _ _ rfl OV.toArray Z16.toArray rfl rfl true (hneo _).out (by kernel_rfl) ?_) | (refine wl_loadD 27 rfl (by rfl) 73 _ rfl ⟨B, 50, none⟩ rfl 32 CV hCl aggSumT (haS _ hB0).out ?_) | (refine wl_build0G (by rfl) 73 rfl Z32 hb32 ?_) | (refine wl_neM 29 rfl (by rfl) 73 _ _ _ rfl CV.toArray Z32.toArray rfl rfl true (hnec _).out (by kernel_rfl) ?_) | (at_builtin; refine wl_appendS rfl _ _ 69 rfl 5 (.int .u8 0) 1 1 Try.underlying69 info8 rfl (by decide) (B + 1) _ 72 _ rfl hM6 (some ⟨B, 114, none⟩) 16 16 rfl (fun h => by cases h) (x.t.map (Value.int .u8)) hlt.out (at_row (by omega) (hat _ hB6).out) (ints_one _ _) (by decide) (by decide) (by omega) 88 rfl ?_; intro ao7 cap7 w7 row7 hc7 hM7 hv7 hg7 hrow7; have hB7 := blk_grown hB6 hg7 (fun k hk => (hrow7 k hk).1) (by omega); have bb7 := bb6.grown hg7 (by omega) (fun k hk => by have := (hrow7 k hk).1; omega); have hsz7 : B + 1 ≤ w7.heap.size := (by have := hg7.size; omega); have c70 := (hB7.cell 0).trans hcv.out; clear hB6 bb6 hM6 hg7 hrow7 hv7 c60) | (at_builtin; refine wl_appendS rfl _ _ 69 rfl 5 (.int .u8 0) 1 1 Try.underlying69 info8 rfl (by decide) (B + 1) _ 40 _ rfl hM5 (some ⟨B, 82, none⟩) 32 32 rfl (fun h => by cases h) (x.g.map (Value.int .u8)) hlg.out (at_row (by omega) (hag _ hB5).out) (ints_one _ _) (by decide) (by decide) (by omega) 72 rfl ?_; intro ao6 cap6 w6 row6 hc6 hM6 hv6 hg6 hrow6; have hB6 := blk_grown hB5 hg6 (fun k hk => (hrow6 k hk).1) (by omega); have bb6 := bb5.grown hg6 (by omega) (fun k hk => by have := (hrow6 k hk).1; omega); have hsz6 : B + 1 ≤ w6.heap.size := (by have := hg6.size; omega); have c60 := (hB6.cell 0).trans hcv.out; clear hB5 bb5 hM5 hg6 hrow6 hv6 c50) | (at_builtin; refine wl_appendS rfl _ _ 69 rfl 5 (.int .u8 0) 1 1 Try.underlying69 info8 rfl (by decide) (B + 1) _ 24 _ rfl hM4 (some ⟨B, 34, none⟩) 16 16 rfl (fun h => by cases h) (x.n.map (Value.int .u8)) hln.out (at_row (by omega) (han _ hB4).out) (ints_one _ _) (by decide) (by decide) (by omega) 40 rfl ?_; intro ao5 cap5 w5 row5 hc5 hM5 hv5 hg5 hrow5; have hB5 := blk_grown hB4 hg5 (fun k hk => (hrow5 k hk).1) (by omega); have bb5 := bb4.grown hg5 (by omega) (fun k hk => by have := (hrow5 k hk).1; omega); have hsz5 : B + 1 ≤ w5.heap.size := (by have := hg5.size; omega); have c50 := (hB5.cell 0).trans hcv.out; clear hB4 bb4 hM4 hg5 hrow5 hv5 c40) | (at_builtin; refine wl_appendS rfl _ _ 69 rfl 5 (.int .u8 0) 1 1 Try.underlying69 info8 rfl (by decide) (B + 1) _ 8 _ rfl hM3 (some ⟨B, 2, none⟩) 16 16 rfl (fun h => by cases h) (x.b.map (Value.int .u8)) hlb.out (at_row (by omega) (hab _ hB3).out) (ints_one _ _) (by decide) (by decide) (by omega) 24 rfl ?_; intro ao4 cap4 w4 row4 hc4 hM4 hv4 hg4 hrow4; have hB4 := blk_grown hB3 hg4 (fun k hk => (hrow4 k hk).1) (by omega); have bb4 := bb3.grown hg4 (by omega) (fun k hk => by have := (hrow4 k hk).1; omega); have hsz4 : B + 1 ≤ w4.heap.size := (by have := hg4.size; omega); have c40 := (hB4.cell 0).trans hcv.out; clear hB3 bb3 hM3 hg4 hrow4 hv4 c30) | (at_builtin; refine wl_appendS rfl _ _ 69 rfl 5 (.int .u8 0) 1 1 Try.underlying69 info8 rfl (by decide) (B + 1) _ 4 _ rfl hM2 (some ⟨w1.heap.size, 0, none⟩) 4 4 rfl (fun h => by cases h) ((o4 x.e).map (Value.int .u8)) rfl (rowV_of hO2.v) (ints_one _ _) (by decide) (by decide) (by omega) 8 rfl ?_; intro ao3 cap3 w3 row3 hc3 hM3 hv3 hg3 hrow3; have hB3 := blk_grown hB2 hg3 (fun k hk => (hrow3 k hk).1) (by omega); have bb3 := bb2.grown hg3 (by omega) (fun k hk => by have := (hrow3 k hk).1; omega); have hsz3 : B + 1 ≤ w3.heap.size := (by have := hg3.size; omega); have c30 := (hB3.cell 0).trans hcv.out; clear hB2 bb2 hM2 hg3 hrow3 hv3 c20) | (go_at_call 112; refine (hoct w1).out.mono ?_; rintro e w2 ⟨rfl, hO2, hb2⟩; have hM2 := hM1.belowAll hb2; have hB2 := hB1.below hb2 (by omega); have bb2 := bb1.trans (hb2.mono (by omega : B ≤ _)); have hsz2 : B + 1 ≤ w2.heap.size := (by have := hb2.size; omega); have c20 := (hB2.cell 0).trans hcv.out; clear hM1 hB1 bb1 hb2 c11) | (at_builtin; refine wl_appendArg rfl _ _ rfl ⟨w0.heap.size, 0, none⟩ 3 3 rfl [.int .u8 75, .int .u8 87, .int .u8 87] rfl hAd ⟨wc.heap.size, 0, none⟩ 1 1 rfl [.int .u8 1] rfl hDd.at0 (by decide) (by decide) (B + 1) (by omega) 4 rfl ?_; intro ao1 cap1 w1 hc1 hM1 hg1; have hB1 := hBd.grown hg1 (by intro e; cases e); have bb1 := bbd.grown hg1 (by omega) (fun k hk => by cases hk); have c11 := (hB1.cell 1).trans hce.out; have hsz1 : B + 1 ≤ w1.heap.size := (by have := hg1.size; omega); clear hBd bbd hg1 cd0 hAd hDd hsd) | (refine wl_lit rfl 69 5 1 _ rfl Try.underlying69 (.int .u8 0) 1 1 info8 (by decide) (by decide) [.int .u8 1] (by kernel_rfl) wc.heap.size rfl ?_; intro wd hDd hbd hsd; have hAd := at_below hAc hbd hoc; have hBd := hBc.below hbd (by omega); have bbd := bbc.trans (hbd.mono (by omega : B ≤ _)); have hszd : B + 1 ≤ wd.heap.size := (by omega); have cd0 := (hBd.cell 0).trans hcv.out; clear hAc hBc bbc hbd hoc cc0) | (refine wl_convC rfl _ rfl [.int .u8 75, .int .u8 87, .int .u8 87] 3 3 rfl w0.heap.size rfl ?_; intro wc hAc hbc hsc; have hBc := hB0.below hbc (by omega); have bbc := hb0.trans (hbc.mono (by omega : B ≤ _)); have cc0 := (hBc.cell 0).trans hcv.out; have hszc : B + 1 ≤ wc.heap.size := (by omega); have hoc : w0.heap.size < wc.heap.size := (by omega); clear hB0 hb0 hbc hsc c00 c01))
  go_ret2
  unfold EnvPost
  rw [if_pos HE.out, hSZ.out, hEQ.out, ← HB.out]
  exact ⟨bb7, _, _, rfl, hM7.mono (by omega)⟩
set_option maxRecDepth 100000 in
set_option maxHeartbeats 8000000 in
theorem Envelope_E (x : Env) (hx : x.Ok) (w : World) (hv : x.v = 2) (he : 0 ≤ x.e ∧ x.e ≤ 4294967295) :
    Calls Try.prog 69 #[.agg x.cs.toArray] w (EnvPost x w) := by
  obtain ⟨B, HB⟩ : ∃ B, Hid (B = w.heap.size) := ⟨_, rfl⟩
  have hsz : w.heap.size = B := HB.out.symm
  have hin := fun w => hid (In_b x.e 0 4294967295 w)
  have hal1 := hal16
  have hal2 := hal25
  have hal3 := hal32
  have hal4 := hal22
  have hal5 := halTag
  have HXO := hid hx
  have haI := fun w' (h : BlkV 107 w' B x.cs) => hid (env_o hx h)
  have haS := fun w' (h : BlkV 107 w' B x.cs) => hid (env_c hx h)
  have hlo := hid hx.ol
  have hlc := hid hx.cl
  have HE : Hid (errV x = 0) := hid (by unfold errV; rw [if_neg (by simp [hv]), if_neg (fun h => h he), if_neg (fun h => by have := h.1; omega)])
  have hi : inB x.e 0 4294967295 = true := by unfold inB; simp; omega
  rw [hi] at hin
  have hcv : Hid (x.cs[0]? = some (.int .i64 2)) := hid (by rw [← hv]; exact x.cv)
  have hce := hid x.ce
  obtain ⟨OV, HOV⟩ : ∃ O, Hid (O = x.o.map (Value.int .u8)) := ⟨_, rfl⟩
  obtain ⟨CV, HCV⟩ : ∃ O, Hid (O = x.c.map (Value.int .u8)) := ⟨_, rfl⟩
  obtain ⟨Z16, HZ16⟩ : ∃ O, Hid (O = (List.replicate 16 (0 : Int)).map (Value.int .u8)) := ⟨_, rfl⟩
  obtain ⟨Z32, HZ32⟩ : ∃ O, Hid (O = (List.replicate 32 (0 : Int)).map (Value.int .u8)) := ⟨_, rfl⟩
  have hOl : OV.length = 16 := by rw [HOV.out, List.length_map]; exact hlo.out
  have hCl : CV.length = 32 := by rw [HCV.out, List.length_map]; exact hlc.out
  have hb16 := built_id0
  have hb32 := built_sum0
  have hneo := fun w => hid (run_eq_id w x.o (List.replicate 16 0) hlo.out rfl)
  have hnec := fun w => hid (run_eq_sum w x.c (List.replicate 32 0) hlc.out rfl)
  rw [← HOV.out] at haI hneo
  rw [← HCV.out] at haS hnec
  rw [← HZ16.out] at hneo hb16
  rw [← HZ32.out] at hnec hb32
  have hlb : Hid ((x.b.map (Value.int .u8)).length = 16 * 1) := hid (by rw [List.length_map, hx.bl])
  have hlo : Hid ((x.o.map (Value.int .u8)).length = 16 * 1) := hid (by rw [List.length_map, hx.ol])
  have hln : Hid ((x.n.map (Value.int .u8)).length = 16 * 1) := hid (by rw [List.length_map, hx.nl])
  have hlc : Hid ((x.c.map (Value.int .u8)).length = 32 * 1) := hid (by rw [List.length_map, hx.cl])
  have hlt : Hid ((x.t.map (Value.int .u8)).length = 16 * 1) := hid (by rw [List.length_map, hx.tl])
  have hlg : Hid ((x.g.map (Value.int .u8)).length = 32 * 1) := hid (by rw [List.length_map, hx.gl])
  have hab := fun w' (h : BlkV 107 w' B x.cs) => hid (env_b h)
  have hao := fun w' (h : BlkV 107 w' B x.cs) => hid (env_o hx h)
  have han := fun w' (h : BlkV 107 w' B x.cs) => hid (env_n hx h)
  have hac := fun w' (h : BlkV 107 w' B x.cs) => hid (env_c hx h)
  have hat := fun w' (h : BlkV 107 w' B x.cs) => hid (env_t hx h)
  have hag := fun w' (h : BlkV 107 w' B x.cs) => hid (env_g hx h)
  clear hx
  obtain ⟨CS, HCS⟩ : ∃ C, Hid (C = x.cs) := ⟨_, rfl⟩
  rw [← HCS.out] at haI haS hab hao han hac hag hat hcv hce ⊢
  have hEQ : Hid ((envL x).map (Value.int .u8) = (((((((([.int .u8 75, .int .u8 87, .int .u8 87] ++ [.int .u8 2]) ++ (o4 x.e).map (Value.int .u8)) ++ x.b.map (Value.int .u8)) ++ x.o.map (Value.int .u8)) ++ x.n.map (Value.int .u8)) ++ x.c.map (Value.int .u8)) ++ x.g.map (Value.int .u8)) ++ x.t.map (Value.int .u8))) := hid (by unfold envL aheadL twoL; rw [hv]; simp [o4])
  have hSZ : Hid (sizeV x = 136) := hid (by unfold sizeV; rw [hv]; rfl)
  have hoct := fun w => hid (Octets_any x.e 4 w (by omega))
  simp only [octN_four] at hoct
  go_enter Try.func69, Try.ntmps69
  go_wp2_with (first | (with_reducible refine @wl_skip _ _ _ _ _ _ _ 21 ?_ ?_ ?_; with_reducible rfl; kernel_rfl; go_frame) | (with_reducible refine @wl_skip _ _ _ _ _ _ _ 22 ?_ ?_ ?_; with_reducible rfl; kernel_rfl; go_frame) | (with_reducible refine @wl_skip _ _ _ _ _ _ _ 23 ?_ ?_ ?_; with_reducible rfl; kernel_rfl; go_frame) | (with_reducible refine @wl_skip _ _ _ _ _ _ _ 24 ?_ ?_ ?_; with_reducible rfl; kernel_rfl; go_frame) | (with_reducible refine @wl_skip _ _ _ _ _ _ _ 25 ?_ ?_ ?_; with_reducible rfl; kernel_rfl; go_frame) | (with_reducible refine @wl_skip _ _ _ _ _ _ _ 26 ?_ ?_ ?_; with_reducible rfl; kernel_rfl; go_frame) | (with_reducible refine @wl_skip _ _ _ _ _ _ _ 27 ?_ ?_ ?_; with_reducible rfl; kernel_rfl; go_frame) | (with_reducible refine @wl_skip _ _ _ _ _ _ _ 28 ?_ ?_ ?_; with_reducible rfl; kernel_rfl; go_frame) | (with_reducible refine @wl_skip _ _ _ _ _ _ _ 29 ?_ ?_ ?_; with_reducible rfl; kernel_rfl; go_frame) | (with_reducible refine @wl_skip _ _ _ _ _ _ _ 30 ?_ ?_ ?_; with_reducible rfl; kernel_rfl; go_frame) | (refine wl_boxV rfl 107 _ rfl CS rfl B hsz ?_; intro w0 hB0 hb0 hs0; have c00 := (hB0.cell 0).trans hcv.out; have c01 := (hB0.cell 1).trans hce.out; have hsz0 : B + 1 ≤ w0.heap.size := (by omega); clear hs0) | (go_at_call 16; refine (hin _).out.mono ?_; rintro e w1 ⟨rfl, rfl⟩) | (at_builtin; refine wl_appendS rfl _ _ 69 rfl 5 (.int .u8 0) 1 1 Try.underlying69 info8 rfl (by decide) (B + 1) _ 120 _ rfl hM8 (some ⟨B, 114, none⟩) 16 16 rfl (fun h => by cases h) (x.t.map (Value.int .u8)) hlt.out (at_row (by omega) (hat _ hB8).out) (ints_one _ _) (by decide) (by decide) (by omega) 136 rfl ?_; intro ao9 cap9 w9 row9 hc9 hM9 hv9 hg9 hrow9; have hB9 := blk_grown hB8 hg9 (fun k hk => (hrow9 k hk).1) (by omega); have bb9 := bb8.grown hg9 (by omega) (fun k hk => by have := (hrow9 k hk).1; omega); have hsz9 : B + 1 ≤ w9.heap.size := (by have := hg9.size; omega); have c90 := (hB9.cell 0).trans hcv.out; clear hB8 bb8 hM8 hg9 hrow9 hv9 c80) | (at_builtin; refine wl_appendS rfl _ _ 69 rfl 5 (.int .u8 0) 1 1 Try.underlying69 info8 rfl (by decide) (B + 1) _ 88 _ rfl hM7 (some ⟨B, 82, none⟩) 32 32 rfl (fun h => by cases h) (x.g.map (Value.int .u8)) hlg.out (at_row (by omega) (hag _ hB7).out) (ints_one _ _) (by decide) (by decide) (by omega) 120 rfl ?_; intro ao8 cap8 w8 row8 hc8 hM8 hv8 hg8 hrow8; have hB8 := blk_grown hB7 hg8 (fun k hk => (hrow8 k hk).1) (by omega); have bb8 := bb7.grown hg8 (by omega) (fun k hk => by have := (hrow8 k hk).1; omega); have hsz8 : B + 1 ≤ w8.heap.size := (by have := hg8.size; omega); have c80 := (hB8.cell 0).trans hcv.out; clear hB7 bb7 hM7 hg8 hrow8 hv8 c70) | (at_builtin; refine wl_appendS rfl _ _ 69 rfl 5 (.int .u8 0) 1 1 Try.underlying69 info8 rfl (by decide) (B + 1) _ 56 _ rfl hM6 (some ⟨B, 50, none⟩) 32 32 rfl (fun h => by cases h) (x.c.map (Value.int .u8)) hlc.out (at_row (by omega) (hac _ hB6).out) (ints_one _ _) (by decide) (by decide) (by omega) 88 rfl ?_; intro ao7 cap7 w7 row7 hc7 hM7 hv7 hg7 hrow7; have hB7 := blk_grown hB6 hg7 (fun k hk => (hrow7 k hk).1) (by omega); have bb7 := bb6.grown hg7 (by omega) (fun k hk => by have := (hrow7 k hk).1; omega); have hsz7 : B + 1 ≤ w7.heap.size := (by have := hg7.size; omega); have c70 := (hB7.cell 0).trans hcv.out; clear hB6 bb6 hM6 hg7 hrow7 hv7 c60) | (at_builtin; refine wl_appendS rfl _ _ 69 rfl 5 (.int .u8 0) 1 1 Try.underlying69 info8 rfl (by decide) (B + 1) _ 40 _ rfl hM5 (some ⟨B, 34, none⟩) 16 16 rfl (fun h => by cases h) (x.n.map (Value.int .u8)) hln.out (at_row (by omega) (han _ hB5).out) (ints_one _ _) (by decide) (by decide) (by omega) 56 rfl ?_; intro ao6 cap6 w6 row6 hc6 hM6 hv6 hg6 hrow6; have hB6 := blk_grown hB5 hg6 (fun k hk => (hrow6 k hk).1) (by omega); have bb6 := bb5.grown hg6 (by omega) (fun k hk => by have := (hrow6 k hk).1; omega); have hsz6 : B + 1 ≤ w6.heap.size := (by have := hg6.size; omega); have c60 := (hB6.cell 0).trans hcv.out; clear hB5 bb5 hM5 hg6 hrow6 hv6 c50) | (at_builtin; refine wl_appendS rfl _ _ 69 rfl 5 (.int .u8 0) 1 1 Try.underlying69 info8 rfl (by decide) (B + 1) _ 24 _ rfl hM4 (some ⟨B, 18, none⟩) 16 16 rfl (fun h => by cases h) (x.o.map (Value.int .u8)) hlo.out (at_row (by omega) (hao _ hB4).out) (ints_one _ _) (by decide) (by decide) (by omega) 40 rfl ?_; intro ao5 cap5 w5 row5 hc5 hM5 hv5 hg5 hrow5; have hB5 := blk_grown hB4 hg5 (fun k hk => (hrow5 k hk).1) (by omega); have bb5 := bb4.grown hg5 (by omega) (fun k hk => by have := (hrow5 k hk).1; omega); have hsz5 : B + 1 ≤ w5.heap.size := (by have := hg5.size; omega); have c50 := (hB5.cell 0).trans hcv.out; clear hB4 bb4 hM4 hg5 hrow5 hv5 c40) | (at_builtin; refine wl_appendS rfl _ _ 69 rfl 5 (.int .u8 0) 1 1 Try.underlying69 info8 rfl (by decide) (B + 1) _ 8 _ rfl hM3 (some ⟨B, 2, none⟩) 16 16 rfl (fun h => by cases h) (x.b.map (Value.int .u8)) hlb.out (at_row (by omega) (hab _ hB3).out) (ints_one _ _) (by decide) (by decide) (by omega) 24 rfl ?_; intro ao4 cap4 w4 row4 hc4 hM4 hv4 hg4 hrow4; have hB4 := blk_grown hB3 hg4 (fun k hk => (hrow4 k hk).1) (by omega); have bb4 := bb3.grown hg4 (by omega) (fun k hk => by have := (hrow4 k hk).1; omega); have hsz4 : B + 1 ≤ w4.heap.size := (by have := hg4.size; omega); have c40 := (hB4.cell 0).trans hcv.out; clear hB3 bb3 hM3 hg4 hrow4 hv4 c30) | (at_builtin; refine wl_appendS rfl _ _ 69 rfl 5 (.int .u8 0) 1 1 Try.underlying69 info8 rfl (by decide) (B + 1) _ 4 _ rfl hM2 (some ⟨w1.heap.size, 0, none⟩) 4 4 rfl (fun h => by cases h) ((o4 x.e).map (Value.int .u8)) rfl (rowV_of hO2.v) (ints_one _ _) (by decide) (by decide) (by omega) 8 rfl ?_; intro ao3 cap3 w3 row3 hc3 hM3 hv3 hg3 hrow3; have hB3 := blk_grown hB2 hg3 (fun k hk => (hrow3 k hk).1) (by omega); have bb3 := bb2.grown hg3 (by omega) (fun k hk => by have := (hrow3 k hk).1; omega); have hsz3 : B + 1 ≤ w3.heap.size := (by have := hg3.size; omega); have c30 := (hB3.cell 0).trans hcv.out; clear hB2 bb2 hM2 hg3 hrow3 hv3 c20) | (go_at_call 112; refine (hoct w1).out.mono ?_; rintro e w2 ⟨rfl, hO2, hb2⟩; have hM2 := hM1.belowAll hb2; have hB2 := hB1.below hb2 (by omega); have bb2 := bb1.trans (hb2.mono (by omega : B ≤ _)); have hsz2 : B + 1 ≤ w2.heap.size := (by have := hb2.size; omega); have c20 := (hB2.cell 0).trans hcv.out; clear hM1 hB1 bb1 hb2 c11) | (at_builtin; refine wl_appendArg rfl _ _ rfl ⟨w0.heap.size, 0, none⟩ 3 3 rfl [.int .u8 75, .int .u8 87, .int .u8 87] rfl hAd ⟨wc.heap.size, 0, none⟩ 1 1 rfl [.int .u8 2] rfl hDd.at0 (by decide) (by decide) (B + 1) (by omega) 4 rfl ?_; intro ao1 cap1 w1 hc1 hM1 hg1; have hB1 := hBd.grown hg1 (by intro e; cases e); have bb1 := bbd.grown hg1 (by omega) (fun k hk => by cases hk); have c11 := (hB1.cell 1).trans hce.out; have hsz1 : B + 1 ≤ w1.heap.size := (by have := hg1.size; omega); clear hBd bbd hg1 cd0 hAd hDd hsd) | (refine wl_lit rfl 69 5 1 _ rfl Try.underlying69 (.int .u8 0) 1 1 info8 (by decide) (by decide) [.int .u8 2] (by kernel_rfl) wc.heap.size rfl ?_; intro wd hDd hbd hsd; have hAd := at_below hAc hbd hoc; have hBd := hBc.below hbd (by omega); have bbd := bbc.trans (hbd.mono (by omega : B ≤ _)); have hszd : B + 1 ≤ wd.heap.size := (by omega); have cd0 := (hBd.cell 0).trans hcv.out; clear hAc hBc bbc hbd hoc cc0) | (refine wl_convC rfl _ rfl [.int .u8 75, .int .u8 87, .int .u8 87] 3 3 rfl w0.heap.size rfl ?_; intro wc hAc hbc hsc; have hBc := hB0.below hbc (by omega); have bbc := hb0.trans (hbc.mono (by omega : B ≤ _)); have cc0 := (hBc.cell 0).trans hcv.out; have hszc : B + 1 ≤ wc.heap.size := (by omega); have hoc : w0.heap.size < wc.heap.size := (by omega); clear hB0 hb0 hbc hsc c00 c01))
  go_ret2
  unfold EnvPost
  rw [if_pos HE.out, hSZ.out, hEQ.out, ← HB.out]
  exact ⟨bb9, _, _, rfl, hM9.mono (by omega)⟩
theorem Envelope_any (x : Env) (hx : x.Ok) (w : World) : Calls Try.prog 69 #[.agg x.cs.toArray] w (EnvPost x w) := by
  by_cases hv : x.v = 1 ∨ x.v = 2
  · by_cases he : 0 ≤ x.e ∧ x.e ≤ 4294967295
    · by_cases h1 : x.v = 1
      · by_cases ho : x.o = List.replicate 16 0
        · by_cases hc : x.c = List.replicate 32 0
          · exact Envelope_D x hx w h1 he ho hc
          · exact Envelope_C2 x hx w h1 he ho hc
        · exact Envelope_C1 x hx w h1 he ho
      · exact Envelope_E x hx w (hv.resolve_left h1) he
    · exact Envelope_B x hx w hv he
  · exact Envelope_A x hx w hv
end Go.Proofs.Ytbljihhelladbaa.wr
