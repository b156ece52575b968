/-
  HousesFound, the reference: Concat over parts, EntryError, plain. Conditions: the entry lies in memory; the founder is not zero. HousesFound, the reference: EntrySum, PrintEntry. Conditions: the entry lies in memory; the founder is not zero.
-/
import Derived.Test.YtdhipjoplkpgmaaGreatDoorHHld
import Derived.Test.YtdhipjoplkpgmaaGreatDoorHHfX
import Derived.Test.YtdhipjoplkpgmaaGreatDoorHSlInt
set_option maxRecDepth 100000
set_option linter.unusedSimpArgs false
set_option linter.unusedVariables false
set_option maxHeartbeats 16000000
namespace Go.Proofs.YtdhipjoplkpgmaaGreatDoor.hf
open Go.RowKit st hs wr shr sh lk
def ptPart (x : Pt) : slB.Part := ⟨x.a, x.l.length, x.c, x.l.map (Value.int .u8)⟩
theorem ptPart_ok {w : World} {x : Pt} (h : x.Ok w) (h0 : 0 < x.l.length) : (ptPart x).ok w := by
 refine ⟨h.row.v, by simp [ptPart], ints_one _ _, fun e => ?_⟩
 obtain ⟨b, off, h1, _⟩ := h.row.at (i := 0) h0
 rw [show (ptPart x).ao = x.a from rfl, h1] at e
 cases e
theorem sumN_pts : ∀ ps : List Pt, slB.sumN (ps.map ptPart) = (cat ps).length
 | [] => rfl
 | p :: l => by
  have := sumN_pts l
  simp only [List.map_cons, slB.sumN, cat, List.flatten_cons, List.length_append]
  rw [this]; rfl
theorem flat_pts : ∀ ps : List Pt, slB.flat (ps.map ptPart) = (cat ps).map (Value.int .u8)
 | [] => rfl
 | p :: l => by
  have := flat_pts l
  simp only [List.map_cons, slB.flat, cat, List.flatten_cons, List.map_append]
  rw [this]; rfl
theorem concatPts (ps : List Pt) (L k c : Nat) (w : World) (vs : List Value) (hvs : vs = ps.map Pt.v) (hk : ps.length = k) (hB : BlkV 61 w L vs) (hok : ∀ x ∈ ps, x.Ok w) (h0 : ∀ x ∈ ps, 0 < x.l.length) (hs : (cat ps).length ≤ 1048576) (hn : k ≤ 1000) :
  Calls Tryz.prog 112 #[.slice (some ⟨L, 0, none⟩) k c] w fun e w' => ∃ a2 c2, e = .returned (.slice a2 (cat ps).length c2) ∧ Mine w' w.heap.size 5 1 (.slice a2 (cat ps).length c2) (cat ps).length ((cat ps).map (Value.int .u8)) ∧ Below w.heap.size w w' := by
 have hl : (ps.map ptPart).length = k := by rw [List.length_map, hk]
 have h := slB.Concat_any (ps.map ptPart) L 0 c w ⟨rfl, hB.lt, fun j hj => ?_⟩ (fun p hp => ?_) (by rw [sumN_pts]; omega) (by rw [hl]; omega)
 ·rw [hl] at h
  refine h.mono ?_
  rintro e w' ⟨v, rfl, hM, hb⟩
  rw [sumN_pts, flat_pts] at hM
  obtain ⟨a2, c2, rfl, _⟩ := hM.row
  exact ⟨a2, c2, rfl, hM, hb⟩
 ·have hj2 : j < ps.length := by rwa [List.length_map] at hj
  show w.cell? ⟨L, 0 + j, none⟩ = _
  rw [Nat.zero_add, hB.cell j, hvs, List.getElem?_map, List.getElem?_eq_getElem hj2, getD_lt' _ _ hj, List.getElem_map]
  rfl
 ·obtain ⟨x, hx, rfl⟩ := List.mem_map.1 hp
  exact ptPart_ok (hok x hx) (h0 x hx)
theorem ptBlk {w : World} {g c : Nat} {l : List Int} (h : BlkV 5 w g (l.map (Value.int .u8))) (ho : Octs l) (hl : l.length ≤ c) (hc : c ≤ maxLen) : Pt.Ok w ⟨some ⟨g, 0, none⟩, c, l⟩ := ⟨at_rowO h.lt h.at0, hl, hc, ho, fun b e => by injection e with e; subst e; exact h.lt⟩
theorem ptAt {w : World} {g off c : Nat} {l : List Int} (hg : g < w.heap.size) (h : At w ⟨g, off, none⟩ (l.map (Value.int .u8))) (ho : Octs l) (hl : l.length ≤ c) (hc : c ≤ maxLen) : Pt.Ok w ⟨some ⟨g, off, none⟩, c, l⟩ := ⟨at_rowO hg h, hl, hc, ho, fun b e => by injection e with e; subst e; exact hg⟩
theorem RefEntryError_bad (t : Int) (f : List Int) (bo : Value) (w : World) (hf : f.length = 16) (ht : timeE t ≠ 0) :
  Calls Tryz.prog 89 #[.agg (entC t (f.map (Value.int .u8)) bo).toArray] w fun e w' => e = .returned (.int .i64 (timeE t)) ∧ Below w.heap.size w w' := by
 have HE : Hid (timeE t = 4) := hid (by unfold timeE at ht ⊢; split at ht; rw [if_pos (by assumption)]; exact absurd rfl ht)
 have hcells := fun (w : World) (g : Nat) (h : BlkV 83 w g (entC t (f.map (Value.int .u8)) bo)) => hid (ent_cells (by rw [List.length_map, hf]) h)
 obtain ⟨CS, HCS⟩ := hidE (entC t (f.map (Value.int .u8)) bo)
 rw [← HCS.out] at hcells ⊢
 rw [HE.out]
 obtain ⟨B, hsz⟩ := szE w
 rw [hsz]
 have ht2 : t < 0 ∨ (¬ t < 0 ∧ 1099511627776 < t) := by
  unfold timeE at ht
  split at ht
  ·rename_i h; omega
  ·exact absurd rfl ht
 clear ht
 rcases ht2 with h1 | ⟨h1, h2⟩
 ·go_enter Tryz.func89, Tryz.ntmps89
  go_wp2_with (first
   | (refine wl_boxV rfl 83 _ rfl CS rfl B hsz ?_; intro w1 hB1 bb1 hs1; obtain ⟨c0, c1, c2, c67⟩ := (hcells _ _ hB1).out))
  go_ret
  exact ⟨rfl, bb1⟩
 ·go_enter Tryz.func89, Tryz.ntmps89
  go_wp2_with (first
   | (refine wl_boxV rfl 83 _ rfl CS rfl B hsz ?_; intro w1 hB1 bb1 hs1; obtain ⟨c0, c1, c2, c67⟩ := (hcells _ _ hB1).out))
  go_ret
  exact ⟨rfl, bb1⟩
theorem RefEntryError_ok (t : Int) (f : List Int) (rs : List ByteArray) (ao : Option Addr) (n c : Nat) (w : World) (h : EntOk w t f rs ao n c) (h0 : f ≠ List.replicate 16 0) :
  Calls Tryz.prog 89 #[.agg (entC t (f.map (Value.int .u8)) (.slice ao n c)).toArray] w fun e w' => e = .returned (.int .i64 0) ∧ Below w.heap.size w w' := by
 have hFl : (f.map (Value.int .u8)).length = 16 := by rw [List.length_map, h.hf]
 obtain ⟨ht0, ht1⟩ := timeE_lo h.ht
 have h1 : ¬ t < 0 := by omega
 have h2 : ¬ 1099511627776 < t := by omega
 have hpb := fun (w' : World) (hb : Below w.heap.size w w') => hid (RefParseBody_ok f rs ao n c w' h.hf h0 h.hE h.hn (h.pt.below hb))
 have hcells := fun (w : World) (g : Nat) (h : BlkV 83 w g (entC t (f.map (Value.int .u8)) (.slice ao n c))) => hid (ent_cells hFl h)
 obtain ⟨CS, HCS⟩ := hidE (entC t (f.map (Value.int .u8)) (.slice ao n c))
 rw [← HCS.out] at hcells ⊢
 have HCL := fun v => hid (bodyC_len (ro := v) hFl)
 have HC1 := fun v hv => hid (bodyC_one (fv := f.map (Value.int .u8)) (ro := v) (ints_one _ _) hv)
 have hz := hid zeroBody
 have HZ0 : Hid ((bodyC zID (.slice none 0 0)).length = 58) := hid (bodyC_len rfl)
 obtain ⟨Z, HZ⟩ := hidE (bodyC zID (.slice none 0 0))
 rw [← HZ.out] at HZ0 hz
 obtain ⟨B, hsz⟩ := szE w
 rw [hsz] at hpb ⊢
 clear h h0
 go_enter Tryz.func89, Tryz.ntmps89
 go_wp2_with (first
  | (refine wl_storeV rfl 42 _ _ rfl 42 X rfl BS rfl 58 aggBody hBl Z hX3 HZ0.out hB1' ?_; intro w4 hX4 hb4 hs4; have bb4 : Below B w w4 := bb3.trans (hb4.mono (by omega)))
  | (obtain ⟨X, HX⟩ := hidE w2.heap.size; have hBX : B < X := (by rw [HX.out]; have := hb2.size; omega); refine wl_allocV rfl 42 rfl Z hz.out X HX.out.symm ?_; intro w3 hX3 hb3 hs3; have bb3 : Below B w w3 := bb2.trans (hb3.mono (by omega)))
  | (go_at_call 96; refine (hpb w1 bb1).out.mono ?_; rintro e w2 ⟨ra, rc, rfl, _, _, hb2⟩; have bb2 : Below B w w2 := bb1.trans (hb2.mono (by omega)); have hBl := (HCL (.slice ra rs.length rc)).out; have hB1' := (HC1 (.slice ra rs.length rc) rfl).out; obtain ⟨BS, HBS⟩ := hidE (bodyC (f.map (Value.int .u8)) (.slice ra rs.length rc)); rw [← HBS.out] at hBl hB1'; rw [← HBS.out])
  | (refine wl_boxV rfl 83 _ rfl CS rfl B hsz ?_; intro w1 hB1 bb1 hs1; obtain ⟨c0, c1, c2, c67⟩ := (hcells _ _ hB1).out))
 go_ret
 exact ⟨rfl, bb4⟩
theorem cell_freeze (w : World) (a : Addr) (n : Nat) (q : Addr) : (w.freeze a n).cell? q = w.cell? q := by
 by_cases hn : n = 0
 ·simp [World.freeze, hn]
 ·unfold World.cell? World.freeze
  rw [if_neg hn]
  simp only [Array.getElem?_modify]
  by_cases e : a.block = q.block
  ·simp only [if_pos e]
   cases h : w.heap[q.block]? with
   | none => rfl
   | some o => cases o <;> rfl
  ·simp only [if_neg e]
structure PF (w : World) (B : Nat) (CS : List Value) (x : World) (L : List Pt) : Prop where
 ent : BlkV 83 x B CS
 bel : Below B w x
 pts : ∀ p ∈ L, p.Ok x
section
variable {w x : World} {B : Nat} {CS : List Value} {L : List Pt}
theorem PF.step {x' : World} (h : PF w B CS x L) (hb : Below x.heap.size x x') : PF w B CS x' L :=
 ⟨h.ent.below hb h.ent.lt, h.bel.trans (hb.mono (Nat.le_of_lt h.ent.lt)), fun p hp => (h.pts p hp).below hb⟩
theorem PF.cons {p : Pt} (h : PF w B CS x L) (hp : p.Ok x) : PF w B CS x (p :: L) :=
 ⟨h.ent, h.bel, fun q hq => by rcases List.mem_cons.1 hq with rfl | hq; exact hp; exact h.pts q hq⟩
theorem plLit {ops : Array Oper} {o : Oper} {a : Act} {K : Act → World → Prop} {Q : Exit → Act → World → Prop} {E : Prop} (hF : PF w B CS x L) (l : List Int) (n : Nat) (parts : Array (Nat × Operand)) (hgd : o.guard = none) (ho : o.op = .buildSlice 61 n parts) (hl : l.length = n) (hn : n ≤ 16777216) (h0 : 0 < n) (oc : Octs l)
  (hf : Instr.fill (fun i => some (i * 1, 1)) ((Array.range (n * 1)).map ((Value.int .u8 0).cells[· % (Value.int .u8 0).cells.size]!)) (parts.map fun (i, x) => (i, a.eval x)).toList = some (l.map (Value.int .u8)).toArray)
  (h : ∀ A x', BlkV 5 x' A (l.map (Value.int .u8)) → B < A → PF w B CS x' (⟨some ⟨A, 0, none⟩, n, l⟩ :: L) → Below x.heap.size x x' → K (a.put o.dst (.slice (some ⟨A, 0, none⟩) n n)) x') : if Region.wanted o (yielded ops a.tmps) = true then Oper.wp Tryz.prog o a x K Q else E := by
 refine step_lit hgd 61 5 n parts ho Tryz.underlying61 (.int .u8 0) 1 1 info8 (by omega) (by omega) (l.map (Value.int .u8)) hf x.heap.size rfl ?_
 intro x' h1 h2 h3
 exact h _ x' h1 hF.ent.lt ((hF.step h2).cons (ptBlk h1 oc (by omega) (by unfold maxLen; omega))) h2
theorem plConv {ops : Array Oper} {o : Oper} {a : Act} {K : Act → World → Prop} {Q : Exit → Act → World → Prop} {E : Prop} (hF : PF w B CS x L) (hgd : o.guard = none) (y : Operand) (ho : o.op = .convert 61 61 y) (g n c : Nat) (C : List Value)
  (hx : a.eval y = .slice (some ⟨g, 0, none⟩) n c) (hB : BlkV 5 x g C) (hg : B < g)
  (h : ∀ x', PF w B CS x' L → K (a.put o.dst (.slice (some ⟨g, 0, none⟩) n c)) x') : if Region.wanted o (yielded ops a.tmps) = true then Oper.wp Tryz.prog o a x K Q else E := by
 have hw : Region.wanted o (yielded ops a.tmps) = true := by simp [Region.wanted, hgd]
 rw [if_pos hw]
 unfold Oper.wp
 simp only [execOp, ho, hx, run_convC hB, Sem.run_bind, Result.andThen_ok, Sem.run_pure]
 obtain ⟨h1, h2, h3, h4⟩ := conv_facts hB
 refine h _ ⟨hF.ent.grown h2 (by intro e; injection e with e; omega), hF.bel.trans (h3.mono (Nat.le_of_lt hg)), fun p hp => ?_⟩
 obtain ⟨r1, r2, r3, r4, r5⟩ := hF.pts p hp
 refine ⟨?_, r2, r3, r4, fun b e => by rw [h4]; exact r5 b e⟩
 rcases r1 with r | ⟨b, off, q1, q2, q3⟩
 ·exact Or.inl r
 ·exact Or.inr ⟨b, off, q1, by rw [h4]; exact q2, fun i hi => by rw [cell_freeze]; exact q3 i hi⟩
theorem plLong (hF : PF w B CS x L) (v : Int) : Calls Tryz.prog 46 #[.int .i64 v] x fun e x' => ∃ A, e = .returned (.slice (some ⟨A, 0, none⟩) 8 8) ∧ PF w B CS x' (⟨some ⟨A, 0, none⟩, 8, o8 v⟩ :: L) ∧ Below x.heap.size x x' := by
 refine (longR v x).mono ?_
 rintro e x' ⟨rfl, hA, hb⟩
 exact ⟨_, rfl, (hF.step hb).cons (ptBlk hA (o8_octs _) (by rw [o8_length]; exact Nat.le_refl _) (by decide)), hb⟩
theorem plShort (hF : PF w B CS x L) (v : Int) : Calls Tryz.prog 162 #[.int .i64 v] x fun e x' => ∃ A, e = .returned (.slice (some ⟨A, 4, none⟩) 4 4) ∧ PF w B CS x' (⟨some ⟨A, 4, none⟩, 4, o4 v⟩ :: L) ∧ Below x.heap.size x x' := by
 refine (shortR v x).mono ?_
 rintro e x' ⟨rfl, hA, hb⟩
 refine ⟨_, rfl, (hF.step hb).cons ⟨hA, by show (o4 v).length ≤ 4; rw [hs.o4_length]; exact Nat.le_refl _, by show 4 ≤ maxLen; decide, hs.o4_octs _, fun b e => ?_⟩, hb⟩
 injection e with e; subst e
 obtain ⟨b, off, h1, h2, _⟩ := hA.at (i := 0) (by rw [hs.o4_length]; decide)
 injection h1 with h1; injection h1 with h1; subst h1; exact h2
end
theorem oK4 : Octs [75, 87, 69, 49] := by intro c hc; simp only [List.mem_cons, List.not_mem_nil, or_false] at hc; unfold Oct; omega
theorem oK1 : Octs [2] := by intro c hc; simp only [List.mem_cons, List.not_mem_nil, or_false] at hc; unfold Oct; omega
theorem infoBts : Info Tryz.prog 61 (.slice none 0 0) 1 24 := by unfold Info; kernel_rfl
theorem plain_ok (t : Int) (f : List Int) (rs : List ByteArray) (ao : Option Addr) (n c : Nat) (w : World) (h : EntOk w t f rs ao n c) :
  Calls Tryz.prog 107 #[.agg (entC t (f.map (Value.int .u8)) (.slice ao n c)).toArray] w fun e w' => ∃ a2 c2, e = .returned (.slice a2 (89 + n) c2) ∧ Mine w' w.heap.size 5 1 (.slice a2 (89 + n) c2) (89 + n) ((plainB f t (bodyB f rs)).map (Value.int .u8)) ∧ Below w.heap.size w w' := by
 have hFl : (f.map (Value.int .u8)).length = 16 := by rw [List.length_map, h.hf]
 have HF16 := hid h.hf
 have HFO := hid h.of
 have hcells := fun (w : World) (g : Nat) (h : BlkV 83 w g (entC t (f.map (Value.int .u8)) (.slice ao n c))) => hid (ent_cells hFl h)
 have hact := fun (w : World) (g : Nat) (h : BlkV 83 w g (entC t (f.map (Value.int .u8)) (.slice ao n c))) => hid (ent_actor hFl h)
 have hkey := fun (w : World) (g : Nat) (h : BlkV 83 w g (entC t (f.map (Value.int .u8)) (.slice ao n c))) => hid (ent_key hFl h)
 have hprv := fun (w : World) (g : Nat) (h : BlkV 83 w g (entC t (f.map (Value.int .u8)) (.slice ao n c))) => hid (ent_prev hFl h)
 obtain ⟨CS, HCS⟩ := hidE (entC t (f.map (Value.int .u8)) (.slice ao n c))
 rw [← HCS.out] at hcells hact hkey hprv ⊢
 have hle := h.le
 have HNB := hid h.hn
 have HN0 : Hid (0 < n) := hid (by rw [h.hn]; unfold bodyB; rw [List.length_append, h.hf]; omega)
 have HPB := fun (w' : World) (hb : Below w.heap.size w w') => hid (h.pt.below hb)
 have HCAT : Hid (∀ A0 A4 A7 A11 A21 B : Nat, cat [⟨some ⟨A0, 0, none⟩, 4, [75, 87, 69, 49]⟩, ⟨some ⟨A4, 0, none⟩, 8, o8 0⟩, ⟨some ⟨A7, 0, none⟩, 8, o8 t⟩, ⟨some ⟨A11, 0, none⟩, 1, [2]⟩, ⟨some ⟨B, 3, none⟩, 16, f⟩, ⟨some ⟨B, 19, none⟩, 16, List.replicate 16 0⟩, ⟨some ⟨B, 35, none⟩, 32, List.replicate 32 0⟩, ⟨some ⟨A21, 4, none⟩, 4, o4 (n : Int)⟩, ⟨ao, c, bodyB f rs⟩] = plainB f t (bodyB f rs)) := hid (by
  intros
  unfold cat plainB
  rw [← h.hn]
  simp only [List.map_cons, List.map_nil, List.flatten_cons, List.flatten_nil, List.append_nil])
 have HPL : Hid ((plainB f t (bodyB f rs)).length = 89 + n) := hid h.len
 obtain ⟨PB, HPBB⟩ := hidE (plainB f t (bodyB f rs))
 rw [← HPBB.out] at HCAT HPL ⊢
 obtain ⟨BD, HBD⟩ := hidE (bodyB f rs)
 rw [← HBD.out] at HCAT HPB HNB
 have HV : Hid (∀ A0 A4 A7 A11 A21 B : Nat, ([.slice (some ⟨A0, 0, none⟩) 4 4, .slice (some ⟨A4, 0, none⟩) 8 8, .slice (some ⟨A7, 0, none⟩) 8 8, .slice (some ⟨A11, 0, none⟩) 1 1, .slice (some ⟨B, 3, none⟩) 16 16, .slice (some ⟨B, 19, none⟩) 16 16, .slice (some ⟨B, 35, none⟩) 32 32, .slice (some ⟨A21, 4, none⟩) 4 4, .slice ao n c] : List Value) = ([⟨some ⟨A0, 0, none⟩, 4, [75, 87, 69, 49]⟩, ⟨some ⟨A4, 0, none⟩, 8, o8 0⟩, ⟨some ⟨A7, 0, none⟩, 8, o8 t⟩, ⟨some ⟨A11, 0, none⟩, 1, [2]⟩, ⟨some ⟨B, 3, none⟩, 16, f⟩, ⟨some ⟨B, 19, none⟩, 16, List.replicate 16 0⟩, ⟨some ⟨B, 35, none⟩, 32, List.replicate 32 0⟩, ⟨some ⟨A21, 4, none⟩, 4, o4 (n : Int)⟩, ⟨ao, c, BD⟩] : List Pt).map Pt.v) := hid (by
  intros
  have e1 := HF16.out
  have e2 := HNB.out
  simp [Pt.v, o8_length, hs.o4_length, e1, ← e2])
 have HZ16 : Hid (zID = (List.replicate 16 (0 : Int)).map (Value.int .u8)) := hid rfl
 have HZ32 : Hid (zSum = (List.replicate 32 (0 : Int)).map (Value.int .u8)) := hid rfl
 rw [HZ16.out] at hkey
 rw [HZ32.out] at hprv
 obtain ⟨B, hsz⟩ := szE w
 rw [hsz] at HPB ⊢
 have hal1 : Tryz.prog.arrayLen 25 = 16 := by kernel_rfl
 have hal2 : Tryz.prog.arrayLen 39 = 32 := by kernel_rfl
 obtain ⟨Q, HQ⟩ : ∃ Q : Ending → World → Prop, Hid (Q = fun e w' => ∃ a2 c2, e = .returned (.slice a2 (89 + n) c2) ∧ Mine w' B 5 1 (.slice a2 (89 + n) c2) (89 + n) (PB.map (Value.int .u8)) ∧ Below B w w') := ⟨_, rfl⟩
 rw [← HQ.out]
 have HPQ : Hid (∀ w' a2 c2, Mine w' B 5 1 (.slice a2 PB.length c2) PB.length (PB.map (Value.int .u8)) → Below B w w' → Q (.returned (.slice a2 PB.length c2)) w') := hid (by rw [HQ.out]; intro w' a2 c2 h1 h2; rw [HPL.out] at h1 ⊢; exact ⟨a2, c2, rfl, h1, h2⟩)
 clear h hFl
 go_enter Tryz.func107, Tryz.ntmps107
 go_wp2_with (first | (refine wl_boxV rfl 83 _ rfl CS rfl B hsz ?_; intro w1 hE1 bb1 hs1))
 have hSS : ∀ w', BlkV 83 w' B CS → (w'.cell? ⟨B, 0, none⟩ = some (.int .i64 0) ∧ w'.cell? ⟨B, 1, none⟩ = some (.int .i64 t) ∧ w'.cell? ⟨B, 2, none⟩ = some (.int .i64 2) ∧ w'.cell? ⟨B, 67, none⟩ = some (.slice ao n c)) := fun w' h => (hcells _ _ h).out
 have HCC : Hid (∀ (x : World) (L : List Pt) (A0 A4 A7 A11 A21 AL : Nat), PF w B CS x L → (∀ p ∈ ([⟨some ⟨A0, 0, none⟩, 4, [75, 87, 69, 49]⟩, ⟨some ⟨A4, 0, none⟩, 8, o8 0⟩, ⟨some ⟨A7, 0, none⟩, 8, o8 t⟩, ⟨some ⟨A11, 0, none⟩, 1, [2]⟩, ⟨some ⟨A21, 4, none⟩, 4, o4 (n : Int)⟩] : List Pt), p ∈ L) → BlkV 61 x AL [.slice (some ⟨A0, 0, none⟩) 4 4, .slice (some ⟨A4, 0, none⟩) 8 8, .slice (some ⟨A7, 0, none⟩) 8 8, .slice (some ⟨A11, 0, none⟩) 1 1, .slice (some ⟨B, 3, none⟩) 16 16, .slice (some ⟨B, 19, none⟩) 16 16, .slice (some ⟨B, 35, none⟩) 32 32, .slice (some ⟨A21, 4, none⟩) 4 4, .slice ao n c] →
  Calls Tryz.prog 112 #[.slice (some ⟨AL, 0, none⟩) 9 9] x fun e w' => ∃ a2 c2, e = .returned (.slice a2 PB.length c2) ∧ Mine w' B 5 1 (.slice a2 PB.length c2) PB.length (PB.map (Value.int .u8)) ∧ Below B w w' ∧ BlkV 83 w' B CS) := hid (fun x L A0 A4 A7 A11 A21 AL hF hm hAL => by
  have hok := fun p hp => hF.pts p (hm p hp)
  have hcc := concatPts _ AL 9 9 x _ (HV.out A0 A4 A7 A11 A21 B) rfl hAL (by
   intro x hx
   simp only [List.mem_cons, List.not_mem_nil, or_false] at hx
   rcases hx with rfl | rfl | rfl | rfl | rfl | rfl | rfl | rfl | rfl
   ·exact hok _ (by simp)
   ·exact hok _ (by simp)
   ·exact hok _ (by simp)
   ·exact hok _ (by simp)
   ·exact ptAt hF.ent.lt (hact _ _ hF.ent).out HFO.out (Nat.le_of_eq HF16.out) (by decide)
   ·exact ptAt hF.ent.lt (hkey _ _ hF.ent).out (zeros_oct _) (by simp) (by decide)
   ·exact ptAt hF.ent.lt (hprv _ _ hF.ent).out (zeros_oct _) (by simp) (by decide)
   ·exact hok _ (by simp)
   ·exact (HPB _ hF.bel).out) (by
   intro x hx
   simp only [List.mem_cons, List.not_mem_nil, or_false] at hx
   rcases hx with rfl | rfl | rfl | rfl | rfl | rfl | rfl | rfl | rfl
   ·exact Nat.zero_lt_succ _
   ·exact Nat.zero_lt_succ _
   ·exact Nat.zero_lt_succ _
   ·exact Nat.zero_lt_succ _
   ·show 0 < f.length; rw [HF16.out]; decide
   ·show 0 < (List.replicate 16 (0 : Int)).length; simp
   ·show 0 < (List.replicate 32 (0 : Int)).length; simp
   ·exact Nat.zero_lt_succ _
   ·show 0 < BD.length; rw [← HNB.out]; exact HN0.out) (by rw [HCAT.out, HPL.out]; omega) (by decide)
  rw [HCAT.out] at hcc
  refine hcc.mono ?_
  rintro e w' ⟨a2, c2, rfl, hM, hb⟩
  exact ⟨a2, c2, rfl, hM.mono (Nat.le_of_lt hF.ent.lt), hF.bel.trans (hb.mono (Nat.le_of_lt hF.ent.lt)), hF.ent.below hb hF.ent.lt⟩)
 clear HCAT hact hkey hprv HPB HNB HFO HF16 HN0 HV
 refine wp_region_held_drew (S := (fun w' => w'.cell? ⟨B, 0, none⟩ = some (.int .i64 0) ∧ w'.cell? ⟨B, 1, none⟩ = some (.int .i64 t) ∧ w'.cell? ⟨B, 2, none⟩ = some (.int .i64 2) ∧ w'.cell? ⟨B, 67, none⟩ = some (.slice ao n c))) (by kernel_rfl) (hSS w1.drew hE1) (fun hHeld => ?_)
 obtain ⟨x, HX0⟩ := hidE w1.drew
 rw [← HX0.out] at hHeld ⊢
 have hF : PF w B CS x [] := ⟨by rw [HX0.out]; exact hE1, by rw [HX0.out]; exact bb1.drew, fun p hp => by cases hp⟩
 clear hE1 bb1 hs1 HX0
 refine tq 2 rfl ?_
 refine tq 3 rfl ?_
 refine tq 5 rfl ?_
 refine tq 6 rfl ?_
 refine tq 8 rfl ?_
 refine tq 9 rfl ?_
 refine tq 10 rfl ?_
 refine tq 12 rfl ?_
 refine tq 13 rfl ?_
 refine tq 14 rfl ?_
 refine tq 15 rfl ?_
 refine tq 16 rfl ?_
 refine tq 17 rfl ?_
 refine tq 18 rfl ?_
 refine tq 19 rfl ?_
 refine tq 20 rfl ?_
 refine tq 22 rfl ?_
 refine tq 23 rfl ?_
 refine e3 0 4 11 rfl rfl rfl (fun K' hK' => ?_) (fun K' hK' => ?_) fun K' hK' => ?_
 focus
  refine plLit hF [75, 87, 69, 49] 4 _ rfl rfl rfl (by decide) (by decide) oK4 (by kernel_rfl) ?_
  intro A0 x hA0 hBA hF hb
  refine ko hK' (hSS _ hF.ent) fun hHeld => ?_
  clear hK' K'
  refine e3 1 4 11 rfl rfl rfl (fun K' hK' => ?_) (fun K' hK' => ?_) fun K' hK' => ?_
  focus
   refine plConv hF rfl _ rfl A0 4 4 _ rfl hA0 hBA ?_
   intro x hF
   refine ko hK' (hSS _ hF.ent) fun hHeld => ?_
   clear hK' K'
   refine e2 4 11 rfl rfl (fun K' hK' => ?_) fun K' hK' => ?_
   focus
    rw [if_pos (by rfl)]
    go_simp
    go_at_call 46
    refine (plLong hF 0).mono ?_
    rintro e x ⟨A4, rfl, hF, hb⟩
    refine ko hK' (hSS _ hF.ent) fun hHeld => ?_
    clear hK' K'
    refine e2 7 11 rfl rfl (fun K' hK' => ?_) fun K' hK' => ?_
    focus
     rw [if_pos (by rfl)]
     go_simp
     go_at_call 46
     refine (plLong hF t).mono ?_
     rintro e x ⟨A7, rfl, hF, hb⟩
     refine ko hK' (hSS _ hF.ent) fun hHeld => ?_
     clear hK' K'
     refine e2 11 21 rfl rfl (fun K' hK' => ?_) fun K' hK' => ?_
     focus
      refine plLit hF [2] 1 _ rfl rfl rfl (by decide) (by decide) oK1 (by kernel_rfl) ?_
      intro A11 x _ _ hF hb
      refine ko hK' (hSS _ hF.ent) fun hHeld => ?_
      clear hK' K'
      refine e1 21 rfl fun K' hK' => ?_
      rw [if_pos (by rfl)]
      go_simp
      go_at_call 162
      refine (plShort hF (n : Int)).mono ?_
      rintro e x ⟨A21, rfl, hF, hb⟩
      refine ko hK' (hSS _ hF.ent) fun hHeld => ?_
      clear hK' K'
     rotate_left 1
     focus
      rw [if_pos (by rfl)]
      go_simp
      go_at_call 162
      refine (plShort hF (n : Int)).mono ?_
      rintro e x ⟨A21, rfl, hF, hb⟩
      refine ko hK' (hSS _ hF.ent) fun hHeld => ?_
      clear hK' K'
      refine e1 11 rfl fun K' hK' => ?_
      refine plLit hF [2] 1 _ rfl rfl rfl (by decide) (by decide) oK1 (by kernel_rfl) ?_
      intro A11 x _ _ hF hb
      refine ko hK' (hSS _ hF.ent) fun hHeld => ?_
      clear hK' K'
     rotate_left 1
    rotate_left 2
    focus
     refine plLit hF [2] 1 _ rfl rfl rfl (by decide) (by decide) oK1 (by kernel_rfl) ?_
     intro A11 x _ _ hF hb
     refine ko hK' (hSS _ hF.ent) fun hHeld => ?_
     clear hK' K'
     refine e1 7 rfl fun K' hK' => ?_
     rw [if_pos (by rfl)]
     go_simp
     go_at_call 46
     refine (plLong hF t).mono ?_
     rintro e x ⟨A7, rfl, hF, hb⟩
     refine ko hK' (hSS _ hF.ent) fun hHeld => ?_
     clear hK' K'
     refine e1 21 rfl fun K' hK' => ?_
     rw [if_pos (by rfl)]
     go_simp
     go_at_call 162
     refine (plShort hF (n : Int)).mono ?_
     rintro e x ⟨A21, rfl, hF, hb⟩
     refine ko hK' (hSS _ hF.ent) fun hHeld => ?_
     clear hK' K'
    rotate_left 1
   rotate_left 3
   focus
    refine plLit hF [2] 1 _ rfl rfl rfl (by decide) (by decide) oK1 (by kernel_rfl) ?_
    intro A11 x _ _ hF hb
    refine ko hK' (hSS _ hF.ent) fun hHeld => ?_
    clear hK' K'
    refine e1 4 rfl fun K' hK' => ?_
    rw [if_pos (by rfl)]
    go_simp
    go_at_call 46
    refine (plLong hF 0).mono ?_
    rintro e x ⟨A4, rfl, hF, hb⟩
    refine ko hK' (hSS _ hF.ent) fun hHeld => ?_
    clear hK' K'
    refine e1 7 rfl fun K' hK' => ?_
    rw [if_pos (by rfl)]
    go_simp
    go_at_call 46
    refine (plLong hF t).mono ?_
    rintro e x ⟨A7, rfl, hF, hb⟩
    refine ko hK' (hSS _ hF.ent) fun hHeld => ?_
    clear hK' K'
    refine e1 21 rfl fun K' hK' => ?_
    rw [if_pos (by rfl)]
    go_simp
    go_at_call 162
    refine (plShort hF (n : Int)).mono ?_
    rintro e x ⟨A21, rfl, hF, hb⟩
    refine ko hK' (hSS _ hF.ent) fun hHeld => ?_
    clear hK' K'
   rotate_left 1
  rotate_left 4
  focus
   rw [if_pos (by rfl)]
   go_simp
   go_at_call 46
   refine (plLong hF 0).mono ?_
   rintro e x ⟨A4, rfl, hF, hb⟩
   have hA0 := hA0.below hb hA0.lt
   refine ko hK' (hSS _ hF.ent) fun hHeld => ?_
   clear hK' K'
   refine e3 1 7 11 rfl rfl rfl (fun K' hK' => ?_) (fun K' hK' => ?_) fun K' hK' => ?_
   focus
    refine plConv hF rfl _ rfl A0 4 4 _ rfl hA0 hBA ?_
    intro x hF
    refine ko hK' (hSS _ hF.ent) fun hHeld => ?_
    clear hK' K'
    refine e2 7 11 rfl rfl (fun K' hK' => ?_) fun K' hK' => ?_
    focus
     rw [if_pos (by rfl)]
     go_simp
     go_at_call 46
     refine (plLong hF t).mono ?_
     rintro e x ⟨A7, rfl, hF, hb⟩
     refine ko hK' (hSS _ hF.ent) fun hHeld => ?_
     clear hK' K'
     refine e2 11 21 rfl rfl (fun K' hK' => ?_) fun K' hK' => ?_
     focus
      refine plLit hF [2] 1 _ rfl rfl rfl (by decide) (by decide) oK1 (by kernel_rfl) ?_
      intro A11 x _ _ hF hb
      refine ko hK' (hSS _ hF.ent) fun hHeld => ?_
      clear hK' K'
      refine e1 21 rfl fun K' hK' => ?_
      rw [if_pos (by rfl)]
      go_simp
      go_at_call 162
      refine (plShort hF (n : Int)).mono ?_
      rintro e x ⟨A21, rfl, hF, hb⟩
      refine ko hK' (hSS _ hF.ent) fun hHeld => ?_
      clear hK' K'
     rotate_left 1
     focus
      rw [if_pos (by rfl)]
      go_simp
      go_at_call 162
      refine (plShort hF (n : Int)).mono ?_
      rintro e x ⟨A21, rfl, hF, hb⟩
      refine ko hK' (hSS _ hF.ent) fun hHeld => ?_
      clear hK' K'
      refine e1 11 rfl fun K' hK' => ?_
      refine plLit hF [2] 1 _ rfl rfl rfl (by decide) (by decide) oK1 (by kernel_rfl) ?_
      intro A11 x _ _ hF hb
      refine ko hK' (hSS _ hF.ent) fun hHeld => ?_
      clear hK' K'
     rotate_left 1
    rotate_left 2
    focus
     refine plLit hF [2] 1 _ rfl rfl rfl (by decide) (by decide) oK1 (by kernel_rfl) ?_
     intro A11 x _ _ hF hb
     refine ko hK' (hSS _ hF.ent) fun hHeld => ?_
     clear hK' K'
     refine e1 7 rfl fun K' hK' => ?_
     rw [if_pos (by rfl)]
     go_simp
     go_at_call 46
     refine (plLong hF t).mono ?_
     rintro e x ⟨A7, rfl, hF, hb⟩
     refine ko hK' (hSS _ hF.ent) fun hHeld => ?_
     clear hK' K'
     refine e1 21 rfl fun K' hK' => ?_
     rw [if_pos (by rfl)]
     go_simp
     go_at_call 162
     refine (plShort hF (n : Int)).mono ?_
     rintro e x ⟨A21, rfl, hF, hb⟩
     refine ko hK' (hSS _ hF.ent) fun hHeld => ?_
     clear hK' K'
    rotate_left 1
   rotate_left 3
   focus
    rw [if_pos (by rfl)]
    go_simp
    go_at_call 46
    refine (plLong hF t).mono ?_
    rintro e x ⟨A7, rfl, hF, hb⟩
    have hA0 := hA0.below hb hA0.lt
    refine ko hK' (hSS _ hF.ent) fun hHeld => ?_
    clear hK' K'
    refine e3 1 11 21 rfl rfl rfl (fun K' hK' => ?_) (fun K' hK' => ?_) fun K' hK' => ?_
    focus
     refine plConv hF rfl _ rfl A0 4 4 _ rfl hA0 hBA ?_
     intro x hF
     refine ko hK' (hSS _ hF.ent) fun hHeld => ?_
     clear hK' K'
     refine e2 11 21 rfl rfl (fun K' hK' => ?_) fun K' hK' => ?_
     focus
      refine plLit hF [2] 1 _ rfl rfl rfl (by decide) (by decide) oK1 (by kernel_rfl) ?_
      intro A11 x _ _ hF hb
      refine ko hK' (hSS _ hF.ent) fun hHeld => ?_
      clear hK' K'
      refine e1 21 rfl fun K' hK' => ?_
      rw [if_pos (by rfl)]
      go_simp
      go_at_call 162
      refine (plShort hF (n : Int)).mono ?_
      rintro e x ⟨A21, rfl, hF, hb⟩
      refine ko hK' (hSS _ hF.ent) fun hHeld => ?_
      clear hK' K'
     rotate_left 1
     focus
      rw [if_pos (by rfl)]
      go_simp
      go_at_call 162
      refine (plShort hF (n : Int)).mono ?_
      rintro e x ⟨A21, rfl, hF, hb⟩
      refine ko hK' (hSS _ hF.ent) fun hHeld => ?_
      clear hK' K'
      refine e1 11 rfl fun K' hK' => ?_
      refine plLit hF [2] 1 _ rfl rfl rfl (by decide) (by decide) oK1 (by kernel_rfl) ?_
      intro A11 x _ _ hF hb
      refine ko hK' (hSS _ hF.ent) fun hHeld => ?_
      clear hK' K'
     rotate_left 1
    rotate_left 2
    focus
     refine plLit hF [2] 1 _ rfl rfl rfl (by decide) (by decide) oK1 (by kernel_rfl) ?_
     intro A11 x _ _ hF hb
     have hA0 := hA0.below hb hA0.lt
     refine ko hK' (hSS _ hF.ent) fun hHeld => ?_
     clear hK' K'
     refine e2 1 21 rfl rfl (fun K' hK' => ?_) fun K' hK' => ?_
     focus
      refine plConv hF rfl _ rfl A0 4 4 _ rfl hA0 hBA ?_
      intro x hF
      refine ko hK' (hSS _ hF.ent) fun hHeld => ?_
      clear hK' K'
      refine e1 21 rfl fun K' hK' => ?_
      rw [if_pos (by rfl)]
      go_simp
      go_at_call 162
      refine (plShort hF (n : Int)).mono ?_
      rintro e x ⟨A21, rfl, hF, hb⟩
      refine ko hK' (hSS _ hF.ent) fun hHeld => ?_
      clear hK' K'
     rotate_left 1
     focus
      rw [if_pos (by rfl)]
      go_simp
      go_at_call 162
      refine (plShort hF (n : Int)).mono ?_
      rintro e x ⟨A21, rfl, hF, hb⟩
      have hA0 := hA0.below hb hA0.lt
      refine ko hK' (hSS _ hF.ent) fun hHeld => ?_
      clear hK' K'
      refine e1 1 rfl fun K' hK' => ?_
      refine plConv hF rfl _ rfl A0 4 4 _ rfl hA0 hBA ?_
      intro x hF
      refine ko hK' (hSS _ hF.ent) fun hHeld => ?_
      clear hK' K'
     rotate_left 1
    rotate_left 2
    focus
     rw [if_pos (by rfl)]
     go_simp
     go_at_call 162
     refine (plShort hF (n : Int)).mono ?_
     rintro e x ⟨A21, rfl, hF, hb⟩
     have hA0 := hA0.below hb hA0.lt
     refine ko hK' (hSS _ hF.ent) fun hHeld => ?_
     clear hK' K'
     refine e2 1 11 rfl rfl (fun K' hK' => ?_) fun K' hK' => ?_
     focus
      refine plConv hF rfl _ rfl A0 4 4 _ rfl hA0 hBA ?_
      intro x hF
      refine ko hK' (hSS _ hF.ent) fun hHeld => ?_
      clear hK' K'
      refine e1 11 rfl fun K' hK' => ?_
      refine plLit hF [2] 1 _ rfl rfl rfl (by decide) (by decide) oK1 (by kernel_rfl) ?_
      intro A11 x _ _ hF hb
      refine ko hK' (hSS _ hF.ent) fun hHeld => ?_
      clear hK' K'
     rotate_left 1
     focus
      refine plLit hF [2] 1 _ rfl rfl rfl (by decide) (by decide) oK1 (by kernel_rfl) ?_
      intro A11 x _ _ hF hb
      have hA0 := hA0.below hb hA0.lt
      refine ko hK' (hSS _ hF.ent) fun hHeld => ?_
      clear hK' K'
      refine e1 1 rfl fun K' hK' => ?_
      refine plConv hF rfl _ rfl A0 4 4 _ rfl hA0 hBA ?_
      intro x hF
      refine ko hK' (hSS _ hF.ent) fun hHeld => ?_
      clear hK' K'
     rotate_left 1
    rotate_left 2
   rotate_left 6
   focus
    refine plLit hF [2] 1 _ rfl rfl rfl (by decide) (by decide) oK1 (by kernel_rfl) ?_
    intro A11 x _ _ hF hb
    have hA0 := hA0.below hb hA0.lt
    refine ko hK' (hSS _ hF.ent) fun hHeld => ?_
    clear hK' K'
    refine e2 1 7 rfl rfl (fun K' hK' => ?_) fun K' hK' => ?_
    focus
     refine plConv hF rfl _ rfl A0 4 4 _ rfl hA0 hBA ?_
     intro x hF
     refine ko hK' (hSS _ hF.ent) fun hHeld => ?_
     clear hK' K'
     refine e1 7 rfl fun K' hK' => ?_
     rw [if_pos (by rfl)]
     go_simp
     go_at_call 46
     refine (plLong hF t).mono ?_
     rintro e x ⟨A7, rfl, hF, hb⟩
     refine ko hK' (hSS _ hF.ent) fun hHeld => ?_
     clear hK' K'
     refine e1 21 rfl fun K' hK' => ?_
     rw [if_pos (by rfl)]
     go_simp
     go_at_call 162
     refine (plShort hF (n : Int)).mono ?_
     rintro e x ⟨A21, rfl, hF, hb⟩
     refine ko hK' (hSS _ hF.ent) fun hHeld => ?_
     clear hK' K'
    rotate_left 1
    focus
     rw [if_pos (by rfl)]
     go_simp
     go_at_call 46
     refine (plLong hF t).mono ?_
     rintro e x ⟨A7, rfl, hF, hb⟩
     have hA0 := hA0.below hb hA0.lt
     refine ko hK' (hSS _ hF.ent) fun hHeld => ?_
     clear hK' K'
     refine e2 1 21 rfl rfl (fun K' hK' => ?_) fun K' hK' => ?_
     focus
      refine plConv hF rfl _ rfl A0 4 4 _ rfl hA0 hBA ?_
      intro x hF
      refine ko hK' (hSS _ hF.ent) fun hHeld => ?_
      clear hK' K'
      refine e1 21 rfl fun K' hK' => ?_
      rw [if_pos (by rfl)]
      go_simp
      go_at_call 162
      refine (plShort hF (n : Int)).mono ?_
      rintro e x ⟨A21, rfl, hF, hb⟩
      refine ko hK' (hSS _ hF.ent) fun hHeld => ?_
      clear hK' K'
     rotate_left 1
     focus
      rw [if_pos (by rfl)]
      go_simp
      go_at_call 162
      refine (plShort hF (n : Int)).mono ?_
      rintro e x ⟨A21, rfl, hF, hb⟩
      have hA0 := hA0.below hb hA0.lt
      refine ko hK' (hSS _ hF.ent) fun hHeld => ?_
      clear hK' K'
      refine e1 1 rfl fun K' hK' => ?_
      refine plConv hF rfl _ rfl A0 4 4 _ rfl hA0 hBA ?_
      intro x hF
      refine ko hK' (hSS _ hF.ent) fun hHeld => ?_
      clear hK' K'
     rotate_left 1
    rotate_left 2
   rotate_left 3
  rotate_left 12
  focus
   refine plLit hF [2] 1 _ rfl rfl rfl (by decide) (by decide) oK1 (by kernel_rfl) ?_
   intro A11 x _ _ hF hb
   have hA0 := hA0.below hb hA0.lt
   refine ko hK' (hSS _ hF.ent) fun hHeld => ?_
   clear hK' K'
   refine e2 1 4 rfl rfl (fun K' hK' => ?_) fun K' hK' => ?_
   focus
    refine plConv hF rfl _ rfl A0 4 4 _ rfl hA0 hBA ?_
    intro x hF
    refine ko hK' (hSS _ hF.ent) fun hHeld => ?_
    clear hK' K'
    refine e1 4 rfl fun K' hK' => ?_
    rw [if_pos (by rfl)]
    go_simp
    go_at_call 46
    refine (plLong hF 0).mono ?_
    rintro e x ⟨A4, rfl, hF, hb⟩
    refine ko hK' (hSS _ hF.ent) fun hHeld => ?_
    clear hK' K'
    refine e1 7 rfl fun K' hK' => ?_
    rw [if_pos (by rfl)]
    go_simp
    go_at_call 46
    refine (plLong hF t).mono ?_
    rintro e x ⟨A7, rfl, hF, hb⟩
    refine ko hK' (hSS _ hF.ent) fun hHeld => ?_
    clear hK' K'
    refine e1 21 rfl fun K' hK' => ?_
    rw [if_pos (by rfl)]
    go_simp
    go_at_call 162
    refine (plShort hF (n : Int)).mono ?_
    rintro e x ⟨A21, rfl, hF, hb⟩
    refine ko hK' (hSS _ hF.ent) fun hHeld => ?_
    clear hK' K'
   rotate_left 1
   focus
    rw [if_pos (by rfl)]
    go_simp
    go_at_call 46
    refine (plLong hF 0).mono ?_
    rintro e x ⟨A4, rfl, hF, hb⟩
    have hA0 := hA0.below hb hA0.lt
    refine ko hK' (hSS _ hF.ent) fun hHeld => ?_
    clear hK' K'
    refine e2 1 7 rfl rfl (fun K' hK' => ?_) fun K' hK' => ?_
    focus
     refine plConv hF rfl _ rfl A0 4 4 _ rfl hA0 hBA ?_
     intro x hF
     refine ko hK' (hSS _ hF.ent) fun hHeld => ?_
     clear hK' K'
     refine e1 7 rfl fun K' hK' => ?_
     rw [if_pos (by rfl)]
     go_simp
     go_at_call 46
     refine (plLong hF t).mono ?_
     rintro e x ⟨A7, rfl, hF, hb⟩
     refine ko hK' (hSS _ hF.ent) fun hHeld => ?_
     clear hK' K'
     refine e1 21 rfl fun K' hK' => ?_
     rw [if_pos (by rfl)]
     go_simp
     go_at_call 162
     refine (plShort hF (n : Int)).mono ?_
     rintro e x ⟨A21, rfl, hF, hb⟩
     refine ko hK' (hSS _ hF.ent) fun hHeld => ?_
     clear hK' K'
    rotate_left 1
    focus
     rw [if_pos (by rfl)]
     go_simp
     go_at_call 46
     refine (plLong hF t).mono ?_
     rintro e x ⟨A7, rfl, hF, hb⟩
     have hA0 := hA0.below hb hA0.lt
     refine ko hK' (hSS _ hF.ent) fun hHeld => ?_
     clear hK' K'
     refine e2 1 21 rfl rfl (fun K' hK' => ?_) fun K' hK' => ?_
     focus
      refine plConv hF rfl _ rfl A0 4 4 _ rfl hA0 hBA ?_
      intro x hF
      refine ko hK' (hSS _ hF.ent) fun hHeld => ?_
      clear hK' K'
      refine e1 21 rfl fun K' hK' => ?_
      rw [if_pos (by rfl)]
      go_simp
      go_at_call 162
      refine (plShort hF (n : Int)).mono ?_
      rintro e x ⟨A21, rfl, hF, hb⟩
      refine ko hK' (hSS _ hF.ent) fun hHeld => ?_
      clear hK' K'
     rotate_left 1
     focus
      rw [if_pos (by rfl)]
      go_simp
      go_at_call 162
      refine (plShort hF (n : Int)).mono ?_
      rintro e x ⟨A21, rfl, hF, hb⟩
      have hA0 := hA0.below hb hA0.lt
      refine ko hK' (hSS _ hF.ent) fun hHeld => ?_
      clear hK' K'
      refine e1 1 rfl fun K' hK' => ?_
      refine plConv hF rfl _ rfl A0 4 4 _ rfl hA0 hBA ?_
      intro x hF
      refine ko hK' (hSS _ hF.ent) fun hHeld => ?_
      clear hK' K'
     rotate_left 1
    rotate_left 2
   rotate_left 3
  rotate_left 4
 rotate_left 20
 focus
  rw [if_pos (by rfl)]
  go_simp
  go_at_call 46
  refine (plLong hF 0).mono ?_
  rintro e x ⟨A4, rfl, hF, hb⟩
  refine ko hK' (hSS _ hF.ent) fun hHeld => ?_
  clear hK' K'
  refine e3 0 7 11 rfl rfl rfl (fun K' hK' => ?_) (fun K' hK' => ?_) fun K' hK' => ?_
  focus
   refine plLit hF [75, 87, 69, 49] 4 _ rfl rfl rfl (by decide) (by decide) oK4 (by kernel_rfl) ?_
   intro A0 x hA0 hBA hF hb
   refine ko hK' (hSS _ hF.ent) fun hHeld => ?_
   clear hK' K'
   refine e3 1 7 11 rfl rfl rfl (fun K' hK' => ?_) (fun K' hK' => ?_) fun K' hK' => ?_
   focus
    refine plConv hF rfl _ rfl A0 4 4 _ rfl hA0 hBA ?_
    intro x hF
    refine ko hK' (hSS _ hF.ent) fun hHeld => ?_
    clear hK' K'
    refine e2 7 11 rfl rfl (fun K' hK' => ?_) fun K' hK' => ?_
    focus
     rw [if_pos (by rfl)]
     go_simp
     go_at_call 46
     refine (plLong hF t).mono ?_
     rintro e x ⟨A7, rfl, hF, hb⟩
     refine ko hK' (hSS _ hF.ent) fun hHeld => ?_
     clear hK' K'
     refine e2 11 21 rfl rfl (fun K' hK' => ?_) fun K' hK' => ?_
     focus
      refine plLit hF [2] 1 _ rfl rfl rfl (by decide) (by decide) oK1 (by kernel_rfl) ?_
      intro A11 x _ _ hF hb
      refine ko hK' (hSS _ hF.ent) fun hHeld => ?_
      clear hK' K'
      refine e1 21 rfl fun K' hK' => ?_
      rw [if_pos (by rfl)]
      go_simp
      go_at_call 162
      refine (plShort hF (n : Int)).mono ?_
      rintro e x ⟨A21, rfl, hF, hb⟩
      refine ko hK' (hSS _ hF.ent) fun hHeld => ?_
      clear hK' K'
     rotate_left 1
     focus
      rw [if_pos (by rfl)]
      go_simp
      go_at_call 162
      refine (plShort hF (n : Int)).mono ?_
      rintro e x ⟨A21, rfl, hF, hb⟩
      refine ko hK' (hSS _ hF.ent) fun hHeld => ?_
      clear hK' K'
      refine e1 11 rfl fun K' hK' => ?_
      refine plLit hF [2] 1 _ rfl rfl rfl (by decide) (by decide) oK1 (by kernel_rfl) ?_
      intro A11 x _ _ hF hb
      refine ko hK' (hSS _ hF.ent) fun hHeld => ?_
      clear hK' K'
     rotate_left 1
    rotate_left 2
    focus
     refine plLit hF [2] 1 _ rfl rfl rfl (by decide) (by decide) oK1 (by kernel_rfl) ?_
     intro A11 x _ _ hF hb
     refine ko hK' (hSS _ hF.ent) fun hHeld => ?_
     clear hK' K'
     refine e1 7 rfl fun K' hK' => ?_
     rw [if_pos (by rfl)]
     go_simp
     go_at_call 46
     refine (plLong hF t).mono ?_
     rintro e x ⟨A7, rfl, hF, hb⟩
     refine ko hK' (hSS _ hF.ent) fun hHeld => ?_
     clear hK' K'
     refine e1 21 rfl fun K' hK' => ?_
     rw [if_pos (by rfl)]
     go_simp
     go_at_call 162
     refine (plShort hF (n : Int)).mono ?_
     rintro e x ⟨A21, rfl, hF, hb⟩
     refine ko hK' (hSS _ hF.ent) fun hHeld => ?_
     clear hK' K'
    rotate_left 1
   rotate_left 3
   focus
    rw [if_pos (by rfl)]
    go_simp
    go_at_call 46
    refine (plLong hF t).mono ?_
    rintro e x ⟨A7, rfl, hF, hb⟩
    have hA0 := hA0.below hb hA0.lt
    refine ko hK' (hSS _ hF.ent) fun hHeld => ?_
    clear hK' K'
    refine e3 1 11 21 rfl rfl rfl (fun K' hK' => ?_) (fun K' hK' => ?_) fun K' hK' => ?_
    focus
     refine plConv hF rfl _ rfl A0 4 4 _ rfl hA0 hBA ?_
     intro x hF
     refine ko hK' (hSS _ hF.ent) fun hHeld => ?_
     clear hK' K'
     refine e2 11 21 rfl rfl (fun K' hK' => ?_) fun K' hK' => ?_
     focus
      refine plLit hF [2] 1 _ rfl rfl rfl (by decide) (by decide) oK1 (by kernel_rfl) ?_
      intro A11 x _ _ hF hb
      refine ko hK' (hSS _ hF.ent) fun hHeld => ?_
      clear hK' K'
      refine e1 21 rfl fun K' hK' => ?_
      rw [if_pos (by rfl)]
      go_simp
      go_at_call 162
      refine (plShort hF (n : Int)).mono ?_
      rintro e x ⟨A21, rfl, hF, hb⟩
      refine ko hK' (hSS _ hF.ent) fun hHeld => ?_
      clear hK' K'
     rotate_left 1
     focus
      rw [if_pos (by rfl)]
      go_simp
      go_at_call 162
      refine (plShort hF (n : Int)).mono ?_
      rintro e x ⟨A21, rfl, hF, hb⟩
      refine ko hK' (hSS _ hF.ent) fun hHeld => ?_
      clear hK' K'
      refine e1 11 rfl fun K' hK' => ?_
      refine plLit hF [2] 1 _ rfl rfl rfl (by decide) (by decide) oK1 (by kernel_rfl) ?_
      intro A11 x _ _ hF hb
      refine ko hK' (hSS _ hF.ent) fun hHeld => ?_
      clear hK' K'
     rotate_left 1
    rotate_left 2
    focus
     refine plLit hF [2] 1 _ rfl rfl rfl (by decide) (by decide) oK1 (by kernel_rfl) ?_
     intro A11 x _ _ hF hb
     have hA0 := hA0.below hb hA0.lt
     refine ko hK' (hSS _ hF.ent) fun hHeld => ?_
     clear hK' K'
     refine e2 1 21 rfl rfl (fun K' hK' => ?_) fun K' hK' => ?_
     focus
      refine plConv hF rfl _ rfl A0 4 4 _ rfl hA0 hBA ?_
      intro x hF
      refine ko hK' (hSS _ hF.ent) fun hHeld => ?_
      clear hK' K'
      refine e1 21 rfl fun K' hK' => ?_
      rw [if_pos (by rfl)]
      go_simp
      go_at_call 162
      refine (plShort hF (n : Int)).mono ?_
      rintro e x ⟨A21, rfl, hF, hb⟩
      refine ko hK' (hSS _ hF.ent) fun hHeld => ?_
      clear hK' K'
     rotate_left 1
     focus
      rw [if_pos (by rfl)]
      go_simp
      go_at_call 162
      refine (plShort hF (n : Int)).mono ?_
      rintro e x ⟨A21, rfl, hF, hb⟩
      have hA0 := hA0.below hb hA0.lt
      refine ko hK' (hSS _ hF.ent) fun hHeld => ?_
      clear hK' K'
      refine e1 1 rfl fun K' hK' => ?_
      refine plConv hF rfl _ rfl A0 4 4 _ rfl hA0 hBA ?_
      intro x hF
      refine ko hK' (hSS _ hF.ent) fun hHeld => ?_
      clear hK' K'
     rotate_left 1
    rotate_left 2
    focus
     rw [if_pos (by rfl)]
     go_simp
     go_at_call 162
     refine (plShort hF (n : Int)).mono ?_
     rintro e x ⟨A21, rfl, hF, hb⟩
     have hA0 := hA0.below hb hA0.lt
     refine ko hK' (hSS _ hF.ent) fun hHeld => ?_
     clear hK' K'
     refine e2 1 11 rfl rfl (fun K' hK' => ?_) fun K' hK' => ?_
     focus
      refine plConv hF rfl _ rfl A0 4 4 _ rfl hA0 hBA ?_
      intro x hF
      refine ko hK' (hSS _ hF.ent) fun hHeld => ?_
      clear hK' K'
      refine e1 11 rfl fun K' hK' => ?_
      refine plLit hF [2] 1 _ rfl rfl rfl (by decide) (by decide) oK1 (by kernel_rfl) ?_
      intro A11 x _ _ hF hb
      refine ko hK' (hSS _ hF.ent) fun hHeld => ?_
      clear hK' K'
     rotate_left 1
     focus
      refine plLit hF [2] 1 _ rfl rfl rfl (by decide) (by decide) oK1 (by kernel_rfl) ?_
      intro A11 x _ _ hF hb
      have hA0 := hA0.below hb hA0.lt
      refine ko hK' (hSS _ hF.ent) fun hHeld => ?_
      clear hK' K'
      refine e1 1 rfl fun K' hK' => ?_
      refine plConv hF rfl _ rfl A0 4 4 _ rfl hA0 hBA ?_
      intro x hF
      refine ko hK' (hSS _ hF.ent) fun hHeld => ?_
      clear hK' K'
     rotate_left 1
    rotate_left 2
   rotate_left 6
   focus
    refine plLit hF [2] 1 _ rfl rfl rfl (by decide) (by decide) oK1 (by kernel_rfl) ?_
    intro A11 x _ _ hF hb
    have hA0 := hA0.below hb hA0.lt
    refine ko hK' (hSS _ hF.ent) fun hHeld => ?_
    clear hK' K'
    refine e2 1 7 rfl rfl (fun K' hK' => ?_) fun K' hK' => ?_
    focus
     refine plConv hF rfl _ rfl A0 4 4 _ rfl hA0 hBA ?_
     intro x hF
     refine ko hK' (hSS _ hF.ent) fun hHeld => ?_
     clear hK' K'
     refine e1 7 rfl fun K' hK' => ?_
     rw [if_pos (by rfl)]
     go_simp
     go_at_call 46
     refine (plLong hF t).mono ?_
     rintro e x ⟨A7, rfl, hF, hb⟩
     refine ko hK' (hSS _ hF.ent) fun hHeld => ?_
     clear hK' K'
     refine e1 21 rfl fun K' hK' => ?_
     rw [if_pos (by rfl)]
     go_simp
     go_at_call 162
     refine (plShort hF (n : Int)).mono ?_
     rintro e x ⟨A21, rfl, hF, hb⟩
     refine ko hK' (hSS _ hF.ent) fun hHeld => ?_
     clear hK' K'
    rotate_left 1
    focus
     rw [if_pos (by rfl)]
     go_simp
     go_at_call 46
     refine (plLong hF t).mono ?_
     rintro e x ⟨A7, rfl, hF, hb⟩
     have hA0 := hA0.below hb hA0.lt
     refine ko hK' (hSS _ hF.ent) fun hHeld => ?_
     clear hK' K'
     refine e2 1 21 rfl rfl (fun K' hK' => ?_) fun K' hK' => ?_
     focus
      refine plConv hF rfl _ rfl A0 4 4 _ rfl hA0 hBA ?_
      intro x hF
      refine ko hK' (hSS _ hF.ent) fun hHeld => ?_
      clear hK' K'
      refine e1 21 rfl fun K' hK' => ?_
      rw [if_pos (by rfl)]
      go_simp
      go_at_call 162
      refine (plShort hF (n : Int)).mono ?_
      rintro e x ⟨A21, rfl, hF, hb⟩
      refine ko hK' (hSS _ hF.ent) fun hHeld => ?_
      clear hK' K'
     rotate_left 1
     focus
      rw [if_pos (by rfl)]
      go_simp
      go_at_call 162
      refine (plShort hF (n : Int)).mono ?_
      rintro e x ⟨A21, rfl, hF, hb⟩
      have hA0 := hA0.below hb hA0.lt
      refine ko hK' (hSS _ hF.ent) fun hHeld => ?_
      clear hK' K'
      refine e1 1 rfl fun K' hK' => ?_
      refine plConv hF rfl _ rfl A0 4 4 _ rfl hA0 hBA ?_
      intro x hF
      refine ko hK' (hSS _ hF.ent) fun hHeld => ?_
      clear hK' K'
     rotate_left 1
    rotate_left 2
   rotate_left 3
  rotate_left 12
  focus
   rw [if_pos (by rfl)]
   go_simp
   go_at_call 46
   refine (plLong hF t).mono ?_
   rintro e x ⟨A7, rfl, hF, hb⟩
   refine ko hK' (hSS _ hF.ent) fun hHeld => ?_
   clear hK' K'
   refine e3 0 11 21 rfl rfl rfl (fun K' hK' => ?_) (fun K' hK' => ?_) fun K' hK' => ?_
   focus
    refine plLit hF [75, 87, 69, 49] 4 _ rfl rfl rfl (by decide) (by decide) oK4 (by kernel_rfl) ?_
    intro A0 x hA0 hBA hF hb
    refine ko hK' (hSS _ hF.ent) fun hHeld => ?_
    clear hK' K'
    refine e3 1 11 21 rfl rfl rfl (fun K' hK' => ?_) (fun K' hK' => ?_) fun K' hK' => ?_
    focus
     refine plConv hF rfl _ rfl A0 4 4 _ rfl hA0 hBA ?_
     intro x hF
     refine ko hK' (hSS _ hF.ent) fun hHeld => ?_
     clear hK' K'
     refine e2 11 21 rfl rfl (fun K' hK' => ?_) fun K' hK' => ?_
     focus
      refine plLit hF [2] 1 _ rfl rfl rfl (by decide) (by decide) oK1 (by kernel_rfl) ?_
      intro A11 x _ _ hF hb
      refine ko hK' (hSS _ hF.ent) fun hHeld => ?_
      clear hK' K'
      refine e1 21 rfl fun K' hK' => ?_
      rw [if_pos (by rfl)]
      go_simp
      go_at_call 162
      refine (plShort hF (n : Int)).mono ?_
      rintro e x ⟨A21, rfl, hF, hb⟩
      refine ko hK' (hSS _ hF.ent) fun hHeld => ?_
      clear hK' K'
     rotate_left 1
     focus
      rw [if_pos (by rfl)]
      go_simp
      go_at_call 162
      refine (plShort hF (n : Int)).mono ?_
      rintro e x ⟨A21, rfl, hF, hb⟩
      refine ko hK' (hSS _ hF.ent) fun hHeld => ?_
      clear hK' K'
      refine e1 11 rfl fun K' hK' => ?_
      refine plLit hF [2] 1 _ rfl rfl rfl (by decide) (by decide) oK1 (by kernel_rfl) ?_
      intro A11 x _ _ hF hb
      refine ko hK' (hSS _ hF.ent) fun hHeld => ?_
      clear hK' K'
     rotate_left 1
    rotate_left 2
    focus
     refine plLit hF [2] 1 _ rfl rfl rfl (by decide) (by decide) oK1 (by kernel_rfl) ?_
     intro A11 x _ _ hF hb
     have hA0 := hA0.below hb hA0.lt
     refine ko hK' (hSS _ hF.ent) fun hHeld => ?_
     clear hK' K'
     refine e2 1 21 rfl rfl (fun K' hK' => ?_) fun K' hK' => ?_
     focus
      refine plConv hF rfl _ rfl A0 4 4 _ rfl hA0 hBA ?_
      intro x hF
      refine ko hK' (hSS _ hF.ent) fun hHeld => ?_
      clear hK' K'
      refine e1 21 rfl fun K' hK' => ?_
      rw [if_pos (by rfl)]
      go_simp
      go_at_call 162
      refine (plShort hF (n : Int)).mono ?_
      rintro e x ⟨A21, rfl, hF, hb⟩
      refine ko hK' (hSS _ hF.ent) fun hHeld => ?_
      clear hK' K'
     rotate_left 1
     focus
      rw [if_pos (by rfl)]
      go_simp
      go_at_call 162
      refine (plShort hF (n : Int)).mono ?_
      rintro e x ⟨A21, rfl, hF, hb⟩
      have hA0 := hA0.below hb hA0.lt
      refine ko hK' (hSS _ hF.ent) fun hHeld => ?_
      clear hK' K'
      refine e1 1 rfl fun K' hK' => ?_
      refine plConv hF rfl _ rfl A0 4 4 _ rfl hA0 hBA ?_
      intro x hF
      refine ko hK' (hSS _ hF.ent) fun hHeld => ?_
      clear hK' K'
     rotate_left 1
    rotate_left 2
    focus
     rw [if_pos (by rfl)]
     go_simp
     go_at_call 162
     refine (plShort hF (n : Int)).mono ?_
     rintro e x ⟨A21, rfl, hF, hb⟩
     have hA0 := hA0.below hb hA0.lt
     refine ko hK' (hSS _ hF.ent) fun hHeld => ?_
     clear hK' K'
     refine e2 1 11 rfl rfl (fun K' hK' => ?_) fun K' hK' => ?_
     focus
      refine plConv hF rfl _ rfl A0 4 4 _ rfl hA0 hBA ?_
      intro x hF
      refine ko hK' (hSS _ hF.ent) fun hHeld => ?_
      clear hK' K'
      refine e1 11 rfl fun K' hK' => ?_
      refine plLit hF [2] 1 _ rfl rfl rfl (by decide) (by decide) oK1 (by kernel_rfl) ?_
      intro A11 x _ _ hF hb
      refine ko hK' (hSS _ hF.ent) fun hHeld => ?_
      clear hK' K'
     rotate_left 1
     focus
      refine plLit hF [2] 1 _ rfl rfl rfl (by decide) (by decide) oK1 (by kernel_rfl) ?_
      intro A11 x _ _ hF hb
      have hA0 := hA0.below hb hA0.lt
      refine ko hK' (hSS _ hF.ent) fun hHeld => ?_
      clear hK' K'
      refine e1 1 rfl fun K' hK' => ?_
      refine plConv hF rfl _ rfl A0 4 4 _ rfl hA0 hBA ?_
      intro x hF
      refine ko hK' (hSS _ hF.ent) fun hHeld => ?_
      clear hK' K'
     rotate_left 1
    rotate_left 2
   rotate_left 6
   focus
    refine plLit hF [2] 1 _ rfl rfl rfl (by decide) (by decide) oK1 (by kernel_rfl) ?_
    intro A11 x _ _ hF hb
    refine ko hK' (hSS _ hF.ent) fun hHeld => ?_
    clear hK' K'
    refine e2 0 21 rfl rfl (fun K' hK' => ?_) fun K' hK' => ?_
    focus
     refine plLit hF [75, 87, 69, 49] 4 _ rfl rfl rfl (by decide) (by decide) oK4 (by kernel_rfl) ?_
     intro A0 x hA0 hBA hF hb
     refine ko hK' (hSS _ hF.ent) fun hHeld => ?_
     clear hK' K'
     refine e2 1 21 rfl rfl (fun K' hK' => ?_) fun K' hK' => ?_
     focus
      refine plConv hF rfl _ rfl A0 4 4 _ rfl hA0 hBA ?_
      intro x hF
      refine ko hK' (hSS _ hF.ent) fun hHeld => ?_
      clear hK' K'
      refine e1 21 rfl fun K' hK' => ?_
      rw [if_pos (by rfl)]
      go_simp
      go_at_call 162
      refine (plShort hF (n : Int)).mono ?_
      rintro e x ⟨A21, rfl, hF, hb⟩
      refine ko hK' (hSS _ hF.ent) fun hHeld => ?_
      clear hK' K'
     rotate_left 1
     focus
      rw [if_pos (by rfl)]
      go_simp
      go_at_call 162
      refine (plShort hF (n : Int)).mono ?_
      rintro e x ⟨A21, rfl, hF, hb⟩
      have hA0 := hA0.below hb hA0.lt
      refine ko hK' (hSS _ hF.ent) fun hHeld => ?_
      clear hK' K'
      refine e1 1 rfl fun K' hK' => ?_
      refine plConv hF rfl _ rfl A0 4 4 _ rfl hA0 hBA ?_
      intro x hF
      refine ko hK' (hSS _ hF.ent) fun hHeld => ?_
      clear hK' K'
     rotate_left 1
    rotate_left 2
    focus
     rw [if_pos (by rfl)]
     go_simp
     go_at_call 162
     refine (plShort hF (n : Int)).mono ?_
     rintro e x ⟨A21, rfl, hF, hb⟩
     refine ko hK' (hSS _ hF.ent) fun hHeld => ?_
     clear hK' K'
     refine e1 0 rfl fun K' hK' => ?_
     refine plLit hF [75, 87, 69, 49] 4 _ rfl rfl rfl (by decide) (by decide) oK4 (by kernel_rfl) ?_
     intro A0 x hA0 hBA hF hb
     refine ko hK' (hSS _ hF.ent) fun hHeld => ?_
     clear hK' K'
     refine e1 1 rfl fun K' hK' => ?_
     refine plConv hF rfl _ rfl A0 4 4 _ rfl hA0 hBA ?_
     intro x hF
     refine ko hK' (hSS _ hF.ent) fun hHeld => ?_
     clear hK' K'
    rotate_left 1
   rotate_left 3
   focus
    rw [if_pos (by rfl)]
    go_simp
    go_at_call 162
    refine (plShort hF (n : Int)).mono ?_
    rintro e x ⟨A21, rfl, hF, hb⟩
    refine ko hK' (hSS _ hF.ent) fun hHeld => ?_
    clear hK' K'
    refine e2 0 11 rfl rfl (fun K' hK' => ?_) fun K' hK' => ?_
    focus
     refine plLit hF [75, 87, 69, 49] 4 _ rfl rfl rfl (by decide) (by decide) oK4 (by kernel_rfl) ?_
     intro A0 x hA0 hBA hF hb
     refine ko hK' (hSS _ hF.ent) fun hHeld => ?_
     clear hK' K'
     refine e2 1 11 rfl rfl (fun K' hK' => ?_) fun K' hK' => ?_
     focus
      refine plConv hF rfl _ rfl A0 4 4 _ rfl hA0 hBA ?_
      intro x hF
      refine ko hK' (hSS _ hF.ent) fun hHeld => ?_
      clear hK' K'
      refine e1 11 rfl fun K' hK' => ?_
      refine plLit hF [2] 1 _ rfl rfl rfl (by decide) (by decide) oK1 (by kernel_rfl) ?_
      intro A11 x _ _ hF hb
      refine ko hK' (hSS _ hF.ent) fun hHeld => ?_
      clear hK' K'
     rotate_left 1
     focus
      refine plLit hF [2] 1 _ rfl rfl rfl (by decide) (by decide) oK1 (by kernel_rfl) ?_
      intro A11 x _ _ hF hb
      have hA0 := hA0.below hb hA0.lt
      refine ko hK' (hSS _ hF.ent) fun hHeld => ?_
      clear hK' K'
      refine e1 1 rfl fun K' hK' => ?_
      refine plConv hF rfl _ rfl A0 4 4 _ rfl hA0 hBA ?_
      intro x hF
      refine ko hK' (hSS _ hF.ent) fun hHeld => ?_
      clear hK' K'
     rotate_left 1
    rotate_left 2
    focus
     refine plLit hF [2] 1 _ rfl rfl rfl (by decide) (by decide) oK1 (by kernel_rfl) ?_
     intro A11 x _ _ hF hb
     refine ko hK' (hSS _ hF.ent) fun hHeld => ?_
     clear hK' K'
     refine e1 0 rfl fun K' hK' => ?_
     refine plLit hF [75, 87, 69, 49] 4 _ rfl rfl rfl (by decide) (by decide) oK4 (by kernel_rfl) ?_
     intro A0 x hA0 hBA hF hb
     refine ko hK' (hSS _ hF.ent) fun hHeld => ?_
     clear hK' K'
     refine e1 1 rfl fun K' hK' => ?_
     refine plConv hF rfl _ rfl A0 4 4 _ rfl hA0 hBA ?_
     intro x hF
     refine ko hK' (hSS _ hF.ent) fun hHeld => ?_
     clear hK' K'
    rotate_left 1
   rotate_left 3
  rotate_left 12
  focus
   refine plLit hF [2] 1 _ rfl rfl rfl (by decide) (by decide) oK1 (by kernel_rfl) ?_
   intro A11 x _ _ hF hb
   refine ko hK' (hSS _ hF.ent) fun hHeld => ?_
   clear hK' K'
   refine e2 0 7 rfl rfl (fun K' hK' => ?_) fun K' hK' => ?_
   focus
    refine plLit hF [75, 87, 69, 49] 4 _ rfl rfl rfl (by decide) (by decide) oK4 (by kernel_rfl) ?_
    intro A0 x hA0 hBA hF hb
    refine ko hK' (hSS _ hF.ent) fun hHeld => ?_
    clear hK' K'
    refine e2 1 7 rfl rfl (fun K' hK' => ?_) fun K' hK' => ?_
    focus
     refine plConv hF rfl _ rfl A0 4 4 _ rfl hA0 hBA ?_
     intro x hF
     refine ko hK' (hSS _ hF.ent) fun hHeld => ?_
     clear hK' K'
     refine e1 7 rfl fun K' hK' => ?_
     rw [if_pos (by rfl)]
     go_simp
     go_at_call 46
     refine (plLong hF t).mono ?_
     rintro e x ⟨A7, rfl, hF, hb⟩
     refine ko hK' (hSS _ hF.ent) fun hHeld => ?_
     clear hK' K'
     refine e1 21 rfl fun K' hK' => ?_
     rw [if_pos (by rfl)]
     go_simp
     go_at_call 162
     refine (plShort hF (n : Int)).mono ?_
     rintro e x ⟨A21, rfl, hF, hb⟩
     refine ko hK' (hSS _ hF.ent) fun hHeld => ?_
     clear hK' K'
    rotate_left 1
    focus
     rw [if_pos (by rfl)]
     go_simp
     go_at_call 46
     refine (plLong hF t).mono ?_
     rintro e x ⟨A7, rfl, hF, hb⟩
     have hA0 := hA0.below hb hA0.lt
     refine ko hK' (hSS _ hF.ent) fun hHeld => ?_
     clear hK' K'
     refine e2 1 21 rfl rfl (fun K' hK' => ?_) fun K' hK' => ?_
     focus
      refine plConv hF rfl _ rfl A0 4 4 _ rfl hA0 hBA ?_
      intro x hF
      refine ko hK' (hSS _ hF.ent) fun hHeld => ?_
      clear hK' K'
      refine e1 21 rfl fun K' hK' => ?_
      rw [if_pos (by rfl)]
      go_simp
      go_at_call 162
      refine (plShort hF (n : Int)).mono ?_
      rintro e x ⟨A21, rfl, hF, hb⟩
      refine ko hK' (hSS _ hF.ent) fun hHeld => ?_
      clear hK' K'
     rotate_left 1
     focus
      rw [if_pos (by rfl)]
      go_simp
      go_at_call 162
      refine (plShort hF (n : Int)).mono ?_
      rintro e x ⟨A21, rfl, hF, hb⟩
      have hA0 := hA0.below hb hA0.lt
      refine ko hK' (hSS _ hF.ent) fun hHeld => ?_
      clear hK' K'
      refine e1 1 rfl fun K' hK' => ?_
      refine plConv hF rfl _ rfl A0 4 4 _ rfl hA0 hBA ?_
      intro x hF
      refine ko hK' (hSS _ hF.ent) fun hHeld => ?_
      clear hK' K'
     rotate_left 1
    rotate_left 2
   rotate_left 3
   focus
    rw [if_pos (by rfl)]
    go_simp
    go_at_call 46
    refine (plLong hF t).mono ?_
    rintro e x ⟨A7, rfl, hF, hb⟩
    refine ko hK' (hSS _ hF.ent) fun hHeld => ?_
    clear hK' K'
    refine e2 0 21 rfl rfl (fun K' hK' => ?_) fun K' hK' => ?_
    focus
     refine plLit hF [75, 87, 69, 49] 4 _ rfl rfl rfl (by decide) (by decide) oK4 (by kernel_rfl) ?_
     intro A0 x hA0 hBA hF hb
     refine ko hK' (hSS _ hF.ent) fun hHeld => ?_
     clear hK' K'
     refine e2 1 21 rfl rfl (fun K' hK' => ?_) fun K' hK' => ?_
     focus
      refine plConv hF rfl _ rfl A0 4 4 _ rfl hA0 hBA ?_
      intro x hF
      refine ko hK' (hSS _ hF.ent) fun hHeld => ?_
      clear hK' K'
      refine e1 21 rfl fun K' hK' => ?_
      rw [if_pos (by rfl)]
      go_simp
      go_at_call 162
      refine (plShort hF (n : Int)).mono ?_
      rintro e x ⟨A21, rfl, hF, hb⟩
      refine ko hK' (hSS _ hF.ent) fun hHeld => ?_
      clear hK' K'
     rotate_left 1
     focus
      rw [if_pos (by rfl)]
      go_simp
      go_at_call 162
      refine (plShort hF (n : Int)).mono ?_
      rintro e x ⟨A21, rfl, hF, hb⟩
      have hA0 := hA0.below hb hA0.lt
      refine ko hK' (hSS _ hF.ent) fun hHeld => ?_
      clear hK' K'
      refine e1 1 rfl fun K' hK' => ?_
      refine plConv hF rfl _ rfl A0 4 4 _ rfl hA0 hBA ?_
      intro x hF
      refine ko hK' (hSS _ hF.ent) fun hHeld => ?_
      clear hK' K'
     rotate_left 1
    rotate_left 2
    focus
     rw [if_pos (by rfl)]
     go_simp
     go_at_call 162
     refine (plShort hF (n : Int)).mono ?_
     rintro e x ⟨A21, rfl, hF, hb⟩
     refine ko hK' (hSS _ hF.ent) fun hHeld => ?_
     clear hK' K'
     refine e1 0 rfl fun K' hK' => ?_
     refine plLit hF [75, 87, 69, 49] 4 _ rfl rfl rfl (by decide) (by decide) oK4 (by kernel_rfl) ?_
     intro A0 x hA0 hBA hF hb
     refine ko hK' (hSS _ hF.ent) fun hHeld => ?_
     clear hK' K'
     refine e1 1 rfl fun K' hK' => ?_
     refine plConv hF rfl _ rfl A0 4 4 _ rfl hA0 hBA ?_
     intro x hF
     refine ko hK' (hSS _ hF.ent) fun hHeld => ?_
     clear hK' K'
    rotate_left 1
   rotate_left 3
  rotate_left 6
 rotate_left 30
 focus
  refine plLit hF [2] 1 _ rfl rfl rfl (by decide) (by decide) oK1 (by kernel_rfl) ?_
  intro A11 x _ _ hF hb
  refine ko hK' (hSS _ hF.ent) fun hHeld => ?_
  clear hK' K'
  refine e2 0 4 rfl rfl (fun K' hK' => ?_) fun K' hK' => ?_
  focus
   refine plLit hF [75, 87, 69, 49] 4 _ rfl rfl rfl (by decide) (by decide) oK4 (by kernel_rfl) ?_
   intro A0 x hA0 hBA hF hb
   refine ko hK' (hSS _ hF.ent) fun hHeld => ?_
   clear hK' K'
   refine e2 1 4 rfl rfl (fun K' hK' => ?_) fun K' hK' => ?_
   focus
    refine plConv hF rfl _ rfl A0 4 4 _ rfl hA0 hBA ?_
    intro x hF
    refine ko hK' (hSS _ hF.ent) fun hHeld => ?_
    clear hK' K'
    refine e1 4 rfl fun K' hK' => ?_
    rw [if_pos (by rfl)]
    go_simp
    go_at_call 46
    refine (plLong hF 0).mono ?_
    rintro e x ⟨A4, rfl, hF, hb⟩
    refine ko hK' (hSS _ hF.ent) fun hHeld => ?_
    clear hK' K'
    refine e1 7 rfl fun K' hK' => ?_
    rw [if_pos (by rfl)]
    go_simp
    go_at_call 46
    refine (plLong hF t).mono ?_
    rintro e x ⟨A7, rfl, hF, hb⟩
    refine ko hK' (hSS _ hF.ent) fun hHeld => ?_
    clear hK' K'
    refine e1 21 rfl fun K' hK' => ?_
    rw [if_pos (by rfl)]
    go_simp
    go_at_call 162
    refine (plShort hF (n : Int)).mono ?_
    rintro e x ⟨A21, rfl, hF, hb⟩
    refine ko hK' (hSS _ hF.ent) fun hHeld => ?_
    clear hK' K'
   rotate_left 1
   focus
    rw [if_pos (by rfl)]
    go_simp
    go_at_call 46
    refine (plLong hF 0).mono ?_
    rintro e x ⟨A4, rfl, hF, hb⟩
    have hA0 := hA0.below hb hA0.lt
    refine ko hK' (hSS _ hF.ent) fun hHeld => ?_
    clear hK' K'
    refine e2 1 7 rfl rfl (fun K' hK' => ?_) fun K' hK' => ?_
    focus
     refine plConv hF rfl _ rfl A0 4 4 _ rfl hA0 hBA ?_
     intro x hF
     refine ko hK' (hSS _ hF.ent) fun hHeld => ?_
     clear hK' K'
     refine e1 7 rfl fun K' hK' => ?_
     rw [if_pos (by rfl)]
     go_simp
     go_at_call 46
     refine (plLong hF t).mono ?_
     rintro e x ⟨A7, rfl, hF, hb⟩
     refine ko hK' (hSS _ hF.ent) fun hHeld => ?_
     clear hK' K'
     refine e1 21 rfl fun K' hK' => ?_
     rw [if_pos (by rfl)]
     go_simp
     go_at_call 162
     refine (plShort hF (n : Int)).mono ?_
     rintro e x ⟨A21, rfl, hF, hb⟩
     refine ko hK' (hSS _ hF.ent) fun hHeld => ?_
     clear hK' K'
    rotate_left 1
    focus
     rw [if_pos (by rfl)]
     go_simp
     go_at_call 46
     refine (plLong hF t).mono ?_
     rintro e x ⟨A7, rfl, hF, hb⟩
     have hA0 := hA0.below hb hA0.lt
     refine ko hK' (hSS _ hF.ent) fun hHeld => ?_
     clear hK' K'
     refine e2 1 21 rfl rfl (fun K' hK' => ?_) fun K' hK' => ?_
     focus
      refine plConv hF rfl _ rfl A0 4 4 _ rfl hA0 hBA ?_
      intro x hF
      refine ko hK' (hSS _ hF.ent) fun hHeld => ?_
      clear hK' K'
      refine e1 21 rfl fun K' hK' => ?_
      rw [if_pos (by rfl)]
      go_simp
      go_at_call 162
      refine (plShort hF (n : Int)).mono ?_
      rintro e x ⟨A21, rfl, hF, hb⟩
      refine ko hK' (hSS _ hF.ent) fun hHeld => ?_
      clear hK' K'
     rotate_left 1
     focus
      rw [if_pos (by rfl)]
      go_simp
      go_at_call 162
      refine (plShort hF (n : Int)).mono ?_
      rintro e x ⟨A21, rfl, hF, hb⟩
      have hA0 := hA0.below hb hA0.lt
      refine ko hK' (hSS _ hF.ent) fun hHeld => ?_
      clear hK' K'
      refine e1 1 rfl fun K' hK' => ?_
      refine plConv hF rfl _ rfl A0 4 4 _ rfl hA0 hBA ?_
      intro x hF
      refine ko hK' (hSS _ hF.ent) fun hHeld => ?_
      clear hK' K'
     rotate_left 1
    rotate_left 2
   rotate_left 3
  rotate_left 4
  focus
   rw [if_pos (by rfl)]
   go_simp
   go_at_call 46
   refine (plLong hF 0).mono ?_
   rintro e x ⟨A4, rfl, hF, hb⟩
   refine ko hK' (hSS _ hF.ent) fun hHeld => ?_
   clear hK' K'
   refine e2 0 7 rfl rfl (fun K' hK' => ?_) fun K' hK' => ?_
   focus
    refine plLit hF [75, 87, 69, 49] 4 _ rfl rfl rfl (by decide) (by decide) oK4 (by kernel_rfl) ?_
    intro A0 x hA0 hBA hF hb
    refine ko hK' (hSS _ hF.ent) fun hHeld => ?_
    clear hK' K'
    refine e2 1 7 rfl rfl (fun K' hK' => ?_) fun K' hK' => ?_
    focus
     refine plConv hF rfl _ rfl A0 4 4 _ rfl hA0 hBA ?_
     intro x hF
     refine ko hK' (hSS _ hF.ent) fun hHeld => ?_
     clear hK' K'
     refine e1 7 rfl fun K' hK' => ?_
     rw [if_pos (by rfl)]
     go_simp
     go_at_call 46
     refine (plLong hF t).mono ?_
     rintro e x ⟨A7, rfl, hF, hb⟩
     refine ko hK' (hSS _ hF.ent) fun hHeld => ?_
     clear hK' K'
     refine e1 21 rfl fun K' hK' => ?_
     rw [if_pos (by rfl)]
     go_simp
     go_at_call 162
     refine (plShort hF (n : Int)).mono ?_
     rintro e x ⟨A21, rfl, hF, hb⟩
     refine ko hK' (hSS _ hF.ent) fun hHeld => ?_
     clear hK' K'
    rotate_left 1
    focus
     rw [if_pos (by rfl)]
     go_simp
     go_at_call 46
     refine (plLong hF t).mono ?_
     rintro e x ⟨A7, rfl, hF, hb⟩
     have hA0 := hA0.below hb hA0.lt
     refine ko hK' (hSS _ hF.ent) fun hHeld => ?_
     clear hK' K'
     refine e2 1 21 rfl rfl (fun K' hK' => ?_) fun K' hK' => ?_
     focus
      refine plConv hF rfl _ rfl A0 4 4 _ rfl hA0 hBA ?_
      intro x hF
      refine ko hK' (hSS _ hF.ent) fun hHeld => ?_
      clear hK' K'
      refine e1 21 rfl fun K' hK' => ?_
      rw [if_pos (by rfl)]
      go_simp
      go_at_call 162
      refine (plShort hF (n : Int)).mono ?_
      rintro e x ⟨A21, rfl, hF, hb⟩
      refine ko hK' (hSS _ hF.ent) fun hHeld => ?_
      clear hK' K'
     rotate_left 1
     focus
      rw [if_pos (by rfl)]
      go_simp
      go_at_call 162
      refine (plShort hF (n : Int)).mono ?_
      rintro e x ⟨A21, rfl, hF, hb⟩
      have hA0 := hA0.below hb hA0.lt
      refine ko hK' (hSS _ hF.ent) fun hHeld => ?_
      clear hK' K'
      refine e1 1 rfl fun K' hK' => ?_
      refine plConv hF rfl _ rfl A0 4 4 _ rfl hA0 hBA ?_
      intro x hF
      refine ko hK' (hSS _ hF.ent) fun hHeld => ?_
      clear hK' K'
     rotate_left 1
    rotate_left 2
   rotate_left 3
   focus
    rw [if_pos (by rfl)]
    go_simp
    go_at_call 46
    refine (plLong hF t).mono ?_
    rintro e x ⟨A7, rfl, hF, hb⟩
    refine ko hK' (hSS _ hF.ent) fun hHeld => ?_
    clear hK' K'
    refine e2 0 21 rfl rfl (fun K' hK' => ?_) fun K' hK' => ?_
    focus
     refine plLit hF [75, 87, 69, 49] 4 _ rfl rfl rfl (by decide) (by decide) oK4 (by kernel_rfl) ?_
     intro A0 x hA0 hBA hF hb
     refine ko hK' (hSS _ hF.ent) fun hHeld => ?_
     clear hK' K'
     refine e2 1 21 rfl rfl (fun K' hK' => ?_) fun K' hK' => ?_
     focus
      refine plConv hF rfl _ rfl A0 4 4 _ rfl hA0 hBA ?_
      intro x hF
      refine ko hK' (hSS _ hF.ent) fun hHeld => ?_
      clear hK' K'
      refine e1 21 rfl fun K' hK' => ?_
      rw [if_pos (by rfl)]
      go_simp
      go_at_call 162
      refine (plShort hF (n : Int)).mono ?_
      rintro e x ⟨A21, rfl, hF, hb⟩
      refine ko hK' (hSS _ hF.ent) fun hHeld => ?_
      clear hK' K'
     rotate_left 1
     focus
      rw [if_pos (by rfl)]
      go_simp
      go_at_call 162
      refine (plShort hF (n : Int)).mono ?_
      rintro e x ⟨A21, rfl, hF, hb⟩
      have hA0 := hA0.below hb hA0.lt
      refine ko hK' (hSS _ hF.ent) fun hHeld => ?_
      clear hK' K'
      refine e1 1 rfl fun K' hK' => ?_
      refine plConv hF rfl _ rfl A0 4 4 _ rfl hA0 hBA ?_
      intro x hF
      refine ko hK' (hSS _ hF.ent) fun hHeld => ?_
      clear hK' K'
     rotate_left 1
    rotate_left 2
    focus
     rw [if_pos (by rfl)]
     go_simp
     go_at_call 162
     refine (plShort hF (n : Int)).mono ?_
     rintro e x ⟨A21, rfl, hF, hb⟩
     refine ko hK' (hSS _ hF.ent) fun hHeld => ?_
     clear hK' K'
     refine e1 0 rfl fun K' hK' => ?_
     refine plLit hF [75, 87, 69, 49] 4 _ rfl rfl rfl (by decide) (by decide) oK4 (by kernel_rfl) ?_
     intro A0 x hA0 hBA hF hb
     refine ko hK' (hSS _ hF.ent) fun hHeld => ?_
     clear hK' K'
     refine e1 1 rfl fun K' hK' => ?_
     refine plConv hF rfl _ rfl A0 4 4 _ rfl hA0 hBA ?_
     intro x hF
     refine ko hK' (hSS _ hF.ent) fun hHeld => ?_
     clear hK' K'
    rotate_left 1
   rotate_left 3
  rotate_left 6
 rotate_left 10
 all_goals
  refine e1 24 rfl fun K' hK' => ?_
  refine step_lit rfl 286 61 9 _ rfl Tryz.underlying286 (.slice none 0 0) 1 24 infoBts (by decide) (by decide) [.slice (some ⟨A0, 0, none⟩) 4 4, .slice (some ⟨A4, 0, none⟩) 8 8, .slice (some ⟨A7, 0, none⟩) 8 8, .slice (some ⟨A11, 0, none⟩) 1 1, .slice (some ⟨B, 3, none⟩) 16 16, .slice (some ⟨B, 19, none⟩) 16 16, .slice (some ⟨B, 35, none⟩) 32 32, .slice (some ⟨A21, 4, none⟩) 4 4, .slice ao n c] (by kernel_rfl) _ rfl ?_
  intro y hAL hb _
  have hF := hF.step hb
  refine ko hK' (hSS _ hF.ent) fun hHeld => ?_
  clear hK' K'
  refine e1 25 rfl fun K' hK' => ?_
  rw [if_pos (by rfl)]
  go_simp
  go_at_call 112
  refine (HCC.out _ _ A0 A4 A7 A11 A21 _ hF (by intro p hp; simp only [List.mem_cons, List.not_mem_nil, or_false] at hp ⊢; rcases hp with h | h | h | h | h <;> simp [h]) hAL).mono ?_
  rintro e z ⟨a2, c2, rfl, hM, hbz, hEz⟩
  refine ko hK' (hSS _ hEz) fun hHeld => ?_
  clear hK' K'
  refine tq 26 rfl ?_
  refine wpAnyH_done (by kernel_rfl) ?_ _
  clear hHeld
  go_wp2_with fail
  exact HPQ.out _ a2 c2 hM hbz
end Go.Proofs.YtdhipjoplkpgmaaGreatDoor.hf
namespace Go.Proofs.YtdhipjoplkpgmaaGreatDoor.hf
open Go.RowKit st hs wr shr sh lk
theorem RefEntrySum_ok (t : Int) (f : List Int) (rs : List ByteArray) (ao : Option Addr) (n c : Nat) (w : World) (h : EntOk w t f rs ao n c) :
  Calls Tryz.prog 47 #[.agg (entC t (f.map (Value.int .u8)) (.slice ao n c)).toArray] w fun e w' => e = .returned (.agg ((entryS f t (bodyB f rs)).map (Value.int .u8)).toArray) ∧ Below w.heap.size w w' := by
 have hpl := fun (w' : World) (hb : Below w.heap.size w w') => hid (plain_ok t f rs ao n c w' (h.below hb))
 have hso := fun (w' : World) (a1 : Option Addr) (c1 : Nat) (h1 : Pt.Ok w' ⟨a1, c1, plainB f t (bodyB f rs)⟩) (h2 : a1 = none → c1 = 0 ∧ 89 + n = 0) => hid (sumR 3 ⟨by decide, by decide⟩ a1 c1 (89 + n) _ w' h.len.symm h1 h2 (by have := h.le; omega))
 have hCl := entC_len (t := t) (bo := .slice ao n c) (fv := f.map (Value.int .u8)) (by rw [List.length_map, h.hf])
 have HPL := hid h.len
 have HPO := hid h.octs
 obtain ⟨CS, HCS⟩ := hidE (entC t (f.map (Value.int .u8)) (.slice ao n c))
 rw [← HCS.out] at hpl hCl ⊢
 rw [show sumL 3 (plainB f t (bodyB f rs)) = entryS f t (bodyB f rs) from rfl] at hso
 have hSl0 := entryS_length f t (bodyB f rs)
 obtain ⟨S, HS⟩ := hidE ((entryS f t (bodyB f rs)).map (Value.int .u8))
 have hSl : S.length = 32 := by rw [HS.out, List.length_map, hSl0]
 have hS1 : ∀ u ∈ S, u.oneCell' = true := by rw [HS.out]; exact ints_one _ _
 rw [← HS.out] at hso ⊢
 obtain ⟨PL, HPLL⟩ := hidE (plainB f t (bodyB f rs))
 rw [← HPLL.out] at hpl hso HPL HPO
 obtain ⟨Z, HZ⟩ := hidE zSum
 have hz := hid zeroSumZ
 have hZl : Z.length = 32 := by rw [HZ.out]; rfl
 rw [← HZ.out] at hz
 obtain ⟨B, hsz⟩ := szE w
 rw [hsz] at hpl ⊢
 clear h hSl0
 go_enter Tryz.func47, Tryz.ntmps47
 go_wp2_with (first
  | (refine wl_storeV rfl 39 _ _ rfl 39 (B + 1) rfl S rfl 32 aggSumT hSl Z hT4 hZl hS1 ?_; intro w5 hT5 hb5 hs5; have bb5 : Below B w w5 := bb4.trans (hb5.mono (by omega)))
  | (go_at_call 45; refine (hso w3 a3 c3 (mine_pt hM3 HPL.out.symm (by omega) HPO.out).1 (mine_pt hM3 HPL.out.symm (by omega) HPO.out).2).out.mono ?_; rintro e w4 ⟨rfl, hb4⟩; have hT4 := hT3.below hb4 hT3.lt; have bb4 : Below B w w4 := bb3.trans (hb4.mono (by have := hT3.lt; omega)))
  | (go_at_call 107; refine (hpl w2 bb2).out.mono ?_; rintro e w3 ⟨a3, c3, rfl, hM3, hb3⟩; have hT3 := hT2.below hb3 hT2.lt; have bb3 : Below B w w3 := bb2.trans (hb3.mono (by omega)))
  | (refine wl_loadG (by rfl) 83 _ rfl ⟨B, 0, none⟩ rfl 68 CS hCl aggEntry hE2.at0 ?_)
  | (refine wl_allocV rfl 39 rfl Z hz.out (B + 1) (by omega) ?_; intro w2 hT2 hb2 hs2; have hE2 := hE1.below hb2 (by omega); have bb2 : Below B w w2 := bb1.trans (hb2.mono (by omega)))
  | (refine wl_boxV rfl 83 _ rfl CS rfl B hsz ?_; intro w1 hE1 bb1 hs1))
 (try simp only [Exit.inBlock, Exit.then]); refine bodyPost_ret (results_cell rfl _ _ _ _ rfl S (by rw [hSl]; exact aggSumT) hT5.at0) rfl ?_
 exact ⟨rfl, bb5⟩
theorem RefPrintEntry_ok (t : Int) (f : List Int) (rs : List ByteArray) (ao : Option Addr) (n c : Nat) (w : World) (h : EntOk w t f rs ao n c) (h0 : f ≠ List.replicate 16 0) :
  Calls Tryz.prog 51 #[.agg (entC t (f.map (Value.int .u8)) (.slice ao n c)).toArray] w fun e w' => ∃ a2 c2, e = .returned (.tuple #[.slice a2 (121 + n) c2, .int .i64 0]) ∧ Mine w' w.heap.size 5 1 (.slice a2 (121 + n) c2) (121 + n) ((entryB f t (bodyB f rs)).map (Value.int .u8)) ∧ Below w.heap.size w w' := by
 have hee := fun (w' : World) (hb : Below w.heap.size w w') => hid (RefEntryError_ok t f rs ao n c w' (h.below hb) h0)
 have hes := fun (w' : World) (hb : Below w.heap.size w w') => hid (RefEntrySum_ok t f rs ao n c w' (h.below hb))
 have hah := fun (w' : World) (hb : Below w.heap.size w w') => hid (plain_ok t f rs ao n c w' (h.below hb))
 have hCl := entC_len (t := t) (bo := .slice ao n c) (fv := f.map (Value.int .u8)) (by rw [List.length_map, h.hf])
 have HEQ : Hid ((entryB f t (bodyB f rs)).map (Value.int .u8) = (plainB f t (bodyB f rs)).map (Value.int .u8) ++ (entryS f t (bodyB f rs)).map (Value.int .u8)) := hid (by unfold entryB; rw [List.map_append])
 have hnl := h.le
 obtain ⟨CS, HCS⟩ := hidE (entC t (f.map (Value.int .u8)) (.slice ao n c))
 rw [← HCS.out] at hee hes hah hCl ⊢
 have hSl0 := entryS_length f t (bodyB f rs)
 obtain ⟨S, HS⟩ := hidE ((entryS f t (bodyB f rs)).map (Value.int .u8))
 have hSl : S.length = 32 := by rw [HS.out, List.length_map, hSl0]
 have hS1 : ∀ u ∈ S, u.oneCell' = true := by rw [HS.out]; exact ints_one _ _
 rw [← HS.out] at hes HEQ
 obtain ⟨PL, HPLL⟩ := hidE (plainB f t (bodyB f rs))
 rw [← HPLL.out] at hah HEQ
 obtain ⟨Z, HZ⟩ := hidE zSum
 have hz := hid zeroSumZ
 have hZl : Z.length = 32 := by rw [HZ.out]; rfl
 rw [← HZ.out] at hz
 obtain ⟨B, hsz⟩ := szE w
 have hal2 : Tryz.prog.arrayLen 39 = 32 := by kernel_rfl
 rw [hsz] at hee hes hah ⊢
 clear h hSl0
 go_enter Tryz.func51, Tryz.ntmps51
 go_wp2_with (first
  | (refine wl_storeV rfl 39 _ _ rfl 39 M rfl S rfl 32 aggSumT hSl Z hT3 hZl hS1 ?_; intro w4 hT4 hb4 hs4; have hE4 := hE3.below hb4 (by omega); have bb4 : Below B w w4 := bb3.trans (hb4.mono (by omega)))
  | (obtain ⟨M, HM⟩ := hidE w2.heap.size; have hsM : w2.heap.size = M := HM.out.symm; have hBM : B < M := (by have := hb2.size; have := hE1b.lt; omega); refine wl_allocV rfl 39 rfl Z hz.out M hsM ?_; intro w3 hT3 hb3 hs3; have hE3 := hE2.below hb3 (by omega); have bb3 : Below B w w3 := bb2.trans (hb3.mono (by omega)))
  | (go_at_call 47; refine (hes w1b bb1b).out.mono ?_; rintro e w2 ⟨rfl, hb2⟩; have hE2 := hE1b.below hb2 hE1b.lt; have bb2 : Below B w w2 := bb1b.trans (hb2.mono (by have := hE1b.lt; omega)))
  | (refine wl_loadG (by rfl) 83 _ rfl ⟨B, 0, none⟩ rfl 68 CS hCl aggEntry hE1b.at0 ?_)
  | (go_at_call 89; refine (hee w1 bb1).out.mono ?_; rintro e w1b ⟨rfl, hb1b⟩; have hE1b := hE1.below hb1b hE1.lt; have bb1b : Below B w w1b := bb1.trans (hb1b.mono (by omega)))
  | (refine wl_loadG (by rfl) 83 _ rfl ⟨B, 0, none⟩ rfl 68 CS hCl aggEntry hE1.at0 ?_)
  | (refine wl_boxV rfl 83 _ rfl CS rfl B hsz ?_; intro w1 hE1 bb1 hs1))
 have hiE : (Tryz.prog.info? 83).map (·.size) = some CS.length := by rw [hCl]; exact aggEntry.2
 clear hE1 hE1b bb1 bb1b
 refine wp_region_held_drew (S := (fun w' => w'.rangeAt B 0 CS)) (by kernel_rfl) (at_range (w := w4.drew) hE4.at0) (fun hHeld => ?_)
 obtain ⟨x0, HX0⟩ := hidE w4.drew
 rw [← HX0.out] at hHeld ⊢
 have hE0 : BlkV 83 x0 B CS := by rw [HX0.out]; exact hE4
 have hT0 : BlkV 39 x0 M S := by rw [HX0.out]; exact hT4
 have bb0 : Below B w x0 := by rw [HX0.out]; exact bb4.drew
 have hs0 : M < x0.heap.size := by rw [HX0.out]; show M < w4.heap.size; omega
 clear hE4 hT4 bb4
 refine tk 0 rfl (yieldsIf_load_mid (by rfl) 83 _ rfl B 0 rfl CS _ (fun w hS => hS) Tryz.underlying83 rfl hiE) ?_
 refine tq 2 rfl ?_
 refine e1 1 rfl fun K' hK' => ?_
 rw [if_pos (by rfl)]
 go_simp
 go_at_call 107
 refine (hah x0 bb0).out.mono ?_
 rintro e x1 ⟨a1, c1, rfl, hM1, hb1⟩
 have hE1 := hE0.below hb1 (by omega)
 have hT1 := hT0.below hb1 (by omega)
 have bb1 := bb0.trans (hb1.mono (by omega : B ≤ _))
 have hM1 := hM1.mono (by omega : B + 1 ≤ _)
 have hs1 : B + 1 ≤ x1.heap.size := by have := hb1.size; omega
 refine ko hK' (at_range hE1.at0) fun hHeld => ?_
 clear hK' K'
 refine e1 3 rfl fun K' hK' => ?_
 refine step_appendS rfl _ _ 61 rfl 5 (.int .u8 0) 1 1 Tryz.underlying61 info8 rfl (by decide) (B + 1) _ (89 + n) _ rfl hM1 (some ⟨M, 0, none⟩) 32 32 rfl (fun h => by cases h) S (by rw [hSl]) (at_row hT1.lt hT1.at0) hS1 (by unfold maxLen; omega) (by omega) hs1 (121 + n) (by omega) ?_
 intro ao2 c2 x2 row2 hc2 hM2 hV2 hg2 hr2
 have hE2 := blk_grown hE1 hg2 (fun k hk => (hr2 k hk).1) (by omega)
 have bb2 := bb1.grown hg2 (by omega) (fun k hk => by have := (hr2 k hk).1; omega)
 refine ko hK' (at_range hE2.at0) fun hHeld => ?_
 clear hK' K'
 refine tq 4 rfl ?_
 refine tq 5 rfl ?_
 refine wpAnyH_done (by kernel_rfl) ?_ _
 clear hHeld
 go_wp2_with fail
 go_ret2
 exact ⟨ao2, c2, rfl, by rw [HEQ.out]; exact hM2.mono (by omega), bb2⟩
end Go.Proofs.YtdhipjoplkpgmaaGreatDoor.hf
