/-
  HousesFound: contract of Ledger.Append at the first entry and an empty ledger. Conditions: the entry lies in memory. HousesFound: contracts of House.put, house.empty and House.write at the first entry. Conditions: the entry lies in memory; the blocks differ. HousesFound: contracts of house.empty, House.write and house.New. Conditions: the roles lie in memory.
-/
import Derived.Test.YtdhipjoplkpgmaaGreatDoorHHld
import Derived.Test.YtdhipjoplkpgmaaGreatDoorHHfR
set_option maxRecDepth 100000
set_option linter.unusedSimpArgs false
set_option linter.unusedVariables false
set_option maxHeartbeats 16000000
namespace Go.Proofs.YtdhipjoplkpgmaaGreatDoor.hf
open Go.RowKit st hs wr shr sh lk
theorem step_slice1 {P : Program} {w : World} {ops : Array Oper} {o : Oper} {a : Act} {K : Act → World → Prop} {Q : Exit → Act → World → Prop} {E : Prop} (hgd : o.guard = none) (t e : TypeId) (x : Operand) (ho : o.op = .buildSlice t 1 #[(0, x)])
  (ht : P.underlying t = some (.slice e)) (size : Nat) (z : List Value) (hi : (P.info? e).map (fun i => (i.zero, i.size)) = some (some (.agg z.toArray), size)) (hz : z.length = size) (h0 : 0 < size) (h24 : size ≤ 2 ^ 24)
  (cs : List Value) (hx : a.eval x = .agg cs.toArray) (hcs : cs.length = size) (N : Nat) (hN : w.heap.size = N)
  (h : ∀ w', BlkV e w' N cs → Below N w w' → w'.heap.size = N + 1 → K (a.put o.dst (.slice (some ⟨N, 0, none⟩) 1 1)) w') : if Region.wanted o (yielded ops a.tmps) = true then Oper.wp P o a w K Q else E := by
 have hw : Region.wanted o (yielded ops a.tmps) = true := by simp [Region.wanted, hgd]
 rw [if_pos hw]
 subst hN
 obtain ⟨i, hi0, hh⟩ := Option.map_eq_some_iff.1 hi
 simp only [Prod.mk.injEq] at hh
 obtain ⟨hzi, hsi⟩ := hh
 subst hsi
 have hf : Instr.fill (fun j => some (j * i.size, i.size)) ((Array.range (1 * i.size)).map (fun j => (Value.agg z.toArray).cells[j % (Value.agg z.toArray).cells.size]!)) #[(0, Value.agg cs.toArray)].toList = some cs.toArray := fill_one i.size cs _ hcs (by simp)
 have hrun := run_buildSlice (P := P) w t e 1 #[(0, Value.agg cs.toArray)] cs.toArray i (.agg z.toArray) ht hi0 hzi (by omega) (by omega) hf
 unfold Oper.wp
 simp [execOp, ho, hx, hrun, Result.andThen]
 exact h _ (BlkV.new e w cs rfl) ((Below.refl _ _).alloc (Nat.le_refl _) _) (by simp)
theorem yieldsIf_sliceL {P : Program} {ops : Array Oper} {S : World → Prop} {op : Oper} {a : Act} (hw : Region.wanted op (yielded ops a.tmps) = true) (t : TypeId) (x z : Operand) (ho : op.op = .slice t x (some z) none none)
  (b off n c l s N C : Nat) (hx : a.eval x = .slice (some ⟨b, off, none⟩) n c) (hi : Int) (hz : a.eval z = .int .i64 hi) (hhi : hi = (l : Int)) (ht : P.underlying t = some (.slice (P.elem t))) (hs : ∀ w, (sizeOf (P.elem t)).run P w = .ok s w) (hl : l ≤ n) (hc : l < c) (hN : N = n - l) (hC : C = c - l) : YieldsIf P ops S op (.slice (some ⟨b, off + l * s, none⟩) N C) a :=
 .inl ⟨hw, fun w _ => by
  subst hhi hN hC
  have hrun := run_slice_l (P := P) w t (some ⟨b, off, none⟩) n c ht .i64 (l : Int) (by omega) (by omega)
  rw [hs] at hrun
  simp only [Result.andThen_ok, Int.toNat_natCast, sliced] at hrun
  have hao : (if c = l then (some ⟨b, off, none⟩ : Option Addr) else (some ⟨b, off, none⟩ : Option Addr).map (·.add (l * s))) = some ⟨b, off + l * s, none⟩ := by
   rw [if_neg (by omega), Option.map_some]
   congr 1
   unfold Addr.add; split <;> simp_all
  rw [hao] at hrun
  unfold execOp
  simp only [ho, hx, Option.map_some, Option.map_none, hz, run_sliceAt_slice (P := P) w _ _ _ _ _ ht, hrun, Sem.run_bind, Result.andThen_ok, Sem.run_pure]⟩
theorem infoSum : Info Tryz.prog 39 (.agg zSum.toArray) 32 32 := by unfold Info; kernel_rfl
section
variable {o e l : Value} {tm : Int} {lv : List Value} {w : World} {g : Nat}
theorem ledC_len (h : lv.length = 32) : (ledC o e tm lv l).length = 36 := by simp [ledC, h]
theorem led_set0 {v : Value} : (ledC o e tm lv l).set 0 v = ledC v e tm lv l := rfl
theorem led_set1 {v : Value} : (ledC o e tm lv l).set 1 v = ledC o v tm lv l := rfl
theorem led_set2 {t : Int} : (ledC o e tm lv l).set 2 (.int .i64 t) = ledC o e t lv l := rfl
theorem led_last {sv : List Value} (h : lv.length = 32) : (ledC o e tm lv l).take 3 ++ sv ++ (ledC o e tm lv l).drop (3 + 32) = ledC o e tm sv l := by
 unfold ledC
 rw [List.take_succ_cons, List.take_succ_cons, List.take_succ_cons, List.take_zero, show 3 + 32 = 32 + 1 + 1 + 1 from rfl, List.drop_succ_cons, List.drop_succ_cons, List.drop_succ_cons, ← h, List.drop_left]
 simp
theorem led_set35 {v : Value} (h : lv.length = 32) : (ledC o e tm lv l).set 35 v = ledC o e tm lv v := by
 unfold ledC
 rw [show 35 = lv.length + 1 + 1 + 1 by rw [h], List.set_cons_succ, List.set_cons_succ, List.set_cons_succ, List.set_append_right _ _ (by omega), Nat.sub_self]
 rfl
theorem led_cells (h : lv.length = 32) (hB : BlkV 162 w g (ledC o e tm lv l)) : w.cell? ⟨g, 0, none⟩ = some o ∧ w.cell? ⟨g, 1, none⟩ = some e ∧ w.cell? ⟨g, 2, none⟩ = some (.int .i64 tm) ∧ w.cell? ⟨g, 35, none⟩ = some l := by
 refine ⟨hB.cell 0, hB.cell 1, hB.cell 2, (hB.cell 35).trans ?_⟩
 unfold ledC
 rw [show 35 = lv.length + 1 + 1 + 1 by rw [h], List.getElem?_cons_succ, List.getElem?_cons_succ, List.getElem?_cons_succ, List.getElem?_append_right (Nat.le_refl _), Nat.sub_self]
 rfl
theorem led_lastAt (hB : BlkV 162 w g (ledC o e tm lv l)) : At w ⟨g, 3, none⟩ lv := hB.at 3 lv fun j u hu => by
 have hj := (List.getElem?_eq_some_iff.1 hu).1
 unfold ledC
 rw [show 3 + j = j + 1 + 1 + 1 by omega, List.getElem?_cons_succ, List.getElem?_cons_succ, List.getElem?_cons_succ, List.getElem?_append_left hj]; exact hu
end
structure LedOk (w : World) (L B : Nat) (t : Int) (E S : List Int) : Prop where
 rows : ∃ oa oc ea ec la lc, BlkV 162 w L (ledC (.slice oa E.length oc) (.slice ea 1 ec) t (S.map (Value.int .u8)) (.slice la 1 lc)) ∧ Pt.Ok w ⟨oa, oc, E⟩ ∧ (oa = none → oc = 0) ∧ RowV w ea [.int .i64 (E.length : Int)] ∧ RowV w la ((sumL 1 E).map (Value.int .u8)) ∧ (∀ b, oa = some b → B ≤ b.block) ∧ (∀ b, ea = some b → B ≤ b.block) ∧ (∀ b, la = some b → B ≤ b.block)
theorem mineLow {w : World} {base n c size : Nat} {e : TypeId} {ao : Option Addr} {xs : List Value} (h : Mine w base e size (.slice ao n c) n xs) (h0 : 0 < n) : ∀ b, ao = some b → base ≤ b.block := by
 rcases mine_own h h0 with ⟨_, h | ⟨g, cap, cur, hv, hg, _⟩⟩
 ·obtain ⟨h, _⟩ := h
  injection h with h; subst h; intro b hb; cases hb
 ·injection hv with hv; subst hv; intro b hb; injection hb with hb; subst hb; exact hg
theorem mineRow {w : World} {base n c size : Nat} {e : TypeId} {ao : Option Addr} {xs : List Value} (h : Mine w base e size (.slice ao n c) n xs) : RowV w ao xs := by
 obtain ⟨a, k, hv, _, hr⟩ := h.row
 injection hv with hv; subst hv; exact hr
theorem rowV_only {B : Nat} {ks : List Nat} {w w' : World} {ao : Option Addr} {cs : List Value} (h : Only B ks w w') (hx : RowV w ao cs) (hp : ∀ b, ao = some b → b.block < B → b.block ∉ ks) (hB : w.heap.size ≤ B := by exact Nat.le_refl _) : RowV w' ao cs := by
 rcases hx with g | ⟨b, off, g1, g2, g3⟩
 ·exact Or.inl g
 ·have q2 := hp _ g1 (Nat.lt_of_lt_of_le g2 hB)
  exact Or.inr ⟨b, off, g1, Nat.lt_of_lt_of_le g2 h.size, fun j u hu => (h.cell (p := ⟨b, off + j, none⟩) (Nat.lt_of_lt_of_le g2 hB) q2).trans (g3 j u hu)⟩
theorem grownNone {w w' : World} {row : Option Nat} {base : Nat} (h : w.grownBy w' row) (hr : ∀ k, row = some k → base ≤ k ∧ (Value.slice none 0 0).ownBlock = some k) : Below w.heap.size w w' :=
 (Below.refl _ _).grown h (Nat.le_refl _) (fun k hk => by have := (hr k hk).2; simp [Value.ownBlock] at this)
theorem Only.drewd {B : Nat} {ks : List Nat} {w w' : World} (h : Only B ks w w') : Only B ks w w'.drew := ⟨h.os, h.tape, h.output, h.size, h.block⟩
theorem zeroSz : (Tryz.prog.info? 39).map (fun i => (i.zero, i.size)) = some (some (.agg zSum.toArray), 32) := by kernel_rfl
theorem Append_ok (L : Nat) (t : Int) (f : List Int) (rs : List ByteArray) (ao : Option Addr) (n c : Nat) (w : World) (h : EntOk w t f rs ao n c) (hL : BlkV 162 w L (ledC (.slice none 0 0) (.slice none 0 0) 0 zSum (.slice none 0 0))) :
  Calls Tryz.prog 87 #[.pointer (some ⟨L, 0, none⟩), .agg (entC t (f.map (Value.int .u8)) (.slice ao n c)).toArray] w fun e w' => e = .returned (.int .i64 0) ∧ LedOk w' L w.heap.size t (entryB f t (bodyB f rs)) (entryS f t (bodyB f rs)) ∧ Only w.heap.size [L] w w' := by
 have hFl : (f.map (Value.int .u8)).length = 16 := by rw [List.length_map, h.hf]
 have hpe := fun (w' : World) (hb : Below w.heap.size w w') => hid (PrintEntry_ok t f rs ao n c w' (h.below hb))
 have hcells := fun (w : World) (g : Nat) (h : BlkV 83 w g (entC t (f.map (Value.int .u8)) (.slice ao n c))) => hid (ent_cells hFl h)
 have hprv := fun (w : World) (g : Nat) (h : BlkV 83 w g (entC t (f.map (Value.int .u8)) (.slice ao n c))) => hid (ent_prev hFl h)
 have hCl := entC_len (t := t) (bo := .slice ao n c) hFl
 obtain ⟨CS, HCS⟩ := hidE (entC t (f.map (Value.int .u8)) (.slice ao n c))
 rw [← HCS.out] at hpe hCl hcells hprv ⊢
 have hEl : (entryB f t (bodyB f rs)).length = 121 + n := by unfold entryB; rw [List.length_append, h.len, entryS_length]; omega
 have hEo : Octs (entryB f t (bodyB f rs)) := by unfold entryB; exact octs_app h.octs (sumL_octs _ _)
 have hn5 := h.le
 have HED : Hid ((entryB f t (bodyB f rs)).drop (121 + n - 32) = entryS f t (bodyB f rs)) := hid (by unfold entryB; rw [show 121 + n - 32 = (plainB f t (bodyB f rs)).length by rw [h.len]; omega, List.drop_left])
 have hSIl : (entryS f t (bodyB f rs)).length = 32 := entryS_length _ _ _
 obtain ⟨EB, HEB⟩ := hidE (entryB f t (bodyB f rs))
 obtain ⟨ES, HES⟩ := hidE (entryS f t (bodyB f rs))
 rw [← HEB.out] at hpe hEl hEo HED ⊢
 rw [← HES.out] at HED hSIl ⊢
 obtain ⟨N, HN⟩ := hidE (121 + n)
 have hN1 : 121 ≤ N := by rw [HN.out]; omega
 have hN2 : N ≤ 666 := by rw [HN.out]; omega
 rw [← HN.out] at hpe hEl HED
 have hEL := hid hEl
 clear hEl
 have hes : Hid (∀ w, (Op.equalIn 10000 39 (.agg zSum.toArray) (.agg zSum.toArray)).run Tryz.prog w = .ok true w) := hid (fun w => by rw [show zSum = (List.replicate 32 (0 : Int)).map (Value.int .u8) from rfl, run_eq_sum' w _ _ (by simp) (by simp)]; simp)
 have hlf := fun (w' : World) (a1 : Option Addr) (c1 : Nat) (hp : Pt.Ok w' ⟨a1, c1, EB⟩) => hid (Leaf_ok a1 c1 N EB w' hEL.out.symm hp (by omega))
 obtain ⟨LV, HLV⟩ := hidE ((sumL 1 EB).map (Value.int .u8))
 have hLVl : LV.length = 32 := by rw [HLV.out, List.length_map, sumL_length]
 have hLV1 : ∀ u ∈ LV, u.oneCell' = true := by rw [HLV.out]; exact ints_one _ _
 rw [← HLV.out] at hlf
 obtain ⟨SV, HSV⟩ := hidE (ES.map (Value.int .u8))
 have hSVl : SV.length = 32 := by rw [HSV.out, List.length_map, hSIl]
 have hSV1 : ∀ u ∈ SV, u.oneCell' = true := by rw [HSV.out]; exact ints_one _ _
 have hLc := fun (w' : World) (o e l : Value) (tm : Int) (lv : List Value) (hl : lv.length = 32) (h : BlkV 162 w' L (ledC o e tm lv l)) => hid (led_cells hl h)
 have hLa := fun (w' : World) (o e l : Value) (tm : Int) (h : BlkV 162 w' L (ledC o e tm zSum l)) => hid (led_lastAt h)
 obtain ⟨EV, HEV⟩ := hidE (EB.map (Value.int .u8))
 have hEVl : EV.length = N * 1 := by rw [HEV.out, List.length_map, hEL.out]; omega
 have hEV1 : ∀ u ∈ EV, u.oneCell' = true := by rw [HEV.out]; exact ints_one _ _
 have HEVD : Hid (EV.drop (N - 32) = SV) := hid (by rw [HEV.out, HSV.out, ← List.map_drop, HED.out])
 have hzs := hid zeroSumZ
 have hiZ2 := hid zeroSz
 have hinfS := hid infoSum
 obtain ⟨ZS, HZS⟩ := hidE zSum
 have hZSl : ZS.length = 32 := by rw [HZS.out]; rfl
 rw [← HZS.out] at hes hzs hprv hLa hL hiZ2 hinfS
 have hLw := hL.lt
 have HPL : Hid (∀ w' oa oc ea ec la lc, BlkV 162 w' L (ledC (.slice oa N oc) (.slice ea 1 ec) t SV (.slice la 1 lc)) → Pt.Ok w' ⟨oa, oc, EB⟩ → (oa = none → oc = 0) → RowV w' ea [.int .i64 (N : Int)] → RowV w' la LV → (∀ b, oa = some b → w.heap.size ≤ b.block) → (∀ b, ea = some b → w.heap.size ≤ b.block) → (∀ b, la = some b → w.heap.size ≤ b.block) → LedOk w' L w.heap.size t EB ES) := hid (fun w' oa oc ea ec la lc h1 h2 h3 h4 h5 h6 h7 h8 => ⟨⟨oa, oc, ea, ec, la, lc, by rw [hEL.out, ← HSV.out]; exact h1, h2, h3, by rw [hEL.out]; exact h4, by rw [← HLV.out]; exact h5, h6, h7, h8⟩⟩)
 have HPT : Hid (∀ (w' : World) (base : Nat) a2 c2, Mine w' base 5 1 (.slice a2 N c2) N EV → Pt.Ok w' ⟨a2, c2, EB⟩ ∧ (a2 = none → c2 = 0 ∧ N = 0)) := hid (fun w' base a2 c2 h => mine_pt (by rw [← HEV.out]; exact h) hEL.out.symm (by omega) hEo)
 rw [← HEV.out] at hpe
 obtain ⟨B, hsz⟩ := szE w
 rw [hsz] at hpe HPL hLw ⊢
 obtain ⟨Q, HQ⟩ : ∃ Q : Ending → World → Prop, Hid (Q = fun e w' => e = .returned (.int .i64 0) ∧ LedOk w' L B t EB ES ∧ Only B [L] w w') := ⟨_, rfl⟩
 rw [← HQ.out]
 have HPQ : Hid (∀ w', LedOk w' L B t EB ES → Only B [L] w w' → Q (.returned (.int .i64 0)) w') := hid (by rw [HQ.out]; exact fun w' h1 h2 => ⟨rfl, h1, h2⟩)
 have hiZS : (Tryz.prog.info? 39).map (·.size) = some ZS.length := by rw [hZSl]; exact aggSumT.2
 have hiSV : (Tryz.prog.info? 39).map (·.size) = some SV.length := by rw [hSVl]; exact aggSumT.2
 have hiLV : (Tryz.prog.info? 39).map (·.size) = some LV.length := by rw [hLVl]; exact aggSumT.2
 clear h
 go_enter Tryz.func87, Tryz.ntmps87
 go_wp2_with (first
  | (go_at_call 157; refine (hpe w1 bb1).out.mono ?_; rintro e w2 ⟨a2, c2, rfl, hM2, hb2⟩; have hE2 := hE1.below hb2 hE1.lt; have bb2 : Below B w w2 := bb1.trans (hb2.mono (by omega)); have hM2' := hM2.mono (by omega : B ≤ w1.heap.size))
  | (refine wl_loadG (by rfl) 83 _ rfl ⟨B, 0, none⟩ rfl 68 CS hCl aggEntry hE1.at0 ?_)
  | (refine wl_boxV rfl 83 _ rfl CS rfl B hsz ?_; intro w1 hE1 bb1 hs1))
 obtain ⟨y2, HY2⟩ := hidE w2
 have hz2 : B ≤ w2.heap.size := by have := hb2.size; omega
 have ho2 : Only B [L] w w2 := Only.of bb2 (Nat.le_refl _)
 have hL2 := hL.below bb2 hLw
 have hLo := hid (mineLow hM2' (by omega))
 rw [← HY2.out] at hE2 hM2' hz2 ho2 hL2 ⊢
 have hM2 := hM2'
 have HC0l := hid (ledC_len (o := .slice none 0 0) (e := .slice none 0 0) (tm := 0) (l := .slice none 0 0) hZSl)
 have hk0 := fun (w' : World) (h : BlkV 162 w' L (ledC (.slice none 0 0) (.slice none 0 0) 0 ZS (.slice none 0 0))) => hid (led_cells hZSl h)
 have hk0a := fun (w' : World) (h : BlkV 162 w' L (ledC (.slice none 0 0) (.slice none 0 0) 0 ZS (.slice none 0 0))) => hid (led_lastAt h)
 have HQ1 := fun oa oc => hid (led_set0 (o := .slice none 0 0) (e := .slice none 0 0) (tm := 0) (lv := ZS) (l := .slice none 0 0) (v := .slice oa N oc))
 obtain ⟨C0, HC0⟩ := hidE (ledC (.slice none 0 0) (.slice none 0 0) 0 ZS (.slice none 0 0))
 rw [← HC0.out] at hL2 HC0l HQ1 hk0 hk0a
 clear hLa hLc hL hpe bb1 bb2 hb2 hM2'
 have hSS : ∀ w', BlkV 83 w' B CS → BlkV 162 w' L C0 → (w'.cell? ⟨B, 0, none⟩ = some (.int .i64 0) ∧ w'.cell? ⟨L, 1, none⟩ = some (.slice none 0 0)) := fun w' h1 h2 => ⟨((hcells _ _ h1).out).1, ((hk0 _ h2).out).2.1⟩
 refine wp_region_held_drew (S := (fun w' => w'.cell? ⟨B, 0, none⟩ = some (.int .i64 0) ∧ w'.cell? ⟨L, 1, none⟩ = some (.slice none 0 0))) (by kernel_rfl) (hSS y2.drew hE2 hL2) (fun hHeld => ?_)
 obtain ⟨y3, HX3⟩ := hidE y2.drew
 rw [← HX3.out] at hHeld ⊢
 have hE3 := (by rw [HX3.out]; exact hE2 : BlkV 83 y3 B CS)
 have hL3 := (by rw [HX3.out]; exact hL2 : BlkV 162 y3 L C0)
 have hM3 := (by rw [HX3.out]; exact hM2 : Mine y3 B 5 1 (.slice a2 N c2) N EV)
 have hz3 := (by rw [HX3.out]; exact hz2 : B ≤ y3.heap.size)
 have ho3 := (by rw [HX3.out]; exact ho2.drewd : Only B [L] w y3)
 clear hE2 hL2 hM2 hz2
 refine tq 0 rfl ?_
 refine tq 1 rfl ?_
 refine tq 2 rfl ?_
 refine tq 3 rfl ?_
 refine tq 4 rfl ?_
 refine tq 5 rfl ?_
 refine tq 6 rfl ?_
 refine tq 7 rfl ?_
 refine wpAnyH_done (by kernel_rfl) ?_ _
 clear hHeld hSS
 go_wp2_with fail
 have hSS : ∀ w', BlkV 83 w' B CS → BlkV 162 w' L C0 → (w'.rangeAt B 35 ZS ∧ w'.rangeAt L 3 ZS) := fun w' h1 h2 => ⟨at_range (hprv _ _ h1).out, at_range (hk0a _ h2).out⟩
 refine wp_region_held_drew (S := (fun w' => w'.rangeAt B 35 ZS ∧ w'.rangeAt L 3 ZS)) (by kernel_rfl) (hSS y3.drew hE3 hL3) (fun hHeld => ?_)
 obtain ⟨y4, HX4⟩ := hidE y3.drew
 rw [← HX4.out] at hHeld ⊢
 have hE4 := (by rw [HX4.out]; exact hE3 : BlkV 83 y4 B CS)
 have hL4 := (by rw [HX4.out]; exact hL3 : BlkV 162 y4 L C0)
 have hM4 := (by rw [HX4.out]; exact hM3 : Mine y4 B 5 1 (.slice a2 N c2) N EV)
 have hz4 := (by rw [HX4.out]; exact hz3 : B ≤ y4.heap.size)
 have ho4 := (by rw [HX4.out]; exact ho3.drewd : Only B [L] w y4)
 clear hE3 hL3 hM3 hz3
 refine tq 0 rfl ?_
 refine tk 1 rfl (yieldsIf_load_mid (by rfl) 39 _ rfl B 35 rfl ZS _ (fun w hS => hS.1) Tryz.underlying39 rfl hiZS) ?_
 refine tq 2 rfl ?_
 refine tq 3 rfl ?_
 refine tq 4 rfl ?_
 refine tk 5 rfl (yieldsIf_load_mid (by rfl) 39 _ rfl L 3 rfl ZS _ (fun w hS => hS.2) Tryz.underlying39 rfl hiZS) ?_
 refine tk 6 rfl (yieldsIf_neM (by rfl) 39 _ _ _ rfl ZS.toArray ZS.toArray rfl rfl true (fun w => hes.out w) (by kernel_rfl)) ?_
 refine wpAnyH_done (by kernel_rfl) ?_ _
 clear hHeld hSS
 have hR4 := mineRow hM4
 have hNc : N ≤ c2 := (by obtain ⟨a, k, hv, hk, _⟩ := hM4.row; injection hv with _ _ hv; omega)
 have hlf4 := hlf y4 a2 c2 (HPT.out _ _ _ _ hM4).1
 have hno := (HPT.out _ _ _ _ hM4).2
 go_wp2_with (first
  | (refine wl_setV rfl 61 _ _ rfl 162 L 0 rfl (.slice oa N oc) rfl rfl rfl (by kernel_rfl) C0 hL8 (by rw [HC0l.out]; decide) ?_; intro y9 hL9' hg9 hs9)
  | (at_builtin; refine wl_appendS rfl _ _ 61 rfl 5 (.int .u8 0) 1 1 Tryz.underlying61 info8 rfl (by decide) B _ 0 [] rfl (Mine.nil _ _ _ _) a2 N c2 rfl (fun e => (hno e).1) EV hEVl hR7 hEV1 (by unfold maxLen; omega) (by omega) (by omega) N (by omega) ?_; intro oa oc y8 row8 hc8 hM8' hV8 hg8 hr8; rw [List.nil_append] at hM8'; have hb8 := grownNone hg8 hr8; have hoLo := hid (mineLow hM8' (by omega)); have hOno := (fun e => ((HPT.out _ _ _ _ hM8').2 e).1); have hP8 := (HPT.out _ _ _ _ hM8').1
   ; have hL8 := hL7.below hb8 (by omega); have hk8 : Only y7.heap.size [L] y7 y8 := Only.of hb8 (by omega); have hz8 : B ≤ y8.heap.size := (by have := hk8.size; omega); have hE8 := hk8.blk hE7 hE7.lt (by simp only [List.mem_singleton]; omega); have hQ8 := hk8.blk hQ7 hQ7.lt (by simp only [List.mem_singleton]; omega); have hR8 := rowV_only hk8 hR7 (fun b hb _ => by have := hLo.out b hb; simp only [List.mem_singleton]; omega); have ho8 := ho7.trans (hk8.mono (by omega) (fun k hk => Or.inl hk)))
  | (refine wl_storeV rfl 39 _ _ rfl 39 X7 rfl LV rfl 32 aggSumT hLVl ZS hQ6 hZSl hLV1 ?_; intro y7 hQ7 hb7' hs7; have hb7 := hb6.trans hb7'
   ; have hL7 := hL5.below hb7 (by omega); have hk7 : Only y5.heap.size [L] y5 y7 := Only.of hb7 (by omega); have hz7 : B ≤ y7.heap.size := (by have := hk7.size; omega); have hE7 := hk7.blk hE5 hE5.lt (by simp only [List.mem_singleton]; omega); have hR7 := rowV_only hk7 hR5 (fun b hb _ => by have := hLo.out b hb; simp only [List.mem_singleton]; omega); have ho7 := ho5.trans (hk7.mono (by omega) (fun k hk => Or.inl hk)); have l07 := ((hk0 _ hL7).out).1)
  | (obtain ⟨X7, HX7⟩ := hidE y5.heap.size; have hX7B : B ≤ X7 := (by rw [HX7.out]; exact hz5); have hX7e : y5.heap.size ≤ X7 := Nat.le_of_eq HX7.out.symm; have hX7f : X7 ≤ y5.heap.size := Nat.le_of_eq HX7.out; refine wl_allocV rfl 39 rfl ZS hzs.out X7 HX7.out.symm ?_; intro y6 hQ6 hb6 hs6)
  | (go_at_call 158; refine hlf4.out.mono ?_; rintro e y5 ⟨rfl, hb5⟩
   ; have hLB4 : L < y4.heap.size := (by omega); have hL5 := hL4.below hb5 (by omega); have hk5 : Only y4.heap.size [L] y4 y5 := Only.of hb5 (by omega); have hz5 : B ≤ y5.heap.size := (by have := hk5.size; omega); have hE5 := hk5.blk hE4 hE4.lt (by simp only [List.mem_singleton]; omega); have hR5 := rowV_only hk5 hR4 (fun b hb _ => by have := hLo.out b hb; simp only [List.mem_singleton]; omega); have ho5 := ho4.trans (hk5.mono (by omega) (fun k hk => Or.inl hk))))
 have HQ1' := HQ1 oa oc
 have HC1l := hid (ledC_len (o := .slice oa N oc) (e := .slice none 0 0) (tm := 0) (l := .slice none 0 0) hZSl)
 have hk1 := fun (w' : World) (h : BlkV 162 w' L (ledC (.slice oa N oc) (.slice none 0 0) 0 ZS (.slice none 0 0))) => hid (led_cells hZSl h)
 have HQ2 := fun ea ec => hid (led_set1 (o := .slice oa N oc) (e := .slice none 0 0) (tm := 0) (lv := ZS) (l := .slice none 0 0) (v := .slice ea 1 ec))
 obtain ⟨C1, HC1⟩ := hidE (ledC (.slice oa N oc) (.slice none 0 0) 0 ZS (.slice none 0 0))
 rw [← HC1.out] at HQ1' HC1l hk1 HQ2
 have hL9 : BlkV 162 y9 L C1 := by rw [← HQ1'.out]; exact hL9'
 have hk9 : Only y8.heap.size [L] y8 y9 := Only.ofG hg9 (Nat.le_refl _) (fun k hk => by injection hk with hk; right; rw [← hk]; simp)
 have hz9 : B ≤ y9.heap.size := (by have := hk9.size; omega)
 have hE9 := hk9.blk hE8 hE8.lt (by simp only [List.mem_singleton]; omega)
 have hQ9 := hk9.blk hQ8 hQ8.lt (by simp only [List.mem_singleton]; omega)
 have hR9 := rowV_only hk9 hR8 (fun b hb _ => by have := hLo.out b hb; simp only [List.mem_singleton]; omega)
 have hP9 := hk9.pt hP8 (fun b hb => ⟨hP8.lt b hb, by have := hoLo.out b hb; simp only [List.mem_singleton]; omega⟩)
 have ho9 := ho8.trans (hk9.mono (by omega) (fun k hk => Or.inl hk))
 clear hL9' hE8 hQ8 hR8 hP8 hL8
 have hSS : ∀ w', BlkV 162 w' L C1 → w'.cell? ⟨L, 0, none⟩ = some (.slice oa N oc) := fun w' h => ((hk1 _ h).out).1
 refine wp_region_held_drew (S := (fun w' => w'.cell? ⟨L, 0, none⟩ = some (.slice oa N oc))) (by kernel_rfl) (hSS y9.drew hL9) (fun hHeld => ?_)
 obtain ⟨y10, HX10⟩ := hidE y9.drew
 rw [← HX10.out] at hHeld ⊢
 have hE10 := (by rw [HX10.out]; exact hE9 : BlkV 83 y10 B CS)
 have hQ10 := (by rw [HX10.out]; exact hQ9 : BlkV 39 y10 X7 LV)
 have hR10 := (by rw [HX10.out]; exact hR9 : RowV y10 a2 EV)
 have hP10 := (by rw [HX10.out]; exact ptDr hP9 : Pt.Ok y10 ⟨oa, oc, EB⟩)
 have hL10 := (by rw [HX10.out]; exact hL9 : BlkV 162 y10 L C1)
 have hz10 := (by rw [HX10.out]; exact hz9 : B ≤ y10.heap.size)
 have ho10 := (by rw [HX10.out]; exact ho9.drewd : Only B [L] w y10)
 clear hE9 hQ9 hR9 hP9 hL9 hz9
 refine tq 0 rfl ?_
 refine tq 1 rfl ?_
 refine tq 2 rfl ?_
 refine tq 3 rfl ?_
 refine tq 5 rfl ?_
 refine tq 6 rfl ?_
 refine tq 7 rfl ?_
 refine tq 8 rfl ?_
 refine tq 9 rfl ?_
 refine e2 4 10 rfl rfl (fun K' hK' => ?_) fun K' hK' => ?_
 focus
  have l1 := ((hk1 _ hL10).out).2.1
  rw [if_pos (by rfl)]
  go_simp
  refine ko hK' (hSS _ hL10) fun hHeld => ?_
  clear hK' K'
  refine e1 10 rfl fun K' hK' => ?_
  obtain ⟨XI, HXI⟩ := hidE y10.heap.size
  have hXIB : B ≤ XI := (by rw [HXI.out]; exact hz10)
  have hXIe : y10.heap.size ≤ XI := Nat.le_of_eq HXI.out.symm
  refine step_lit1 rfl 150 3 _ rfl Tryz.underlying150 (.int .i64 0) 8 infoI rfl (.int .i64 (N : Int)) rfl rfl XI HXI.out.symm ?_
  intro y11 hXI11 hb11 hs11
  have hL11 := hL10.below hb11 (by omega)
  have hk11 : Only y10.heap.size [L] y10 y11 := Only.of hb11 (by omega)
  have hz11 : B ≤ y11.heap.size := (by have := hk11.size; omega)
  have hE11 := hk11.blk hE10 hE10.lt (by simp only [List.mem_singleton]; omega)
  have hQ11 := hk11.blk hQ10 hQ10.lt (by simp only [List.mem_singleton]; omega)
  have hR11 := rowV_only hk11 hR10 (fun b hb _ => by have := hLo.out b hb; simp only [List.mem_singleton]; omega)
  have hP11 := hk11.pt hP10 (fun b hb => ⟨hP10.lt b hb, by have := hoLo.out b hb; simp only [List.mem_singleton]; omega⟩)
  have ho11 := ho10.trans (hk11.mono (by omega) (fun k hk => Or.inl hk))
  refine ko hK' (hSS _ hL11) fun hHeld => ?_
  clear hK' K'
  refine e1 11 rfl fun K' hK' => ?_
  refine step_appendS rfl _ _ 150 rfl 3 (.int .i64 0) 1 8 Tryz.underlying150 infoI rfl (by decide) B _ 0 [] rfl (Mine.nil _ _ _ _) (some ⟨XI, 0, none⟩) 1 1 rfl (fun h => by cases h) [.int .i64 (N : Int)] rfl (at_row hXI11.lt hXI11.at0) (by intro u hu; rw [List.mem_singleton.1 hu]; rfl) (by unfold maxLen; omega) (by omega) (by omega) 1 rfl ?_
  intro ea ec y12 row12 hc12 hM12 hI12' hg12 hr12
  have hI12 : RowV y12 ea [.int .i64 (N : Int)] := hI12'
  have hb12 := grownNone hg12 hr12
  have heLo := hid (mineLow hM12 (by omega))
  have hL12 := hL11.below hb12 (by omega)
  have hk12 : Only y11.heap.size [L] y11 y12 := Only.of hb12 (by omega)
  have hz12 : B ≤ y12.heap.size := (by have := hk12.size; omega)
  have hE12 := hk12.blk hE11 hE11.lt (by simp only [List.mem_singleton]; omega)
  have hQ12 := hk12.blk hQ11 hQ11.lt (by simp only [List.mem_singleton]; omega)
  have hR12 := rowV_only hk12 hR11 (fun b hb _ => by have := hLo.out b hb; simp only [List.mem_singleton]; omega)
  have hP12 := hk12.pt hP11 (fun b hb => ⟨hP11.lt b hb, by have := hoLo.out b hb; simp only [List.mem_singleton]; omega⟩)
  have ho12 := ho11.trans (hk12.mono (by omega) (fun k hk => Or.inl hk))
  refine ko hK' (hSS _ hL12) fun hHeld => ?_
  clear hK' K'
  refine tq 12 rfl ?_
  refine tq 13 rfl ?_
 rotate_left 1
 focus
  obtain ⟨XI, HXI⟩ := hidE y10.heap.size
  have hXIB : B ≤ XI := (by rw [HXI.out]; exact hz10)
  have hXIe : y10.heap.size ≤ XI := Nat.le_of_eq HXI.out.symm
  refine step_lit1 rfl 150 3 _ rfl Tryz.underlying150 (.int .i64 0) 8 infoI rfl (.int .i64 (N : Int)) rfl rfl XI HXI.out.symm ?_
  intro y11 hXI11 hb11 hs11
  have hL11 := hL10.below hb11 (by omega)
  have hk11 : Only y10.heap.size [L] y10 y11 := Only.of hb11 (by omega)
  have hz11 : B ≤ y11.heap.size := (by have := hk11.size; omega)
  have hE11 := hk11.blk hE10 hE10.lt (by simp only [List.mem_singleton]; omega)
  have hQ11 := hk11.blk hQ10 hQ10.lt (by simp only [List.mem_singleton]; omega)
  have hR11 := rowV_only hk11 hR10 (fun b hb _ => by have := hLo.out b hb; simp only [List.mem_singleton]; omega)
  have hP11 := hk11.pt hP10 (fun b hb => ⟨hP10.lt b hb, by have := hoLo.out b hb; simp only [List.mem_singleton]; omega⟩)
  have ho11 := ho10.trans (hk11.mono (by omega) (fun k hk => Or.inl hk))
  refine ko hK' (hSS _ hL11) fun hHeld => ?_
  clear hK' K'
  refine e1 4 rfl fun K' hK' => ?_
  have l1 := ((hk1 _ hL11).out).2.1
  rw [if_pos (by rfl)]
  go_simp
  refine ko hK' (hSS _ hL11) fun hHeld => ?_
  clear hK' K'
  refine e1 11 rfl fun K' hK' => ?_
  refine step_appendS rfl _ _ 150 rfl 3 (.int .i64 0) 1 8 Tryz.underlying150 infoI rfl (by decide) B _ 0 [] rfl (Mine.nil _ _ _ _) (some ⟨XI, 0, none⟩) 1 1 rfl (fun h => by cases h) [.int .i64 (N : Int)] rfl (at_row hXI11.lt hXI11.at0) (by intro u hu; rw [List.mem_singleton.1 hu]; rfl) (by unfold maxLen; omega) (by omega) (by omega) 1 rfl ?_
  intro ea ec y12 row12 hc12 hM12 hI12' hg12 hr12
  have hI12 : RowV y12 ea [.int .i64 (N : Int)] := hI12'
  have hb12 := grownNone hg12 hr12
  have heLo := hid (mineLow hM12 (by omega))
  have hL12 := hL11.below hb12 (by omega)
  have hk12 : Only y11.heap.size [L] y11 y12 := Only.of hb12 (by omega)
  have hz12 : B ≤ y12.heap.size := (by have := hk12.size; omega)
  have hE12 := hk12.blk hE11 hE11.lt (by simp only [List.mem_singleton]; omega)
  have hQ12 := hk12.blk hQ11 hQ11.lt (by simp only [List.mem_singleton]; omega)
  have hR12 := rowV_only hk12 hR11 (fun b hb _ => by have := hLo.out b hb; simp only [List.mem_singleton]; omega)
  have hP12 := hk12.pt hP11 (fun b hb => ⟨hP11.lt b hb, by have := hoLo.out b hb; simp only [List.mem_singleton]; omega⟩)
  have ho12 := ho11.trans (hk12.mono (by omega) (fun k hk => Or.inl hk))
  refine ko hK' (hSS _ hL12) fun hHeld => ?_
  clear hK' K'
  refine tq 12 rfl ?_
  refine tq 13 rfl ?_
 rotate_left 1
 all_goals
  refine e1 14 rfl fun K' hK' => ?_
  refine step_set1 rfl 150 _ _ rfl 162 L 1 rfl (.slice ea 1 ec) rfl rfl rfl (by kernel_rfl) C1 hL12 (by rw [HC1l.out]; decide) ?_
  intro y13 hL13' hg13 hbl13 hs13
  have HQ2' := HQ2 ea ec
  have HC2l := hid (ledC_len (o := .slice oa N oc) (e := .slice ea 1 ec) (tm := 0) (l := .slice none 0 0) hZSl)
  have hk2 := fun (w' : World) (h : BlkV 162 w' L (ledC (.slice oa N oc) (.slice ea 1 ec) 0 ZS (.slice none 0 0))) => hid (led_cells hZSl h)
  have HQ3 := hid (led_set2 (o := .slice oa N oc) (e := .slice ea 1 ec) (tm := 0) (t := t) (lv := ZS) (l := .slice none 0 0))
  obtain ⟨C2, HC2⟩ := hidE (ledC (.slice oa N oc) (.slice ea 1 ec) 0 ZS (.slice none 0 0))
  rw [← HC2.out] at HQ2' HC2l hk2 HQ3
  have hL13 : BlkV 162 y13 L C2 := by rw [← HQ2'.out]; exact hL13'
  have hk13 : Only y12.heap.size [L] y12 y13 := Only.ofG hg13 (Nat.le_refl _) (fun k hk => by injection hk with hk; right; rw [← hk]; simp)
  have hz13 : B ≤ y13.heap.size := (by have := hk13.size; omega)
  have hE13 := hk13.blk hE12 hE12.lt (by simp only [List.mem_singleton]; omega)
  have hQ13 := hk13.blk hQ12 hQ12.lt (by simp only [List.mem_singleton]; omega)
  have hR13 := rowV_only hk13 hR12 (fun b hb _ => by have := hLo.out b hb; simp only [List.mem_singleton]; omega)
  have hI13 := rowV_only hk13 hI12 (fun b hb _ => by have := heLo.out b hb; simp only [List.mem_singleton]; omega)
  have hP13 := hk13.pt hP12 (fun b hb => ⟨hP12.lt b hb, by have := hoLo.out b hb; simp only [List.mem_singleton]; omega⟩)
  have ho13 := ho12.trans (hk13.mono (by omega) (fun k hk => Or.inl hk))
  refine ko hK' (((hk2 _ hL13).out).1) fun hHeld => ?_
  clear hK' K'
  refine wpAnyH_done (by kernel_rfl) ?_ _
  clear hHeld hSS
  go_wp2_with fail
  obtain ⟨ab, af, rfl, hab, hac⟩ := hR13.resolve_left (by intro e; rw [e] at hEVl; simp at hEVl; omega)
  have hrSV : ∀ w', RowV w' (some ⟨ab, af, none⟩) EV → w'.rangeAt ab (af + (N - 32) * 1) SV := fun w' hr => by
   obtain ⟨b', f', e, hb', hc'⟩ := hr.resolve_left (by intro e; rw [e] at hEVl; simp at hEVl; omega)
   injection e with e; injection e with e1 e2; subst e1; subst e2
   rw [← HEVD.out]
   intro j u hu
   rw [List.getElem?_drop] at hu
   have := hc' _ u hu
   rw [Nat.mul_one, Nat.add_assoc]; exact this
  have hSS : ∀ w', BlkV 83 w' B CS → RowV w' (some ⟨ab, af, none⟩) EV → (w'.cell? ⟨B, 1, none⟩ = some (.int .i64 t) ∧ w'.rangeAt ab (af + (N - 32) * 1) SV) := fun w' h1 h2 => ⟨((hcells _ _ h1).out).2.1, hrSV _ h2⟩
  refine wp_region_held_drew (S := (fun w' => w'.cell? ⟨B, 1, none⟩ = some (.int .i64 t) ∧ w'.rangeAt ab (af + (N - 32) * 1) SV)) (by kernel_rfl) (hSS y13.drew hE13 hR13) (fun hHeld => ?_)
  obtain ⟨y14, HX14⟩ := hidE y13.drew
  rw [← HX14.out] at hHeld ⊢
  have hE14 := (by rw [HX14.out]; exact hE13 : BlkV 83 y14 B CS)
  have hQ14 := (by rw [HX14.out]; exact hQ13 : BlkV 39 y14 X7 LV)
  have hR14 := (by rw [HX14.out]; exact hR13 : RowV y14 (some ⟨ab, af, none⟩) EV)
  have hP14 := (by rw [HX14.out]; exact ptDr hP13 : Pt.Ok y14 ⟨oa, oc, EB⟩)
  have hI14 := (by rw [HX14.out]; exact hI13 : RowV y14 ea [.int .i64 (N : Int)])
  have hL14 := (by rw [HX14.out]; exact hL13 : BlkV 162 y14 L C2)
  have hz14 := (by rw [HX14.out]; exact hz13 : B ≤ y14.heap.size)
  have ho14 := (by rw [HX14.out]; exact ho13.drewd : Only B [L] w y14)
  clear hE13 hQ13 hR13 hP13 hL13 hz13 hI13
  have hwr : IntKind.i64.wrap ((N - 32 : Nat) : Int) = ((N - 32 : Nat) : Int) := by unfold IntKind.wrap; simp [IntKind.signed, IntKind.bits]; omega
  have hN32 : ((N : Int) - 32) = ((N - 32 : Nat) : Int) := by omega
  have hAA := fun w a n cap h => run_arrayAtS w a n cap h
  have hSV1' := hSV1
  refine tq 0 rfl ?_
  refine tq 1 rfl ?_
  refine tq 2 rfl ?_
  refine tq 3 rfl ?_
  refine tq 4 rfl ?_
  refine tq 5 rfl ?_
  refine tq 6 rfl ?_
  refine take_l (i := 7) (v := .int .i64 ((N - 32 : Nat) : Int)) rfl (by kernel_rfl) (by kernel_rfl) (by kernel_rfl) (fun _ _ _ h => h) (.inl ⟨by rfl, fun w _ => by go_simp; (try rw [hN32, hwr])⟩) (by assumption) ?_
  try simp only [Act.put, fpA, fpZ, fpN]
  refine tk 8 rfl (yieldsIf_sliceL (by rfl) 61 _ _ rfl ab af N c2 (N - 32) 1 32 (c2 - (N - 32)) rfl _ rfl rfl elem8 (fun w => size8e w) (by omega) (by omega) (by omega) rfl) ?_
  refine take_l (i := 9) (v := .pointer (some ⟨ab, af + (N - 32) * 1, none⟩)) rfl (by kernel_rfl) (by kernel_rfl) (by kernel_rfl) (fun _ _ _ h => h) (.inl ⟨by rfl, fun w _ => by go_simp⟩) (by assumption) ?_
  try simp only [Act.put, fpA, fpZ, fpN]
  refine tk 10 rfl (yieldsIf_load_mid (by rfl) 39 _ rfl ab (af + (N - 32) * 1) rfl SV _ (fun w hS => hS.2) Tryz.underlying39 rfl hiSV) ?_
  refine tq 11 rfl ?_
  refine tq 12 rfl ?_
  refine e1 13 rfl fun K' hK' => ?_
  refine step_set1 rfl 3 _ _ rfl 162 L 2 rfl (.int .i64 t) rfl rfl rfl (by kernel_rfl) C2 hL14 (by rw [HC2l.out]; decide) ?_
  intro y15 hL15' hg15 hbl15 hs15
  have HC3l := hid (ledC_len (o := .slice oa N oc) (e := .slice ea 1 ec) (tm := t) (l := .slice none 0 0) hZSl)
  have HQ4 := hid (led_last (o := .slice oa N oc) (e := .slice ea 1 ec) (tm := t) (lv := ZS) (sv := SV) (l := .slice none 0 0) hZSl)
  obtain ⟨C3, HC3⟩ := hidE (ledC (.slice oa N oc) (.slice ea 1 ec) t ZS (.slice none 0 0))
  rw [← HC3.out] at HQ3 HQ4 HC3l
  have hL15 : BlkV 162 y15 L C3 := by rw [← HQ3.out]; exact hL15'
  have hk15 : Only y14.heap.size [L] y14 y15 := Only.ofG hg15 (Nat.le_refl _) (fun k hk => by injection hk with hk; right; rw [← hk]; simp)
  have hz15 : B ≤ y15.heap.size := (by have := hk15.size; omega)
  have hE15 := hk15.blk hE14 hE14.lt (by simp only [List.mem_singleton]; omega)
  have hQ15 := hk15.blk hQ14 hQ14.lt (by simp only [List.mem_singleton]; omega)
  have hR15 := rowV_only hk15 hR14 (fun b hb _ => by have := hLo.out b hb; simp only [List.mem_singleton]; omega)
  have hI15 := rowV_only hk15 hI14 (fun b hb _ => by have := heLo.out b hb; simp only [List.mem_singleton]; omega)
  have hP15 := hk15.pt hP14 (fun b hb => ⟨hP14.lt b hb, by have := hoLo.out b hb; simp only [List.mem_singleton]; omega⟩)
  have ho15 := ho14.trans (hk15.mono (by omega) (fun k hk => Or.inl hk))
  refine ko hK' (hSS _ hE15 hR15) fun hHeld => ?_
  clear hK' K'
  refine tq 14 rfl ?_
  refine tq 15 rfl ?_
  refine e1 16 rfl fun K' hK' => ?_
  have HC4l := hid (ledC_len (o := .slice oa N oc) (e := .slice ea 1 ec) (tm := t) (l := .slice none 0 0) hSVl)
  have hk4 := fun (w' : World) (h : BlkV 162 w' L (ledC (.slice oa N oc) (.slice ea 1 ec) t SV (.slice none 0 0))) => hid (led_cells hSVl h)
  have HQ5 := fun la lc => hid (led_set35 (o := .slice oa N oc) (e := .slice ea 1 ec) (tm := t) (lv := SV) (l := .slice none 0 0) (v := .slice la 1 lc) hSVl)
  obtain ⟨C4, HC4⟩ := hidE (ledC (.slice oa N oc) (.slice ea 1 ec) t SV (.slice none 0 0))
  rw [← HC4.out] at HQ4 HC4l hk4 HQ5
  refine step_storeP rfl 39 _ _ rfl 162 L 3 rfl SV rfl 32 aggSumT hSVl C3 hL15 (by rw [HC3l.out]; decide) hSV1' C4 HQ4.out ?_
  intro y16 hL16 hbl16 hg16 hs16
  have hk16 : Only y15.heap.size [L] y15 y16 := Only.ofG hg16 (Nat.le_refl _) (fun k hk => by injection hk with hk; right; rw [← hk]; simp)
  have hz16 : B ≤ y16.heap.size := (by have := hk16.size; omega)
  have hE16 := hk16.blk hE15 hE15.lt (by simp only [List.mem_singleton]; omega)
  have hQ16 := hk16.blk hQ15 hQ15.lt (by simp only [List.mem_singleton]; omega)
  have hR16 := rowV_only hk16 hR15 (fun b hb _ => by have := hLo.out b hb; simp only [List.mem_singleton]; omega)
  have hI16 := rowV_only hk16 hI15 (fun b hb _ => by have := heLo.out b hb; simp only [List.mem_singleton]; omega)
  have hP16 := hk16.pt hP15 (fun b hb => ⟨hP15.lt b hb, by have := hoLo.out b hb; simp only [List.mem_singleton]; omega⟩)
  have ho16 := ho15.trans (hk16.mono (by omega) (fun k hk => Or.inl hk))
  refine ko hK' (hSS _ hE16 hR16) fun hHeld => ?_
  clear hK' K'
  refine wpAnyH_done (by kernel_rfl) ?_ _
  clear hHeld hSS
  go_wp2_with fail
  have hSS : ∀ w', BlkV 39 w' X7 LV → w'.rangeAt X7 0 LV := fun w' h1 => at_range h1.at0
  refine wp_region_held_drew (S := (fun w' => w'.rangeAt X7 0 LV)) (by kernel_rfl) (hSS y16.drew hQ16) (fun hHeld => ?_)
  obtain ⟨y17, HX17⟩ := hidE y16.drew
  rw [← HX17.out] at hHeld ⊢
  have hQ17 := (by rw [HX17.out]; exact hQ16 : BlkV 39 y17 X7 LV)
  have hP17 := (by rw [HX17.out]; exact ptDr hP16 : Pt.Ok y17 ⟨oa, oc, EB⟩)
  have hI17 := (by rw [HX17.out]; exact hI16 : RowV y17 ea [.int .i64 (N : Int)])
  have hL17 := (by rw [HX17.out]; exact hL16 : BlkV 162 y17 L C4)
  have hz17 := (by rw [HX17.out]; exact hz16 : B ≤ y17.heap.size)
  have ho17 := (by rw [HX17.out]; exact ho16.drewd : Only B [L] w y17)
  clear hE16 hQ16 hR16 hP16 hL16 hz16 hI16
  refine tq 0 rfl ?_
  refine tq 1 rfl ?_
  refine tq 2 rfl ?_
  refine tq 3 rfl ?_
  refine tk 5 rfl (yieldsIf_load_mid (by rfl) 39 _ rfl X7 0 rfl LV _ (fun w hS => hS) Tryz.underlying39 rfl hiLV) ?_
  refine e2 4 6 rfl rfl (fun K' hK' => ?_) fun K' hK' => ?_
  focus
   have l35 := ((hk4 _ hL17).out).2.2.2
   rw [if_pos (by rfl)]
   go_simp
   refine ko hK' (hSS _ hQ17) fun hHeld => ?_
   clear hK' K'
   refine e1 6 rfl fun K' hK' => ?_
   obtain ⟨XS, HXS⟩ := hidE y17.heap.size
   have hXSB : B ≤ XS := (by rw [HXS.out]; exact hz17)
   have hXSe : y17.heap.size ≤ XS := Nat.le_of_eq HXS.out.symm
   refine step_slice1 rfl 106 39 _ rfl Tryz.underlying106 32 ZS hiZ2.out hZSl (by decide) (by decide) LV rfl hLVl XS HXS.out.symm ?_
   intro y18 hXS18 hb18 hs18
   have hL18 := hL17.below hb18 (by omega)
   have hk18 : Only y17.heap.size [L] y17 y18 := Only.of hb18 (by omega)
   have hz18 : B ≤ y18.heap.size := (by have := hk18.size; omega)
   have hQ18 := hk18.blk hQ17 hQ17.lt (by simp only [List.mem_singleton]; omega)
   have hI18 := rowV_only hk18 hI17 (fun b hb _ => by have := heLo.out b hb; simp only [List.mem_singleton]; omega)
   have hP18 := hk18.pt hP17 (fun b hb => ⟨hP17.lt b hb, by have := hoLo.out b hb; simp only [List.mem_singleton]; omega⟩)
   have ho18 := ho17.trans (hk18.mono (by omega) (fun k hk => Or.inl hk))
   refine ko hK' (hSS _ hQ18) fun hHeld => ?_
   clear hK' K'
  rotate_left 1
  focus
   obtain ⟨XS, HXS⟩ := hidE y17.heap.size
   have hXSB : B ≤ XS := (by rw [HXS.out]; exact hz17)
   have hXSe : y17.heap.size ≤ XS := Nat.le_of_eq HXS.out.symm
   refine step_slice1 rfl 106 39 _ rfl Tryz.underlying106 32 ZS hiZ2.out hZSl (by decide) (by decide) LV rfl hLVl XS HXS.out.symm ?_
   intro y18 hXS18 hb18 hs18
   have hL18 := hL17.below hb18 (by omega)
   have hk18 : Only y17.heap.size [L] y17 y18 := Only.of hb18 (by omega)
   have hz18 : B ≤ y18.heap.size := (by have := hk18.size; omega)
   have hQ18 := hk18.blk hQ17 hQ17.lt (by simp only [List.mem_singleton]; omega)
   have hI18 := rowV_only hk18 hI17 (fun b hb _ => by have := heLo.out b hb; simp only [List.mem_singleton]; omega)
   have hP18 := hk18.pt hP17 (fun b hb => ⟨hP17.lt b hb, by have := hoLo.out b hb; simp only [List.mem_singleton]; omega⟩)
   have ho18 := ho17.trans (hk18.mono (by omega) (fun k hk => Or.inl hk))
   refine ko hK' (hSS _ hQ18) fun hHeld => ?_
   clear hK' K'
   refine e1 4 rfl fun K' hK' => ?_
   have l35 := ((hk4 _ hL18).out).2.2.2
   rw [if_pos (by rfl)]
   go_simp
   refine ko hK' (hSS _ hQ18) fun hHeld => ?_
   clear hK' K'
  rotate_left 1
  all_goals
   refine e1 7 rfl fun K' hK' => ?_
   refine step_appendS rfl _ _ 106 rfl 39 (.agg ZS.toArray) 32 32 Tryz.underlying106 hinfS.out (by rw [show (Value.agg ZS.toArray).cells = ZS.toArray from rfl]; simpa using hZSl) (by decide) B _ 0 [] rfl (Mine.nil _ _ _ _) (some ⟨XS, 0, none⟩) 1 1 rfl (fun h => by cases h) LV (by rw [hLVl]) (at_row hXS18.lt hXS18.at0) hLV1 (by unfold maxLen; omega) (by omega) (by omega) 1 rfl ?_
   intro la lc y19 row19 hc19 hM19 hV19' hg19 hr19
   have hV19 : RowV y19 la LV := hV19'
   have hb19 := grownNone hg19 hr19
   have hlLo := hid (mineLow hM19 (by omega))
   have hL19 := hL18.below hb19 (by omega)
   have hk19 : Only y18.heap.size [L] y18 y19 := Only.of hb19 (by omega)
   have hz19 : B ≤ y19.heap.size := (by have := hk19.size; omega)
   have hQ19 := hk19.blk hQ18 hQ18.lt (by simp only [List.mem_singleton]; omega)
   have hI19 := rowV_only hk19 hI18 (fun b hb _ => by have := heLo.out b hb; simp only [List.mem_singleton]; omega)
   have hP19 := hk19.pt hP18 (fun b hb => ⟨hP18.lt b hb, by have := hoLo.out b hb; simp only [List.mem_singleton]; omega⟩)
   have ho19 := ho18.trans (hk19.mono (by omega) (fun k hk => Or.inl hk))
   refine ko hK' (hSS _ hQ19) fun hHeld => ?_
   clear hK' K'
   refine tq 8 rfl ?_
   refine tq 9 rfl ?_
   refine e1 10 rfl fun K' hK' => ?_
   refine step_set1 rfl 106 _ _ rfl 162 L 35 rfl (.slice la 1 lc) rfl rfl rfl (by kernel_rfl) C4 hL19 (by rw [HC4l.out]; decide) ?_
   intro y20 hL20 hg20 hbl20 hs20
   rw [(HQ5 la lc).out] at hL20
   have hk20 : Only y19.heap.size [L] y19 y20 := Only.ofG hg20 (Nat.le_refl _) (fun k hk => by injection hk with hk; right; rw [← hk]; simp)
   have hz20 : B ≤ y20.heap.size := (by have := hk20.size; omega)
   have hQ20 := hk20.blk hQ19 hQ19.lt (by simp only [List.mem_singleton]; omega)
   have hI20 := rowV_only hk20 hI19 (fun b hb _ => by have := heLo.out b hb; simp only [List.mem_singleton]; omega)
   have hV20 := rowV_only hk20 hV19 (fun b hb _ => by have := hlLo.out b hb; simp only [List.mem_singleton]; omega)
   have hP20 := hk20.pt hP19 (fun b hb => ⟨hP19.lt b hb, by have := hoLo.out b hb; simp only [List.mem_singleton]; omega⟩)
   have ho20 := ho19.trans (hk20.mono (by omega) (fun k hk => Or.inl hk))
   refine ko hK' (hSS _ hQ20) fun hHeld => ?_
   clear hK' K'
   refine wpAnyH_done (by kernel_rfl) ?_ _
   clear hHeld hSS
   go_wp2_with fail
   exact HPQ.out _ (HPL.out _ _ _ _ _ _ _ hL20 hP20 hOno hI20 hV20 hoLo.out heLo.out hlLo.out) ho20
end Go.Proofs.YtdhipjoplkpgmaaGreatDoor.hf
namespace Go.Proofs.YtdhipjoplkpgmaaGreatDoor.hf
open Go.RowKit st hs wr shr sh lk
def houC (R : List Value) (g L ms : Nat) : List Value := R ++ [.pointer (some ⟨g, 0, none⟩), .pointer (some ⟨L, 0, none⟩), .map (some ms)]
section
variable {R : List Value} {g L ms h : Nat} {w : World}
theorem hou_cells (hR : R.length = 32) (hB : BlkV 81 w h (houC R g L ms)) : w.cell? ⟨h, 32, none⟩ = some (.pointer (some ⟨g, 0, none⟩)) ∧ w.cell? ⟨h, 33, none⟩ = some (.pointer (some ⟨L, 0, none⟩)) ∧ w.cell? ⟨h, 34, none⟩ = some (.map (some ms)) := by
 refine ⟨(hB.cell 32).trans ?_, (hB.cell 33).trans ?_, (hB.cell 34).trans ?_⟩ <;> unfold houC
 ·rw [← hR, List.getElem?_append_right (Nat.le_refl _), Nat.sub_self]; rfl
 ·rw [show 33 = R.length + 1 by rw [hR], List.getElem?_append_right (by omega), Nat.add_sub_cancel_left]; rfl
 ·rw [show 34 = R.length + 2 by rw [hR], List.getElem?_append_right (by omega), Nat.add_sub_cancel_left]; rfl
theorem hou_root (hB : BlkV 81 w h (houC R g L ms)) : At w ⟨h, 0, none⟩ R := hB.at 0 R fun j u hu => by
 have hj := (List.getElem?_eq_some_iff.1 hu).1
 unfold houC
 rw [Nat.zero_add, List.getElem?_append_left hj]; exact hu
end
theorem nin1 {a x : Nat} (h1 : a ≠ x) : a ∉ [x] := by simp [h1]
theorem nin3 {a x y z : Nat} (h1 : a ≠ x) (h2 : a ≠ y) (h3 : a ≠ z) : a ∉ [x, y, z] := by simp [h1, h2, h3]
structure Founded (w : World) (B g mm mk mv L : Nat) (t : Int) (f : List Int) (rs : List ByteArray) : Prop where
 st : ∃ ra rc, StAfter w g mm mk mv 1 t ((entryS f t (bodyB f rs)).map (Value.int .u8)) (f.map (Value.int .u8)) f (.slice ra rs.length rc) ∧ RowS w ra rs ∧ (∀ b, ra = some b → rs ≠ [] → B ≤ b.block)
 led : LedOk w L B t (entryB f t (bodyB f rs)) (entryS f t (bodyB f rs))
theorem EntOk.only {w w' : World} {ks : List Nat} {t : Int} {f : List Int} {rs : List ByteArray} {ao : Option Addr} {n c : Nat} (h : EntOk w t f rs ao n c) (k : Only w.heap.size ks w w') (hp : ∀ b, ao = some b → b.block ∉ ks) : EntOk w' t f rs ao n c :=
 ⟨h.hf, h.of, h.ht, h.hE, h.hn, k.pt h.pt (fun b hb => ⟨h.pt.lt b hb, hp b hb⟩), h.no⟩
theorem StAfter.only {w w' : World} {ks : List Nat} {g mm mk mv : Nat} {cnt tm : Int} {lv fv : List Value} {f : List Int} {ro : Value} (h : StAfter w g mm mk mv cnt tm lv fv f ro) (k : Only w.heap.size ks w w') (h1 : g ∉ ks) (h2 : mm ∉ ks) (h3 : mk ∉ ks) (h4 : mv ∉ ks) : StAfter w' g mm mk mv cnt tm lv fv f ro :=
 ⟨k.blk h.blk h.blk.lt h1, h.mem.of_block (k.block _ h.mem.lt h2), h.keys.of_block (k.block _ h.keys.lt h3), (k.block _ (Array.getElem?_eq_some_iff.1 h.vot).1 h4).trans h.vot⟩
theorem LedOk.low {w : World} {L B B' : Nat} {t : Int} {E S : List Int} (h : LedOk w L B t E S) (hB : B' ≤ B) : LedOk w L B' t E S := by
 obtain ⟨oa, oc, ea, ec, la, lc, h1, h2, h3, h4, h5, h6, h7, h8⟩ := h.rows
 exact ⟨⟨oa, oc, ea, ec, la, lc, h1, h2, h3, h4, h5, fun b hb => Nat.le_trans hB (h6 b hb), fun b hb => Nat.le_trans hB (h7 b hb), fun b hb => Nat.le_trans hB (h8 b hb)⟩⟩
theorem put_ok (h g mm mk mv L ms : Nat) (R : List Value) (hR : R.length = 32) (t : Int) (f : List Int) (rs : List ByteArray) (ao : Option Addr) (n c : Nat) (w : World) (hE : EntOk w t f rs ao n c) (h0 : f ≠ List.replicate 16 0) (hS : StOk w g mm mk mv)
  (hL : BlkV 162 w L (ledC (.slice none 0 0) (.slice none 0 0) 0 zSum (.slice none 0 0))) (hH : BlkV 81 w h (houC R g L ms)) (hd : g ≠ mm ∧ g ≠ mk ∧ g ≠ mv ∧ mm ≠ mk ∧ mm ≠ mv ∧ mk ≠ mv)
  (hh : h ≠ g ∧ h ≠ mm ∧ h ≠ mv ∧ h ≠ L) (hl : L ≠ g ∧ L ≠ mm ∧ L ≠ mk ∧ L ≠ mv) (hao : ∀ b, ao = some b → b.block ≠ g ∧ b.block ≠ mm ∧ b.block ≠ mv ∧ b.block ≠ L) :
  Calls Tryz.prog 36 #[.pointer (some ⟨h, 0, none⟩), .agg (entC t (f.map (Value.int .u8)) (.slice ao n c)).toArray] w fun e w' => e = .returned (.int .i64 0) ∧ Founded w' w.heap.size g mm mk mv L t f rs ∧ Only w.heap.size [g, mm, mv, L] w w' := by
 have hFl : (f.map (Value.int .u8)).length = 16 := by rw [List.length_map, hE.hf]
 have hCl := entC_len (t := t) (bo := .slice ao n c) hFl
 have hC1 := entC_one (t := t) (bo := .slice ao n c) (ints_one .u8 f) rfl
 have hju := fun (w' : World) (hb : Below w.heap.size w w') => hid (Judge_ok g mm mk mv t f rs ao n c w' (hE.below hb) (hS.below hb (Nat.le_refl _)))
 have hap := fun (w' : World) (hb : Below w.heap.size w w') => hid (Apply_ok g mm mk mv t f rs ao n c w' (hE.below hb) h0 (hS.below hb (Nat.le_refl _)) hd)
 have had := fun (w' : World) (hk : EntOk w' t f rs ao n c) (hl : BlkV 162 w' L (ledC (.slice none 0 0) (.slice none 0 0) 0 zSum (.slice none 0 0))) => hid (Append_ok L t f rs ao n c w' hk hl)
 have hkO := fun (w' w'' : World) (hb : Below w.heap.size w w') (k : Only w'.heap.size [g, mm, mv] w' w'') => hid ((hE.below hb).only k (fun b hb => nin3 (hao b hb).1 (hao b hb).2.1 (hao b hb).2.2.1))
 obtain ⟨CS, HCS⟩ := hidE (entC t (f.map (Value.int .u8)) (.slice ao n c))
 rw [← HCS.out] at hju hap had hCl hC1 ⊢
 have hHc := fun (w' : World) (hb : BlkV 81 w' h (houC R g L ms)) => hid (hou_cells hR hb)
 obtain ⟨HC, HHC⟩ := hidE (houC R g L ms)
 rw [← HHC.out] at hH hHc
 obtain ⟨LC, HLC⟩ := hidE (ledC (.slice none 0 0) (.slice none 0 0) 0 zSum (.slice none 0 0))
 rw [← HLC.out] at hL had
 have hzd := hid zeroDec
 have hDZl : decZ.length = 4 := by rfl
 have hDFl : decF.length = 4 := by rfl
 have hDF1 : ∀ u ∈ decF, u.oneCell' = true := by decide
 obtain ⟨DZ, HDZ⟩ := hidE decZ
 obtain ⟨DF, HDF⟩ := hidE decF
 rw [← HDZ.out] at hzd hDZl
 rw [← HDF.out] at hju hDFl hDF1
 have hgw := hS.blk.lt
 have hmw := hS.mem.lt
 have hkw := hS.keys.lt
 have hvw := (Array.getElem?_eq_some_iff.1 hS.vot).1
 have hLw := hL.lt
 have hhw := hH.lt
 have hiCS : (Tryz.prog.info? 83).map (·.size) = some CS.length := by rw [hCl]; exact aggEntry.2
 obtain ⟨hh1, hh2, hh3, hh4⟩ := hh
 obtain ⟨hl1, hl2, hl3, hl4⟩ := hl
 have HAP : Hid (∀ e w' w'', ApplyPost g mm mk mv t f rs w' e w'' → e = .returned (.int .i64 0) ∧ (∃ ra rc, StAfter w'' g mm mk mv 1 t ((entryS f t (bodyB f rs)).map (Value.int .u8)) (f.map (Value.int .u8)) f (.slice ra rs.length rc) ∧ RowS w'' ra rs ∧ (∀ b, ra = some b → rs ≠ [] → w'.heap.size ≤ b.block)) ∧ Only w'.heap.size [g, mm, mv] w' w'') := hid (fun e w' w'' h => h)
 obtain ⟨B, hsz⟩ := szE w
 rw [hsz] at hju hap hkO hgw hmw hkw hvw hLw hhw ⊢
 obtain ⟨Q, HQ⟩ : ∃ Q : Ending → World → Prop, Hid (Q = fun e w' => e = .returned (.int .i64 0) ∧ Founded w' B g mm mk mv L t f rs ∧ Only B [g, mm, mv, L] w w') := ⟨_, rfl⟩
 rw [← HQ.out]
 have HPQ : Hid (∀ w', Founded w' B g mm mk mv L t f rs → Only B [g, mm, mv, L] w w' → Q (.returned (.int .i64 0)) w') := hid (by rw [HQ.out]; exact fun w' h1 h2 => ⟨rfl, h1, h2⟩)
 clear hE h0 hS hao
 go_enter Tryz.func36, Tryz.ntmps36
 go_wp2_with (first
  | (refine wl_boxV rfl 83 _ rfl CS rfl B hsz ?_; intro w1 hE1 bb1 hs1))
 have hSS : ∀ w', BlkV 81 w' h HC → BlkV 83 w' B CS → (w'.cell? ⟨h, 32, none⟩ = some (.pointer (some ⟨g, 0, none⟩)) ∧ w'.rangeAt B 0 CS) := fun w' h1 h2 => ⟨((hHc _ h1).out).1, at_range h2.at0⟩
 have hH1 := hH.below bb1 hhw
 refine wp_region_held_drew (S := (fun w' => w'.cell? ⟨h, 32, none⟩ = some (.pointer (some ⟨g, 0, none⟩)) ∧ w'.rangeAt B 0 CS)) (by kernel_rfl) (hSS w1.drew hH1 hE1) (fun hHeld => ?_)
 obtain ⟨x0, HX0⟩ := hidE w1.drew
 rw [← HX0.out] at hHeld ⊢
 have hE0 : BlkV 83 x0 B CS := by rw [HX0.out]; exact hE1
 have hH0 : BlkV 81 x0 h HC := by rw [HX0.out]; exact hH1
 have bb0 : Below B w x0 := by rw [HX0.out]; exact bb1.drew
 have hz0 : B + 1 ≤ x0.heap.size := by rw [HX0.out]; show B + 1 ≤ w1.heap.size; omega
 clear hE1 hH1 bb1 hs1
 refine tq 0 rfl ?_
 refine tq 1 rfl ?_
 refine tq 2 rfl ?_
 refine tq 3 rfl ?_
 refine tk 4 rfl (yieldsIf_load_mid (by rfl) 83 _ rfl B 0 rfl CS _ (fun w hS => hS.2) Tryz.underlying83 rfl hiCS) ?_
 refine e2 5 9 rfl rfl (fun K' hK' => ?_) fun K' hK' => ?_
 ·rw [if_pos (by rfl)]
  go_simp
  go_at_call 85
  refine (hju x0 bb0).out.mono ?_
  rintro e x1 ⟨rfl, hb1⟩
  have hE1 := hE0.below hb1 (by omega)
  have hH1 := hH0.below hb1 (by omega)
  have bb1 : Below B w x1 := bb0.trans (hb1.mono (by omega))
  have hz1 : B + 1 ≤ x1.heap.size := by have := hb1.size; omega
  refine ko hK' (hSS _ hH1 hE1) fun hHeld => ?_
  clear hK' K'
  refine tq 6 rfl ?_
  refine tq 7 rfl ?_
  refine tq 8 rfl ?_
  refine e1 9 rfl fun K' hK' => ?_
  obtain ⟨X, HX⟩ := hidE x1.heap.size
  have hXB : B + 1 ≤ X := by rw [HX.out]; exact hz1
  refine step_allocV rfl 94 rfl DZ hzd.out X HX.out.symm ?_
  intro x2 hD2 hb2 hs2
  have hE2 := hE1.below hb2 (by omega)
  have hH2 := hH1.below hb2 (by omega)
  have bb2 : Below B w x2 := bb1.trans (hb2.mono (by omega))
  have hz2 : B + 1 ≤ x2.heap.size := by have := hb2.size; omega
  refine ko hK' (hSS _ hH2 hE2) fun hHeld => ?_
  clear hK' K'
  refine e1 10 rfl fun K' hK' => ?_
  have hDl2 := hD2.lt
  refine step_storeV rfl 94 _ _ rfl 94 X rfl DF rfl 4 aggDec hDFl DZ hD2 hDZl hDF1 ?_
  intro x3 hD3 hb3 hs3
  have hE3 := hE2.below hb3 (by omega)
  have hH3 := hH2.below hb3 (by omega)
  have bb3 : Below B w x3 := bb2.trans (hb3.mono (by omega))
  have hz3 : B + 1 ≤ x3.heap.size := by have := hb3.size; omega
  refine ko hK' (hSS _ hH3 hE3) fun hHeld => ?_
  clear hK' K'
  refine tq 11 rfl ?_
  refine wpAnyH_done (by kernel_rfl) ?_ _
  clear hHeld
  go_wp2_with fail
  have hX3 := hH3
  refine wp_region_held_drew (S := (fun w' => w'.cell? ⟨h, 32, none⟩ = some (.pointer (some ⟨g, 0, none⟩)) ∧ w'.rangeAt B 0 CS)) (by kernel_rfl) (hSS x3.drew hH3 hE3) (fun hHeld => ?_)
  obtain ⟨x4, HX4⟩ := hidE x3.drew
  rw [← HX4.out] at hHeld ⊢
  have hE4 : BlkV 83 x4 B CS := by rw [HX4.out]; exact hE3
  have hH4 : BlkV 81 x4 h HC := by rw [HX4.out]; exact hH3
  have bb4 : Below B w x4 := by rw [HX4.out]; exact bb3.drew
  have hz4 : B + 1 ≤ x4.heap.size := by rw [HX4.out]; show B + 1 ≤ x3.heap.size; omega
  clear hX3
  refine tq 0 rfl ?_
  refine tq 1 rfl ?_
  refine tq 2 rfl ?_
  refine tq 3 rfl ?_
  refine tk 4 rfl (yieldsIf_load_mid (by rfl) 83 _ rfl B 0 rfl CS _ (fun w hS => hS.2) Tryz.underlying83 rfl hiCS) ?_
  refine e1 5 rfl fun K' hK' => ?_
  rw [if_pos (by rfl)]
  go_simp
  go_at_call 86
  refine (hap x4 bb4).out.mono ?_
  intro e x5 hAP
  obtain ⟨rfl, ⟨ra, rc, hA5, hR5, hlo5⟩, ho5⟩ := HAP.out _ _ _ hAP
  have hE5 := ho5.blk hE4 (by omega) (nin3 (by omega) (by omega) (by omega))
  have hH5 := ho5.blk hH4 (by omega) (nin3 hh1 hh2 hh3)
  have hz5 : B + 1 ≤ x5.heap.size := by have := ho5.size; omega
  have hEO5 := (hkO x4 x5 bb4 ho5).out
  have hL5 := ho5.blk (hL.below bb4 hLw) (by omega) (nin3 hl1 hl2 hl4)
  have hz45 := ho5.size
  refine ko hK' (hSS _ hH5 hE5) fun hHeld => ?_
  clear hK' K'
  refine tq 6 rfl ?_
  refine wpAnyH_done (by kernel_rfl) ?_ _
  clear hHeld
  go_wp2_with fail
  have hS7 : ∀ w', BlkV 81 w' h HC → BlkV 83 w' B CS → (w'.cell? ⟨h, 33, none⟩ = some (.pointer (some ⟨L, 0, none⟩)) ∧ w'.rangeAt B 0 CS) := fun w' h1 h2 => ⟨((hHc _ h1).out).2.1, at_range h2.at0⟩
  refine wp_region_held_drew (S := (fun w' => w'.cell? ⟨h, 33, none⟩ = some (.pointer (some ⟨L, 0, none⟩)) ∧ w'.rangeAt B 0 CS)) (by kernel_rfl) (hS7 x5.drew hH5 hE5) (fun hHeld => ?_)
  obtain ⟨x6, HX6⟩ := hidE x5.drew
  rw [← HX6.out] at hHeld ⊢
  have hE6 : BlkV 83 x6 B CS := by rw [HX6.out]; exact hE5
  have hH6 : BlkV 81 x6 h HC := by rw [HX6.out]; exact hH5
  have hA6 := (by rw [HX6.out]; exact ⟨hA5.blk, hA5.mem, hA5.keys, hA5.vot⟩ : StAfter x6 g mm mk mv 1 t ((entryS f t (bodyB f rs)).map (Value.int .u8)) (f.map (Value.int .u8)) f (.slice ra rs.length rc))
  have hR6 : RowS x6 ra rs := by rw [HX6.out]; exact hR5
  have hEO6 : EntOk x6 t f rs ao n c := by rw [HX6.out]; exact ⟨hEO5.hf, hEO5.of, hEO5.ht, hEO5.hE, hEO5.hn, ptDr hEO5.pt, hEO5.no⟩
  have hL6 : BlkV 162 x6 L LC := by rw [HX6.out]; exact hL5
  have hz6 : x4.heap.size ≤ x6.heap.size := by rw [HX6.out]; exact hz45
  have ho6 : Only x4.heap.size [g, mm, mv] x4 x6 := by rw [HX6.out]; exact ho5.drewd
  refine tq 0 rfl ?_
  refine tq 1 rfl ?_
  refine tq 2 rfl ?_
  refine tq 3 rfl ?_
  refine tk 4 rfl (yieldsIf_load_mid (by rfl) 83 _ rfl B 0 rfl CS _ (fun w hS => hS.2) Tryz.underlying83 rfl hiCS) ?_
  refine e1 5 rfl fun K' hK' => ?_
  rw [if_pos (by rfl)]
  go_simp
  go_at_call 87
  refine (had x6 hEO6 hL6).out.mono ?_
  rintro e x7 ⟨rfl, hLed, ho7⟩
  have hE7 := ho7.blk hE6 (by omega) (nin1 (by omega))
  have hH7 := ho7.blk hH6 (by omega) (nin1 hh4)
  have hA7 := hA6.only ho7 (nin1 (Ne.symm hl1)) (nin1 (Ne.symm hl2)) (nin1 (Ne.symm hl3)) (nin1 (Ne.symm hl4))
  have hR7 := rowS_only ho7 hR6 (fun b hb hne => ⟨rowS_lt hR6 hb hne, nin1 (by have := hlo5 b hb hne; omega)⟩)
  refine ko hK' (hS7 _ hH7 hE7) fun hHeld => ?_
  clear hK' K'
  refine tq 6 rfl ?_
  refine wpAnyH_done (by kernel_rfl) ?_ _
  clear hHeld
  go_wp2_with fail
  exact HPQ.out _ ⟨⟨ra, rc, hA7, hR7, fun b hb hne => by have := hlo5 b hb hne; omega⟩, hLed.low (by omega)⟩ ((Only.of bb4 (Nat.le_refl _)).trans ((ho6.mono (by omega) (fun k hk => Or.inl (by simp only [List.mem_cons, List.not_mem_nil, or_false] at hk ⊢; omega))).trans (ho7.mono (by omega) (fun k hk => Or.inl (by simp only [List.mem_cons, List.not_mem_nil, or_false] at hk ⊢; omega)))))
 ·obtain ⟨X, HX⟩ := hidE x0.heap.size
  have hXB : B + 1 ≤ X := by rw [HX.out]; exact hz0
  refine step_allocV rfl 94 rfl DZ hzd.out X HX.out.symm ?_
  intro x1 hD1 hb1 hs1
  have hE1 := hE0.below hb1 (by omega)
  have hH1 := hH0.below hb1 (by omega)
  have bb1 : Below B w x1 := bb0.trans (hb1.mono (by omega))
  have hz1 : B + 1 ≤ x1.heap.size := by have := hb1.size; omega
  refine ko hK' (hSS _ hH1 hE1) fun hHeld => ?_
  clear hK' K'
  refine e1 5 rfl fun K' hK' => ?_
  rw [if_pos (by rfl)]
  go_simp
  go_at_call 85
  refine (hju x1 bb1).out.mono ?_
  rintro e x2 ⟨rfl, hb2⟩
  have hE2 := hE1.below hb2 (by omega)
  have hH2 := hH1.below hb2 (by omega)
  have bb2 : Below B w x2 := bb1.trans (hb2.mono (by omega))
  have hz2 : B + 1 ≤ x2.heap.size := by have := hb2.size; omega
  have hD2 := hD1.below hb2 (by omega)
  refine ko hK' (hSS _ hH2 hE2) fun hHeld => ?_
  clear hK' K'
  refine tq 6 rfl ?_
  refine tq 7 rfl ?_
  refine tq 8 rfl ?_
  refine e1 10 rfl fun K' hK' => ?_
  have hDl2 := hD2.lt
  refine step_storeV rfl 94 _ _ rfl 94 X rfl DF rfl 4 aggDec hDFl DZ hD2 hDZl hDF1 ?_
  intro x3 hD3 hb3 hs3
  have hE3 := hE2.below hb3 (by omega)
  have hH3 := hH2.below hb3 (by omega)
  have bb3 : Below B w x3 := bb2.trans (hb3.mono (by omega))
  have hz3 : B + 1 ≤ x3.heap.size := by have := hb3.size; omega
  refine ko hK' (hSS _ hH3 hE3) fun hHeld => ?_
  clear hK' K'
  refine tq 11 rfl ?_
  refine wpAnyH_done (by kernel_rfl) ?_ _
  clear hHeld
  go_wp2_with fail
  have hX3 := hH3
  refine wp_region_held_drew (S := (fun w' => w'.cell? ⟨h, 32, none⟩ = some (.pointer (some ⟨g, 0, none⟩)) ∧ w'.rangeAt B 0 CS)) (by kernel_rfl) (hSS x3.drew hH3 hE3) (fun hHeld => ?_)
  obtain ⟨x4, HX4⟩ := hidE x3.drew
  rw [← HX4.out] at hHeld ⊢
  have hE4 : BlkV 83 x4 B CS := by rw [HX4.out]; exact hE3
  have hH4 : BlkV 81 x4 h HC := by rw [HX4.out]; exact hH3
  have bb4 : Below B w x4 := by rw [HX4.out]; exact bb3.drew
  have hz4 : B + 1 ≤ x4.heap.size := by rw [HX4.out]; show B + 1 ≤ x3.heap.size; omega
  clear hX3
  refine tq 0 rfl ?_
  refine tq 1 rfl ?_
  refine tq 2 rfl ?_
  refine tq 3 rfl ?_
  refine tk 4 rfl (yieldsIf_load_mid (by rfl) 83 _ rfl B 0 rfl CS _ (fun w hS => hS.2) Tryz.underlying83 rfl hiCS) ?_
  refine e1 5 rfl fun K' hK' => ?_
  rw [if_pos (by rfl)]
  go_simp
  go_at_call 86
  refine (hap x4 bb4).out.mono ?_
  intro e x5 hAP
  obtain ⟨rfl, ⟨ra, rc, hA5, hR5, hlo5⟩, ho5⟩ := HAP.out _ _ _ hAP
  have hE5 := ho5.blk hE4 (by omega) (nin3 (by omega) (by omega) (by omega))
  have hH5 := ho5.blk hH4 (by omega) (nin3 hh1 hh2 hh3)
  have hz5 : B + 1 ≤ x5.heap.size := by have := ho5.size; omega
  have hEO5 := (hkO x4 x5 bb4 ho5).out
  have hL5 := ho5.blk (hL.below bb4 hLw) (by omega) (nin3 hl1 hl2 hl4)
  have hz45 := ho5.size
  refine ko hK' (hSS _ hH5 hE5) fun hHeld => ?_
  clear hK' K'
  refine tq 6 rfl ?_
  refine wpAnyH_done (by kernel_rfl) ?_ _
  clear hHeld
  go_wp2_with fail
  have hS7 : ∀ w', BlkV 81 w' h HC → BlkV 83 w' B CS → (w'.cell? ⟨h, 33, none⟩ = some (.pointer (some ⟨L, 0, none⟩)) ∧ w'.rangeAt B 0 CS) := fun w' h1 h2 => ⟨((hHc _ h1).out).2.1, at_range h2.at0⟩
  refine wp_region_held_drew (S := (fun w' => w'.cell? ⟨h, 33, none⟩ = some (.pointer (some ⟨L, 0, none⟩)) ∧ w'.rangeAt B 0 CS)) (by kernel_rfl) (hS7 x5.drew hH5 hE5) (fun hHeld => ?_)
  obtain ⟨x6, HX6⟩ := hidE x5.drew
  rw [← HX6.out] at hHeld ⊢
  have hE6 : BlkV 83 x6 B CS := by rw [HX6.out]; exact hE5
  have hH6 : BlkV 81 x6 h HC := by rw [HX6.out]; exact hH5
  have hA6 := (by rw [HX6.out]; exact ⟨hA5.blk, hA5.mem, hA5.keys, hA5.vot⟩ : StAfter x6 g mm mk mv 1 t ((entryS f t (bodyB f rs)).map (Value.int .u8)) (f.map (Value.int .u8)) f (.slice ra rs.length rc))
  have hR6 : RowS x6 ra rs := by rw [HX6.out]; exact hR5
  have hEO6 : EntOk x6 t f rs ao n c := by rw [HX6.out]; exact ⟨hEO5.hf, hEO5.of, hEO5.ht, hEO5.hE, hEO5.hn, ptDr hEO5.pt, hEO5.no⟩
  have hL6 : BlkV 162 x6 L LC := by rw [HX6.out]; exact hL5
  have hz6 : x4.heap.size ≤ x6.heap.size := by rw [HX6.out]; exact hz45
  have ho6 : Only x4.heap.size [g, mm, mv] x4 x6 := by rw [HX6.out]; exact ho5.drewd
  refine tq 0 rfl ?_
  refine tq 1 rfl ?_
  refine tq 2 rfl ?_
  refine tq 3 rfl ?_
  refine tk 4 rfl (yieldsIf_load_mid (by rfl) 83 _ rfl B 0 rfl CS _ (fun w hS => hS.2) Tryz.underlying83 rfl hiCS) ?_
  refine e1 5 rfl fun K' hK' => ?_
  rw [if_pos (by rfl)]
  go_simp
  go_at_call 87
  refine (had x6 hEO6 hL6).out.mono ?_
  rintro e x7 ⟨rfl, hLed, ho7⟩
  have hE7 := ho7.blk hE6 (by omega) (nin1 (by omega))
  have hH7 := ho7.blk hH6 (by omega) (nin1 hh4)
  have hA7 := hA6.only ho7 (nin1 (Ne.symm hl1)) (nin1 (Ne.symm hl2)) (nin1 (Ne.symm hl3)) (nin1 (Ne.symm hl4))
  have hR7 := rowS_only ho7 hR6 (fun b hb hne => ⟨rowS_lt hR6 hb hne, nin1 (by have := hlo5 b hb hne; omega)⟩)
  refine ko hK' (hS7 _ hH7 hE7) fun hHeld => ?_
  clear hK' K'
  refine tq 6 rfl ?_
  refine wpAnyH_done (by kernel_rfl) ?_ _
  clear hHeld
  go_wp2_with fail
  exact HPQ.out _ ⟨⟨ra, rc, hA7, hR7, fun b hb hne => by have := hlo5 b hb hne; omega⟩, hLed.low (by omega)⟩ ((Only.of bb4 (Nat.le_refl _)).trans ((ho6.mono (by omega) (fun k hk => Or.inl (by simp only [List.mem_cons, List.not_mem_nil, or_false] at hk ⊢; omega))).trans (ho7.mono (by omega) (fun k hk => Or.inl (by simp only [List.mem_cons, List.not_mem_nil, or_false] at hk ⊢; omega)))))
end Go.Proofs.YtdhipjoplkpgmaaGreatDoor.hf
namespace Go.Proofs.YtdhipjoplkpgmaaGreatDoor.hf
open Go.RowKit st hs wr shr sh lk
theorem step_boxV {P : Program} {w : World} {ops : Array Oper} {o : Oper} {a : Act} {K : Act → World → Prop} {Q : Exit → Act → World → Prop} {E : Prop} (hgd : o.guard = none) (t : TypeId) (x : Operand) (ho : o.op = .box t x)
  (cs : List Value) (hx : a.eval x = .agg cs.toArray) (N : Nat) (hN : w.heap.size = N)
  (h : ∀ w', BlkV t w' N cs → Below N w w' → w'.heap.size = N + 1 → K (a.put o.dst (.pointer (some ⟨N, 0, none⟩))) w') : if Region.wanted o (yielded ops a.tmps) = true then Oper.wp P o a w K Q else E := by
 have hw : Region.wanted o (yielded ops a.tmps) = true := by simp [Region.wanted, hgd]
 rw [if_pos hw]
 subst hN
 unfold Oper.wp
 simp [execOp, ho, hx, Instr.box, newVar, newRow, Value.cells, Result.andThen]
 exact h _ (BlkV.new t w cs rfl) ((Below.refl _ _).alloc (Nat.le_refl _) _) (by simp)
theorem step_makeMap {P : Program} {w : World} {ops : Array Oper} {o : Oper} {a : Act} {K : Act → World → Prop} {Q : Exit → Act → World → Prop} {E : Prop} (hgd : o.guard = none) (t : TypeId) (ho : o.op = .makeMap t none) (N : Nat) (hN : w.heap.size = N)
  (h : ∀ w' : World, w'.heap[N]? = some (.map #[] 0) → Below N w w' → w'.heap.size = N + 1 → K (a.put o.dst (.map (some N))) w') : if Region.wanted o (yielded ops a.tmps) = true then Oper.wp P o a w K Q else E := by
 have hw : Region.wanted o (yielded ops a.tmps) = true := by simp [Region.wanted, hgd]
 rw [if_pos hw]
 subst hN
 unfold Oper.wp
 simp [execOp, ho, run_makeMap_plain, Result.andThen]
 exact h _ (heap_alloc_new _ _) ((Below.refl _ _).alloc (Nat.le_refl _) _) (by simp)
theorem list32 {α : Type} {F : List α} (hl : F.length = 32) : ∃ a0 a1 a2 a3 a4 a5 a6 a7 a8 a9 a10 a11 a12 a13 a14 a15 b0 b1 b2 b3 b4 b5 b6 b7 b8 b9 b10 b11 b12 b13 b14 b15, F = [a0, a1, a2, a3, a4, a5, a6, a7, a8, a9, a10, a11, a12, a13, a14, a15, b0, b1, b2, b3, b4, b5, b6, b7, b8, b9, b10, b11, b12, b13, b14, b15] := by
 obtain ⟨a0, a1, a2, a3, a4, a5, a6, a7, a8, a9, a10, a11, a12, a13, a14, a15, h1⟩ := list16 (F := F.take 16) (by rw [List.length_take]; omega)
 obtain ⟨b0, b1, b2, b3, b4, b5, b6, b7, b8, b9, b10, b11, b12, b13, b14, b15, h2⟩ := list16 (F := F.drop 16) (by rw [List.length_drop]; omega)
 exact ⟨a0, a1, a2, a3, a4, a5, a6, a7, a8, a9, a10, a11, a12, a13, a14, a15, b0, b1, b2, b3, b4, b5, b6, b7, b8, b9, b10, b11, b12, b13, b14, b15, by rw [← List.take_append_drop 16 F, h1, h2]; rfl⟩
theorem builtHouse {R : List Value} (hR : R.length = 32) (g L ms : Nat) : Tryz.prog.built 81 [(0, .agg R.toArray), (1, .pointer (some ⟨g, 0, none⟩)), (2, .pointer (some ⟨L, 0, none⟩)), (3, .map (some ms))] = some (houC R g L ms).toArray := by
 obtain ⟨a0, a1, a2, a3, a4, a5, a6, a7, a8, a9, a10, a11, a12, a13, a14, a15, b0, b1, b2, b3, b4, b5, b6, b7, b8, b9, b10, b11, b12, b13, b14, b15, rfl⟩ := list32 hR
 kernel_rfl
theorem aggKey32 : Agg Tryz.prog 23 32 := .arr Tryz.underlying23 (by kernel_rfl)
theorem Founded.low {w : World} {B B' g mm mk mv L : Nat} {t : Int} {f : List Int} {rs : List ByteArray} (h : Founded w B g mm mk mv L t f rs) (hB : B' ≤ B) : Founded w B' g mm mk mv L t f rs := by
 obtain ⟨⟨ra, rc, h1, h2, h3⟩, h4⟩ := h
 exact ⟨⟨ra, rc, h1, h2, fun b hb hne => Nat.le_trans hB (h3 b hb hne)⟩, h4.low hB⟩
structure HouseNew (w : World) (B h g mm mk mv L ms : Nat) (R : List Value) : Prop where
 hou : BlkV 81 w h (houC R g L ms)
 sec : w.heap[ms]? = some (.map #[] 0)
 low : B ≤ h ∧ B ≤ g ∧ B ≤ mm ∧ B ≤ mk ∧ B ≤ mv ∧ B ≤ L ∧ B ≤ ms
 dis : (g ≠ mm ∧ g ≠ mk ∧ g ≠ mv ∧ mm ≠ mk ∧ mm ≠ mv ∧ mk ≠ mv) ∧ (h ≠ g ∧ h ≠ mm ∧ h ≠ mv ∧ h ≠ L) ∧ (L ≠ g ∧ L ≠ mm ∧ L ≠ mk ∧ L ≠ mv) ∧ (ms ≠ g ∧ ms ≠ mm ∧ ms ≠ mv ∧ ms ≠ L)
theorem empty_ok (R : List Value) (hR : R.length = 32) (w : World) : Calls Tryz.prog 8 #[.agg R.toArray] w fun e w' => ∃ h g mm mk mv L ms, e = .returned (.pointer (some ⟨h, 0, none⟩)) ∧ StOk w' g mm mk mv ∧ BlkV 162 w' L (ledC (.slice none 0 0) (.slice none 0 0) 0 zSum (.slice none 0 0)) ∧ HouseNew w' w.heap.size h g mm mk mv L ms R ∧ Below w.heap.size w w' := by
 have hbh := fun g L ms => hid (builtHouse hR g L ms)
 obtain ⟨LC, HLC⟩ := hidE (ledC (.slice none 0 0) (.slice none 0 0) 0 zSum (.slice none 0 0))
 have hnl := fun w' => hid (NewLedger_ok w')
 rw [← HLC.out] at hnl ⊢
 have hiR : (Tryz.prog.info? 23).map (·.size) = some R.length := by rw [hR]; exact aggKey32.2
 obtain ⟨B, hsz⟩ := szE w
 rw [hsz]
 obtain ⟨Q, HQ⟩ : ∃ Q : Ending → World → Prop, Hid (Q = fun e w' => ∃ h g mm mk mv L ms, e = .returned (.pointer (some ⟨h, 0, none⟩)) ∧ StOk w' g mm mk mv ∧ BlkV 162 w' L LC ∧ HouseNew w' B h g mm mk mv L ms R ∧ Below B w w') := ⟨_, rfl⟩
 rw [← HQ.out]
 have HPQ : Hid (∀ w' h g mm mk mv L ms, StOk w' g mm mk mv → BlkV 162 w' L LC → HouseNew w' B h g mm mk mv L ms R → Below B w w' → Q (.returned (.pointer (some ⟨h, 0, none⟩))) w') := hid (by rw [HQ.out]; exact fun w' h g mm mk mv L ms h1 h2 h3 h4 => ⟨h, g, mm, mk, mv, L, ms, rfl, h1, h2, h3, h4⟩)
 go_enter Tryz.func8, Tryz.ntmps8
 go_wp2_with (first
  | (refine wl_boxV rfl 23 _ rfl R rfl B hsz ?_; intro w1 hE1 bb1 hs1))
 have hSS : ∀ w', BlkV 23 w' B R → w'.rangeAt B 0 R := fun w' h1 => at_range h1.at0
 refine wp_region_held_drew (S := (fun w' => w'.rangeAt B 0 R)) (by kernel_rfl) (hSS w1.drew hE1) (fun hHeld => ?_)
 obtain ⟨x0, HX0⟩ := hidE w1.drew
 rw [← HX0.out] at hHeld ⊢
 have hE0 : BlkV 23 x0 B R := by rw [HX0.out]; exact hE1
 have bb0 : Below B w x0 := by rw [HX0.out]; exact bb1.drew
 have hz0 : B + 1 ≤ x0.heap.size := by rw [HX0.out]; show B + 1 ≤ w1.heap.size; omega
 clear hE1 bb1 hs1
 refine tk 0 rfl (yieldsIf_load_mid (by rfl) 23 _ rfl B 0 rfl R _ (fun w hS => hS) Tryz.underlying23 rfl hiR) ?_
 refine e2 1 3 rfl rfl (fun K' hK' => ?_) fun K' hK' => ?_
 focus
  rw [if_pos (by rfl)]
  go_simp
  go_at_call 33
  refine (NewState_ok x0).mono ?_
  rintro e x1 ⟨g, mm, mk, mv, rfl, hS1, ⟨q1, q2, q3, q4⟩, hdd, hb1⟩
  have r1 := hS1.blk.lt
  have r2 := hS1.mem.lt
  have r3 := hS1.keys.lt
  have r4 := (Array.getElem?_eq_some_iff.1 hS1.vot).1
  have hE1 := hE0.below hb1 (by omega)
  have bb1 : Below B w x1 := bb0.trans (hb1.mono (by omega))
  have hz1 : B + 1 ≤ x1.heap.size := by have := hb1.size; omega
  have hzz1 := hb1.size
  refine ko hK' (hSS _ hE1) fun hHeld => ?_
  clear hK' K'
  refine e2 2 3 rfl rfl (fun K' hK' => ?_) fun K' hK' => ?_
  focus
   rw [if_pos (by rfl)]
   go_simp
   go_at_call 34
   refine (hnl x1).out.mono ?_
   rintro e x2 ⟨L, rfl, hLg2, q5, hb2⟩
   have r5 := hLg2.lt
   have hE2 := hE1.below hb2 (by omega)
   have bb2 : Below B w x2 := bb1.trans (hb2.mono (by omega))
   have hz2 : B + 1 ≤ x2.heap.size := by have := hb2.size; omega
   have hzz2 := hb2.size
   have hS2 := hS1.below hb2 (by omega)
   refine ko hK' (hSS _ hE2) fun hHeld => ?_
   clear hK' K'
   refine e1 3 rfl fun K' hK' => ?_
   obtain ⟨ms, Hms⟩ := hidE x2.heap.size
   have hmse : ms ≤ x2.heap.size := Nat.le_of_eq Hms.out
   have hmsf : x2.heap.size ≤ ms := Nat.le_of_eq Hms.out.symm
   refine step_makeMap rfl _ rfl ms Hms.out.symm ?_
   intro x3 hM3 hb3 hs3
   have hE3 := hE2.below hb3 (by omega)
   have bb3 : Below B w x3 := bb2.trans (hb3.mono (by omega))
   have hz3 : B + 1 ≤ x3.heap.size := by have := hb3.size; omega
   have hzz3 := hb3.size
   have hS3 := hS2.below hb3 (by omega)
   have hLg3 := hLg2.below hb3 (by omega)
   refine ko hK' (hSS _ hE3) fun hHeld => ?_
   clear hK' K'
   refine tk 4 rfl (yieldsIf_build (by rfl) 81 _ rfl [(0, .agg R.toArray), (1, .pointer (some ⟨g, 0, none⟩)), (2, .pointer (some ⟨L, 0, none⟩)), (3, .map (some ms))] rfl (houC R g L ms) (hbh g L ms).out) ?_
  rotate_left 1
  focus
   obtain ⟨ms, Hms⟩ := hidE x1.heap.size
   have hmse : ms ≤ x1.heap.size := Nat.le_of_eq Hms.out
   have hmsf : x1.heap.size ≤ ms := Nat.le_of_eq Hms.out.symm
   refine step_makeMap rfl _ rfl ms Hms.out.symm ?_
   intro x2 hM2 hb2 hs2
   have hE2 := hE1.below hb2 (by omega)
   have bb2 : Below B w x2 := bb1.trans (hb2.mono (by omega))
   have hz2 : B + 1 ≤ x2.heap.size := by have := hb2.size; omega
   have hzz2 := hb2.size
   have hS2 := hS1.below hb2 (by omega)
   refine ko hK' (hSS _ hE2) fun hHeld => ?_
   clear hK' K'
   refine e1 2 rfl fun K' hK' => ?_
   rw [if_pos (by rfl)]
   go_simp
   go_at_call 34
   refine (hnl x2).out.mono ?_
   rintro e x3 ⟨L, rfl, hLg3, q5, hb3⟩
   have r5 := hLg3.lt
   have hE3 := hE2.below hb3 (by omega)
   have bb3 : Below B w x3 := bb2.trans (hb3.mono (by omega))
   have hz3 : B + 1 ≤ x3.heap.size := by have := hb3.size; omega
   have hzz3 := hb3.size
   have hS3 := hS2.below hb3 (by omega)
   have hM3 : x3.heap[ms]? = some (.map #[] 0) := (hb3.block ms (by omega)).trans hM2
   refine ko hK' (hSS _ hE3) fun hHeld => ?_
   clear hK' K'
   refine tk 4 rfl (yieldsIf_build (by rfl) 81 _ rfl [(0, .agg R.toArray), (1, .pointer (some ⟨g, 0, none⟩)), (2, .pointer (some ⟨L, 0, none⟩)), (3, .map (some ms))] rfl (houC R g L ms) (hbh g L ms).out) ?_
  rotate_left 1
 rotate_left 2
 focus
  obtain ⟨ms, Hms⟩ := hidE x0.heap.size
  have hmse : ms ≤ x0.heap.size := Nat.le_of_eq Hms.out
  have hmsf : x0.heap.size ≤ ms := Nat.le_of_eq Hms.out.symm
  refine step_makeMap rfl _ rfl ms Hms.out.symm ?_
  intro x1 hM1 hb1 hs1
  have hE1 := hE0.below hb1 (by omega)
  have bb1 : Below B w x1 := bb0.trans (hb1.mono (by omega))
  have hz1 : B + 1 ≤ x1.heap.size := by have := hb1.size; omega
  have hzz1 := hb1.size
  refine ko hK' (hSS _ hE1) fun hHeld => ?_
  clear hK' K'
  refine e1 1 rfl fun K' hK' => ?_
  rw [if_pos (by rfl)]
  go_simp
  go_at_call 33
  refine (NewState_ok x1).mono ?_
  rintro e x2 ⟨g, mm, mk, mv, rfl, hS2, ⟨q1, q2, q3, q4⟩, hdd, hb2⟩
  have r1 := hS2.blk.lt
  have r2 := hS2.mem.lt
  have r3 := hS2.keys.lt
  have r4 := (Array.getElem?_eq_some_iff.1 hS2.vot).1
  have hE2 := hE1.below hb2 (by omega)
  have bb2 : Below B w x2 := bb1.trans (hb2.mono (by omega))
  have hz2 : B + 1 ≤ x2.heap.size := by have := hb2.size; omega
  have hzz2 := hb2.size
  have hM2 : x2.heap[ms]? = some (.map #[] 0) := (hb2.block ms (by omega)).trans hM1
  refine ko hK' (hSS _ hE2) fun hHeld => ?_
  clear hK' K'
  refine e1 2 rfl fun K' hK' => ?_
  rw [if_pos (by rfl)]
  go_simp
  go_at_call 34
  refine (hnl x2).out.mono ?_
  rintro e x3 ⟨L, rfl, hLg3, q5, hb3⟩
  have r5 := hLg3.lt
  have hE3 := hE2.below hb3 (by omega)
  have bb3 : Below B w x3 := bb2.trans (hb3.mono (by omega))
  have hz3 : B + 1 ≤ x3.heap.size := by have := hb3.size; omega
  have hzz3 := hb3.size
  have hS3 := hS2.below hb3 (by omega)
  have hM3 : x3.heap[ms]? = some (.map #[] 0) := (hb3.block ms (by omega)).trans hM2
  refine ko hK' (hSS _ hE3) fun hHeld => ?_
  clear hK' K'
  refine tk 4 rfl (yieldsIf_build (by rfl) 81 _ rfl [(0, .agg R.toArray), (1, .pointer (some ⟨g, 0, none⟩)), (2, .pointer (some ⟨L, 0, none⟩)), (3, .map (some ms))] rfl (houC R g L ms) (hbh g L ms).out) ?_
 rotate_left 1
 all_goals
  refine e1 5 rfl fun K' hK' => ?_
  obtain ⟨X, HX⟩ := hidE x3.heap.size
  have hXe : X ≤ x3.heap.size := Nat.le_of_eq HX.out
  have hXf : x3.heap.size ≤ X := Nat.le_of_eq HX.out.symm
  refine step_boxV rfl 81 _ rfl (houC R g L ms) rfl X HX.out.symm ?_
  intro x4 hH4 hb4 hs4
  have hE4 := hE3.below hb4 (by omega)
  have bb4 : Below B w x4 := bb3.trans (hb4.mono (by omega))
  have hz4 : B + 1 ≤ x4.heap.size := by have := hb4.size; omega
  have hzz4 := hb4.size
  have hS4 := hS3.below hb4 (by omega)
  have hLg4 := hLg3.below hb4 (by omega)
  have hM4 : x4.heap[ms]? = some (.map #[] 0) := (hb4.block ms (by omega)).trans hM3
  refine ko hK' (hSS _ hE4) fun hHeld => ?_
  clear hK' K'
  refine tq 6 rfl ?_
  refine wpAnyH_done (by kernel_rfl) ?_ _
  clear hHeld
  go_wp2_with fail
  obtain ⟨d1, d2, d3, d4, d5, d6⟩ := hdd
  exact HPQ.out _ _ _ _ _ _ _ _ hS4 hLg4 ⟨hH4, hM4, ⟨by omega, by omega, by omega, by omega, by omega, by omega, by omega⟩, ⟨d1, d2, d3, d4, d5, d6⟩, ⟨by omega, by omega, by omega, by omega⟩, ⟨by omega, by omega, by omega, by omega⟩, ⟨by omega, by omega, by omega, by omega⟩⟩ bb4
theorem write_err (h g mm mk mv L ms : Nat) (R : List Value) (hR : R.length = 32) (t : Int) (f : List Int) (hf : f.length = 16) (bo : Value) (cd : Int) (w : World) (hcd : cd ≠ 0) (hH : BlkV 81 w h (houC R g L ms)) (hbo : bo.oneCell' = true)
  (hN : ∀ w', Below w.heap.size w w' → Calls Tryz.prog 35 #[.pointer (some ⟨g, 0, none⟩), .int .i64 t, .int .i64 2, .agg (f.map (Value.int .u8)).toArray, .agg zID.toArray, .agg (bodyC (f.map (Value.int .u8)) bo).toArray] w' (fun e w'' => e = .returned (.tuple #[.agg entZ.toArray, .int .i64 cd]) ∧ Below w'.heap.size w' w'')) :
  Calls Tryz.prog 9 #[.pointer (some ⟨h, 0, none⟩), .int .i64 t, .int .i64 2, .agg (f.map (Value.int .u8)).toArray, .agg zID.toArray, .agg (bodyC (f.map (Value.int .u8)) bo).toArray] w fun e w' => e = .returned (.int .i64 cd) ∧ Below w.heap.size w w' := by
 have HP : Hid (∀ w', Below w.heap.size w w' → (fun (e : Ending) w' => e = .returned (.int .i64 cd) ∧ Below w.heap.size w w') (.returned (.int .i64 cd)) w') := hid (fun w' h => ⟨rfl, h⟩)
 have hnx := fun (w' : World) (hb : Below w.heap.size w w') => hid (hN w' hb)
 have hES1 : ∀ u ∈ entZ, u.oneCell' = true := by decide
 have hESl : entZ.length = 68 := by rfl
 have hcd' : decide (cd = 0) = false := by simp [hcd]
 obtain ⟨ES, HES⟩ := hidE entZ
 rw [← HES.out] at hnx hESl hES1
 have hFl : (f.map (Value.int .u8)).length = 16 := by rw [List.length_map, hf]
 have hBl := bodyC_len (ro := bo) hFl
 have hHc := fun (w' : World) (hb : BlkV 81 w' h (houC R g L ms)) => hid (hou_cells hR hb)
 obtain ⟨HC, HHC⟩ := hidE (houC R g L ms)
 rw [← HHC.out] at hH hHc
 obtain ⟨BS, HBS⟩ := hidE (bodyC (f.map (Value.int .u8)) bo)
 rw [← HBS.out] at hBl hnx ⊢
 obtain ⟨F, HF⟩ := hidE (f.map (Value.int .u8))
 rw [← HF.out] at hFl hnx ⊢
 obtain ⟨ZI, HZI⟩ := hidE zID
 have hZIl : ZI.length = 16 := by rw [HZI.out]; rfl
 rw [← HZI.out] at hnx ⊢
 have hze := hid zeroEntry
 have hZEl : entZ.length = 68 := by rfl
 obtain ⟨ZE, HZE⟩ := hidE entZ
 rw [← HZE.out] at hze hZEl
 have hhw := hH.lt
 have hiF : (Tryz.prog.info? 25).map (·.size) = some F.length := by rw [hFl]; exact aggIDT.2
 have hiZI : (Tryz.prog.info? 25).map (·.size) = some ZI.length := by rw [hZIl]; exact aggIDT.2
 have hiBS : (Tryz.prog.info? 42).map (·.size) = some BS.length := by rw [hBl]; exact aggBody.2
 obtain ⟨B, hsz⟩ := szE w
 rw [hsz] at hnx HP hhw ⊢
 obtain ⟨Q, HQ⟩ : ∃ Q : Ending → World → Prop, Hid (Q = fun e w' => e = .returned (.int .i64 cd) ∧ Below B w w') := ⟨_, rfl⟩
 rw [← HQ.out]
 have HPQ := HP.out
 rw [← HQ.out] at HPQ
 replace HPQ := hid HPQ
 clear hN
 go_enter Tryz.func9, Tryz.ntmps9
 go_wp2_with (first
  | (refine wl_boxV rfl 42 _ rfl BS rfl (B + 2) (by omega) ?_; intro w3 hY3 hb3 hs3; have hI3 := hI2.below hb3 (by omega); have hE3 := hE2.below hb3 (by omega); have bb3 : Below B w w3 := bb2.trans (hb3.mono (by omega)))
  | (refine wl_boxV rfl 25 _ rfl ZI rfl (B + 1) (by omega) ?_; intro w2 hI2 hb2 hs2; have hE2 := hE1.below hb2 (by omega); have bb2 : Below B w w2 := bb1.trans (hb2.mono (by omega)))
  | (refine wl_boxV rfl 25 _ rfl F rfl B hsz ?_; intro w1 hE1 bb1 hs1))
 have hSS : ∀ w', BlkV 81 w' h HC → BlkV 25 w' B F → BlkV 25 w' (B + 1) ZI → BlkV 42 w' (B + 2) BS → (w'.cell? ⟨h, 32, none⟩ = some (.pointer (some ⟨g, 0, none⟩)) ∧ w'.rangeAt B 0 F ∧ w'.rangeAt (B + 1) 0 ZI ∧ w'.rangeAt (B + 2) 0 BS) := fun w' h1 h2 h3 h4 => ⟨((hHc _ h1).out).1, at_range h2.at0, at_range h3.at0, at_range h4.at0⟩
 have hH3 := hH.below bb3 hhw
 refine wp_region_held_drew (S := (fun w' => w'.cell? ⟨h, 32, none⟩ = some (.pointer (some ⟨g, 0, none⟩)) ∧ w'.rangeAt B 0 F ∧ w'.rangeAt (B + 1) 0 ZI ∧ w'.rangeAt (B + 2) 0 BS)) (by kernel_rfl) (hSS w3.drew hH3 hE3 hI3 hY3) (fun hHeld => ?_)
 obtain ⟨x0, HX0⟩ := hidE w3.drew
 rw [← HX0.out] at hHeld ⊢
 have hE0 : BlkV 25 x0 B F := by rw [HX0.out]; exact hE3
 have hI0 : BlkV 25 x0 (B + 1) ZI := by rw [HX0.out]; exact hI3
 have hY0 : BlkV 42 x0 (B + 2) BS := by rw [HX0.out]; exact hY3
 have hH0 : BlkV 81 x0 h HC := by rw [HX0.out]; exact hH3
 have bb0 : Below B w x0 := by rw [HX0.out]; exact bb3.drew
 have hz0 : B + 3 ≤ x0.heap.size := by rw [HX0.out]; show B + 3 ≤ w3.heap.size; omega
 clear hE3 hI3 hY3 hH3 bb3 hs3
 refine tq 0 rfl ?_
 refine tq 1 rfl ?_
 refine tq 2 rfl ?_
 refine tq 3 rfl ?_
 refine tq 4 rfl ?_
 refine tq 5 rfl ?_
 refine tk 6 rfl (yieldsIf_load_mid (by rfl) 25 _ rfl B 0 rfl F _ (fun w hS => hS.2.1) Tryz.underlying25 rfl hiF) ?_
 refine tk 7 rfl (yieldsIf_load_mid (by rfl) 25 _ rfl (B + 1) 0 rfl ZI _ (fun w hS => hS.2.2.1) Tryz.underlying25 rfl hiZI) ?_
 refine tk 8 rfl (yieldsIf_load_mid (by rfl) 42 _ rfl (B + 2) 0 rfl BS _ (fun w hS => hS.2.2.2) Tryz.underlying42 rfl hiBS) ?_
 refine e2 9 13 rfl rfl (fun K' hK' => ?_) fun K' hK' => ?_
 focus
  rw [if_pos (by rfl)]
  go_simp
  go_at_call 35
  refine (hnx x0 bb0).out.mono ?_
  rintro e x1 ⟨rfl, hb1⟩
  have hE1 := hE0.below hb1 (by omega)
  have hI1 := hI0.below hb1 (by omega)
  have hY1 := hY0.below hb1 (by omega)
  have hH1 := hH0.below hb1 (by omega)
  have bb1 : Below B w x1 := bb0.trans (hb1.mono (by omega))
  have hz1 : B + 3 ≤ x1.heap.size := by have := hb1.size; omega
  refine ko hK' (hSS _ hH1 hE1 hI1 hY1) fun hHeld => ?_
  clear hK' K'
  refine tq 10 rfl ?_
  refine tq 11 rfl ?_
  refine tq 12 rfl ?_
  refine e1 13 rfl fun K' hK' => ?_
  obtain ⟨X, HX⟩ := hidE x1.heap.size
  have hXB : B + 3 ≤ X := by rw [HX.out]; exact hz1
  have hXe : x1.heap.size ≤ X := Nat.le_of_eq HX.out.symm
  refine step_allocV rfl 83 rfl ZE hze.out X HX.out.symm ?_
  intro x2 hD2 hb2' hs2
  have hb2 : Below x1.heap.size x1 x2 := hb2'.mono hXe
  have hE2 := hE1.below hb2 (by omega)
  have hI2 := hI1.below hb2 (by omega)
  have hY2 := hY1.below hb2 (by omega)
  have hH2 := hH1.below hb2 (by omega)
  have bb2 : Below B w x2 := bb1.trans (hb2.mono (by omega))
  have hz2 : B + 3 ≤ x2.heap.size := by have := hb2.size; omega
  refine ko hK' (hSS _ hH2 hE2 hI2 hY2) fun hHeld => ?_
  clear hK' K'
 rotate_left 1
 focus
  obtain ⟨X, HX⟩ := hidE x0.heap.size
  have hXB : B + 3 ≤ X := by rw [HX.out]; exact hz0
  have hXe : x0.heap.size ≤ X := Nat.le_of_eq HX.out.symm
  refine step_allocV rfl 83 rfl ZE hze.out X HX.out.symm ?_
  intro x1 hD1 hb1' hs1
  have hb1 : Below x0.heap.size x0 x1 := hb1'.mono hXe
  have hE1 := hE0.below hb1 (by omega)
  have hI1 := hI0.below hb1 (by omega)
  have hY1 := hY0.below hb1 (by omega)
  have hH1 := hH0.below hb1 (by omega)
  have bb1 : Below B w x1 := bb0.trans (hb1.mono (by omega))
  have hz1 : B + 3 ≤ x1.heap.size := by have := hb1.size; omega
  refine ko hK' (hSS _ hH1 hE1 hI1 hY1) fun hHeld => ?_
  clear hK' K'
  refine e1 9 rfl fun K' hK' => ?_
  rw [if_pos (by rfl)]
  go_simp
  go_at_call 35
  refine (hnx x1 bb1).out.mono ?_
  rintro e x2 ⟨rfl, hb2⟩
  have hE2 := hE1.below hb2 (by omega)
  have hI2 := hI1.below hb2 (by omega)
  have hY2 := hY1.below hb2 (by omega)
  have hH2 := hH1.below hb2 (by omega)
  have bb2 : Below B w x2 := bb1.trans (hb2.mono (by omega))
  have hz2 : B + 3 ≤ x2.heap.size := by have := hb2.size; omega
  have hD2 := hD1.below hb2 (by omega)
  refine ko hK' (hSS _ hH2 hE2 hI2 hY2) fun hHeld => ?_
  clear hK' K'
  refine tq 10 rfl ?_
  refine tq 11 rfl ?_
  refine tq 12 rfl ?_
 rotate_left 1
 all_goals
  refine e1 14 rfl fun K' hK' => ?_
  have hDl2 := hD2.lt
  have HDS : ZE.take 0 ++ ES ++ ZE.drop (0 + 68) = ES := by rw [List.drop_eq_nil_of_le (by omega)]; simp
  refine step_storeP rfl 83 _ _ rfl 83 X 0 rfl ES rfl 68 aggEntry hESl ZE hD2 (by rw [hZEl]; decide) hES1 ES HDS ?_
  intro x3 hD3 hb3 hg3 hs3
  have hE3 := hE2.below hb3 (by omega)
  have hI3 := hI2.below hb3 (by omega)
  have hY3 := hY2.below hb3 (by omega)
  have hH3 := hH2.below hb3 (by omega)
  have bb3 : Below B w x3 := bb2.trans (hb3.mono (by omega))
  have hz3 : B + 3 ≤ x3.heap.size := by have := hb3.size; omega
  refine ko hK' (hSS _ hH3 hE3 hI3 hY3) fun hHeld => ?_
  clear hK' K'
  refine tq 15 rfl ?_
  refine wpAnyH_done (by kernel_rfl) ?_ _
  clear hHeld
  go_wp2_with fail
  exact HPQ.out _ bb3
theorem write_ok (h g mm mk mv L ms B0 : Nat) (R : List Value) (hR : R.length = 32) (t : Int) (f : List Int) (hf : f.length = 16) (of : Octs f) (h0 : f ≠ List.replicate 16 0) (ao : Option Addr) (cap : Nat) (rs : List ByteArray) (w : World) (hr : RowS w ao rs) (hs : ∀ i, i < rs.length → (roleAt rs i).size ≤ maxLen) (hn : rs.length ≤ 9223372036854775807) (hE : bodyE rs = 0) (ht : timeE t = 0)
  (hS : StOk w g mm mk mv) (hL : BlkV 162 w L (ledC (.slice none 0 0) (.slice none 0 0) 0 zSum (.slice none 0 0))) (hHN : HouseNew w B0 h g mm mk mv L ms R) :
  Calls Tryz.prog 9 #[.pointer (some ⟨h, 0, none⟩), .int .i64 t, .int .i64 2, .agg (f.map (Value.int .u8)).toArray, .agg zID.toArray, .agg (bodyC (f.map (Value.int .u8)) (.slice ao rs.length cap)).toArray] w fun e w' => e = .returned (.int .i64 0) ∧ Founded w' w.heap.size g mm mk mv L t f rs ∧ Only w.heap.size [g, mm, mv, L] w w' := by
 have hH := hHN.hou
 obtain ⟨hd, hh, hl, _⟩ := hHN.dis
 have HP : Hid (∀ w', Founded w' w.heap.size g mm mk mv L t f rs → Only w.heap.size [g, mm, mv, L] w w' → (fun (e : Ending) w' => e = .returned (.int .i64 0) ∧ Founded w' w.heap.size g mm mk mv L t f rs ∧ Only w.heap.size [g, mm, mv, L] w w') (.returned (.int .i64 0)) w') := hid (fun w' h1 h2 => ⟨rfl, h1, h2⟩)
 have hbo : (Value.slice ao rs.length cap).oneCell' = true := rfl
 have hNX : Hid (∀ e w' w'', NextPost t f rs w' e w'' → ∃ gb c, e = .returned (.tuple #[.agg (entC t (f.map (Value.int .u8)) (.slice (some ⟨gb, 0, none⟩) (bodyB f rs).length c)).toArray, .int .i64 0]) ∧ w'.heap.size ≤ gb ∧ gb < w''.heap.size ∧ Pt.Ok w'' ⟨some ⟨gb, 0, none⟩, c, bodyB f rs⟩ ∧ Below w'.heap.size w' w'') := hid (fun e w' w'' h => by
  obtain ⟨hb, h | h | ⟨_, _, gb, c, h1, h2, h3, h4⟩⟩ := h
  ·exact absurd hE h.1
  ·exact absurd ht h.2.1
  ·exact ⟨gb, c, h1, h2, h3, h4, hb⟩)
 have hnx := fun (w' : World) (hb : Below w.heap.size w w') => hid (Next_ok g mm mk mv t f hf of ao cap rs w' (hS.below hb (Nat.le_refl _)).blk (hr.below hb) hs hn hE ht)
 have hpu := fun (w' : World) (gb c : Nat) (hE' : EntOk w' t f rs (some ⟨gb, 0, none⟩) (bodyB f rs).length c) (hb : Below w.heap.size w w') (hg : w.heap.size ≤ gb) => hid (put_ok h g mm mk mv L ms R hR t f rs (some ⟨gb, 0, none⟩) (bodyB f rs).length c w' hE' h0 (hS.below hb (Nat.le_refl _)) (hL.below hb hL.lt) (hH.below hb hH.lt) hd hh hl (fun b e => by
  injection e with e; subst e
  have q1 := hS.blk.lt
  have q2 := hS.mem.lt
  have q3 := (Array.getElem?_eq_some_iff.1 hS.vot).1
  have q4 := hL.lt
  exact ⟨by show gb ≠ g; omega, by show gb ≠ mm; omega, by show gb ≠ mv; omega, by show gb ≠ L; omega⟩))
 have HEnt : Hid (∀ (w' : World) gb c, Pt.Ok w' ⟨some ⟨gb, 0, none⟩, c, bodyB f rs⟩ → EntOk w' t f rs (some ⟨gb, 0, none⟩) (bodyB f rs).length c) := hid (fun w' gb c h => ⟨hf, of, ht, hE, rfl, h, fun e => by cases e⟩)
 have hFl0 : (f.map (Value.int .u8)).length = 16 := by rw [List.length_map, hf]
 have HEl := fun bo => hid (entC_len (t := t) (bo := bo) hFl0)
 have HE1 := fun bo h => hid (entC_one (t := t) (bo := bo) (ints_one .u8 f) h)
 have hgw := hS.blk.lt
 have hmw := hS.mem.lt
 have hvw := (Array.getElem?_eq_some_iff.1 hS.vot).1
 have hLw := hL.lt
 obtain ⟨bo, HBO⟩ := hidE (Value.slice ao rs.length cap)
 rw [← HBO.out] at hnx hbo ⊢
 have hFl : (f.map (Value.int .u8)).length = 16 := by rw [List.length_map, hf]
 have hBl := bodyC_len (ro := bo) hFl
 have hHc := fun (w' : World) (hb : BlkV 81 w' h (houC R g L ms)) => hid (hou_cells hR hb)
 obtain ⟨HC, HHC⟩ := hidE (houC R g L ms)
 rw [← HHC.out] at hH hHc
 obtain ⟨BS, HBS⟩ := hidE (bodyC (f.map (Value.int .u8)) bo)
 rw [← HBS.out] at hBl hnx ⊢
 obtain ⟨F, HF⟩ := hidE (f.map (Value.int .u8))
 rw [← HF.out] at hFl hnx ⊢
 obtain ⟨ZI, HZI⟩ := hidE zID
 have hZIl : ZI.length = 16 := by rw [HZI.out]; rfl
 rw [← HZI.out] at hnx ⊢
 have hze := hid zeroEntry
 have hZEl : entZ.length = 68 := by rfl
 obtain ⟨ZE, HZE⟩ := hidE entZ
 rw [← HZE.out] at hze hZEl
 have hhw := hH.lt
 have hiF : (Tryz.prog.info? 25).map (·.size) = some F.length := by rw [hFl]; exact aggIDT.2
 have hiZI : (Tryz.prog.info? 25).map (·.size) = some ZI.length := by rw [hZIl]; exact aggIDT.2
 have hiBS : (Tryz.prog.info? 42).map (·.size) = some BS.length := by rw [hBl]; exact aggBody.2
 obtain ⟨B, hsz⟩ := szE w
 rw [hsz] at hnx HP hhw hpu hgw hmw hvw hLw ⊢
 obtain ⟨Q, HQ⟩ : ∃ Q : Ending → World → Prop, Hid (Q = fun e w' => e = .returned (.int .i64 0) ∧ Founded w' B g mm mk mv L t f rs ∧ Only B [g, mm, mv, L] w w') := ⟨_, rfl⟩
 rw [← HQ.out]
 have HPQ := HP.out
 rw [← HQ.out] at HPQ
 replace HPQ := hid HPQ
 clear hS hr hs hn hL hHN h0
 go_enter Tryz.func9, Tryz.ntmps9
 go_wp2_with (first
  | (refine wl_boxV rfl 42 _ rfl BS rfl (B + 2) (by omega) ?_; intro w3 hY3 hb3 hs3; have hI3 := hI2.below hb3 (by omega); have hE3 := hE2.below hb3 (by omega); have bb3 : Below B w w3 := bb2.trans (hb3.mono (by omega)))
  | (refine wl_boxV rfl 25 _ rfl ZI rfl (B + 1) (by omega) ?_; intro w2 hI2 hb2 hs2; have hE2 := hE1.below hb2 (by omega); have bb2 : Below B w w2 := bb1.trans (hb2.mono (by omega)))
  | (refine wl_boxV rfl 25 _ rfl F rfl B hsz ?_; intro w1 hE1 bb1 hs1))
 have hSS : ∀ w', BlkV 81 w' h HC → BlkV 25 w' B F → BlkV 25 w' (B + 1) ZI → BlkV 42 w' (B + 2) BS → (w'.cell? ⟨h, 32, none⟩ = some (.pointer (some ⟨g, 0, none⟩)) ∧ w'.rangeAt B 0 F ∧ w'.rangeAt (B + 1) 0 ZI ∧ w'.rangeAt (B + 2) 0 BS) := fun w' h1 h2 h3 h4 => ⟨((hHc _ h1).out).1, at_range h2.at0, at_range h3.at0, at_range h4.at0⟩
 have hH3 := hH.below bb3 hhw
 refine wp_region_held_drew (S := (fun w' => w'.cell? ⟨h, 32, none⟩ = some (.pointer (some ⟨g, 0, none⟩)) ∧ w'.rangeAt B 0 F ∧ w'.rangeAt (B + 1) 0 ZI ∧ w'.rangeAt (B + 2) 0 BS)) (by kernel_rfl) (hSS w3.drew hH3 hE3 hI3 hY3) (fun hHeld => ?_)
 obtain ⟨x0, HX0⟩ := hidE w3.drew
 rw [← HX0.out] at hHeld ⊢
 have hE0 : BlkV 25 x0 B F := by rw [HX0.out]; exact hE3
 have hI0 : BlkV 25 x0 (B + 1) ZI := by rw [HX0.out]; exact hI3
 have hY0 : BlkV 42 x0 (B + 2) BS := by rw [HX0.out]; exact hY3
 have hH0 : BlkV 81 x0 h HC := by rw [HX0.out]; exact hH3
 have bb0 : Below B w x0 := by rw [HX0.out]; exact bb3.drew
 have hz0 : B + 3 ≤ x0.heap.size := by rw [HX0.out]; show B + 3 ≤ w3.heap.size; omega
 clear hE3 hI3 hY3 hH3 bb3 hs3
 refine tq 0 rfl ?_
 refine tq 1 rfl ?_
 refine tq 2 rfl ?_
 refine tq 3 rfl ?_
 refine tq 4 rfl ?_
 refine tq 5 rfl ?_
 refine tk 6 rfl (yieldsIf_load_mid (by rfl) 25 _ rfl B 0 rfl F _ (fun w hS => hS.2.1) Tryz.underlying25 rfl hiF) ?_
 refine tk 7 rfl (yieldsIf_load_mid (by rfl) 25 _ rfl (B + 1) 0 rfl ZI _ (fun w hS => hS.2.2.1) Tryz.underlying25 rfl hiZI) ?_
 refine tk 8 rfl (yieldsIf_load_mid (by rfl) 42 _ rfl (B + 2) 0 rfl BS _ (fun w hS => hS.2.2.2) Tryz.underlying42 rfl hiBS) ?_
 refine e2 9 13 rfl rfl (fun K' hK' => ?_) fun K' hK' => ?_
 focus
  rw [if_pos (by rfl)]
  go_simp
  go_at_call 35
  refine (hnx x0 bb0).out.mono ?_
  intro e x1 hNP
  obtain ⟨gb, c, rfl, hgb, hgl, hP1, hb1⟩ := hNX.out _ _ _ hNP
  have hESl := (HEl (.slice (some ⟨gb, 0, none⟩) (bodyB f rs).length c)).out
  have hES1 := (HE1 (.slice (some ⟨gb, 0, none⟩) (bodyB f rs).length c) rfl).out
  have hpu' := fun w' => hpu w' gb c
  obtain ⟨ES, HES⟩ := hidE (entC t (f.map (Value.int .u8)) (.slice (some ⟨gb, 0, none⟩) (bodyB f rs).length c))
  rw [← HES.out] at hESl hES1 hpu' ⊢
  have hE1 := hE0.below hb1 (by omega)
  have hI1 := hI0.below hb1 (by omega)
  have hY1 := hY0.below hb1 (by omega)
  have hH1 := hH0.below hb1 (by omega)
  have bb1 : Below B w x1 := bb0.trans (hb1.mono (by omega))
  have hz1 : B + 3 ≤ x1.heap.size := by have := hb1.size; omega
  refine ko hK' (hSS _ hH1 hE1 hI1 hY1) fun hHeld => ?_
  clear hK' K'
  refine tq 10 rfl ?_
  refine tq 11 rfl ?_
  refine tq 12 rfl ?_
  refine e1 13 rfl fun K' hK' => ?_
  obtain ⟨X, HX⟩ := hidE x1.heap.size
  have hXB : B + 3 ≤ X := by rw [HX.out]; exact hz1
  have hXe : x1.heap.size ≤ X := Nat.le_of_eq HX.out.symm
  refine step_allocV rfl 83 rfl ZE hze.out X HX.out.symm ?_
  intro x2 hD2 hb2' hs2
  have hb2 : Below x1.heap.size x1 x2 := hb2'.mono hXe
  have hE2 := hE1.below hb2 (by omega)
  have hI2 := hI1.below hb2 (by omega)
  have hY2 := hY1.below hb2 (by omega)
  have hH2 := hH1.below hb2 (by omega)
  have bb2 : Below B w x2 := bb1.trans (hb2.mono (by omega))
  have hz2 : B + 3 ≤ x2.heap.size := by have := hb2.size; omega
  have hP2 := hP1.below hb2
  refine ko hK' (hSS _ hH2 hE2 hI2 hY2) fun hHeld => ?_
  clear hK' K'
 rotate_left 1
 focus
  obtain ⟨X, HX⟩ := hidE x0.heap.size
  have hXB : B + 3 ≤ X := by rw [HX.out]; exact hz0
  have hXe : x0.heap.size ≤ X := Nat.le_of_eq HX.out.symm
  refine step_allocV rfl 83 rfl ZE hze.out X HX.out.symm ?_
  intro x1 hD1 hb1' hs1
  have hb1 : Below x0.heap.size x0 x1 := hb1'.mono hXe
  have hE1 := hE0.below hb1 (by omega)
  have hI1 := hI0.below hb1 (by omega)
  have hY1 := hY0.below hb1 (by omega)
  have hH1 := hH0.below hb1 (by omega)
  have bb1 : Below B w x1 := bb0.trans (hb1.mono (by omega))
  have hz1 : B + 3 ≤ x1.heap.size := by have := hb1.size; omega
  refine ko hK' (hSS _ hH1 hE1 hI1 hY1) fun hHeld => ?_
  clear hK' K'
  refine e1 9 rfl fun K' hK' => ?_
  rw [if_pos (by rfl)]
  go_simp
  go_at_call 35
  refine (hnx x1 bb1).out.mono ?_
  intro e x2 hNP
  obtain ⟨gb, c, rfl, hgb, hgl, hP2, hb2⟩ := hNX.out _ _ _ hNP
  have hESl := (HEl (.slice (some ⟨gb, 0, none⟩) (bodyB f rs).length c)).out
  have hES1 := (HE1 (.slice (some ⟨gb, 0, none⟩) (bodyB f rs).length c) rfl).out
  have hpu' := fun w' => hpu w' gb c
  obtain ⟨ES, HES⟩ := hidE (entC t (f.map (Value.int .u8)) (.slice (some ⟨gb, 0, none⟩) (bodyB f rs).length c))
  rw [← HES.out] at hESl hES1 hpu' ⊢
  have hE2 := hE1.below hb2 (by omega)
  have hI2 := hI1.below hb2 (by omega)
  have hY2 := hY1.below hb2 (by omega)
  have hH2 := hH1.below hb2 (by omega)
  have bb2 : Below B w x2 := bb1.trans (hb2.mono (by omega))
  have hz2 : B + 3 ≤ x2.heap.size := by have := hb2.size; omega
  have hD2 := hD1.below hb2 (by omega)
  refine ko hK' (hSS _ hH2 hE2 hI2 hY2) fun hHeld => ?_
  clear hK' K'
  refine tq 10 rfl ?_
  refine tq 11 rfl ?_
  refine tq 12 rfl ?_
 rotate_left 1
 all_goals
  refine e1 14 rfl fun K' hK' => ?_
  have hDl2 := hD2.lt
  have HDS : ZE.take 0 ++ ES ++ ZE.drop (0 + 68) = ES := by rw [List.drop_eq_nil_of_le (by omega)]; simp
  refine step_storeP rfl 83 _ _ rfl 83 X 0 rfl ES rfl 68 aggEntry hESl ZE hD2 (by rw [hZEl]; decide) hES1 ES HDS ?_
  intro x3 hD3 hb3 hg3 hs3
  have hE3 := hE2.below hb3 (by omega)
  have hI3 := hI2.below hb3 (by omega)
  have hY3 := hY2.below hb3 (by omega)
  have hH3 := hH2.below hb3 (by omega)
  have bb3 : Below B w x3 := bb2.trans (hb3.mono (by omega))
  have hz3 : B + 3 ≤ x3.heap.size := by have := hb3.size; omega
  have hP3 := (Only.ofG (B := x2.heap.size) (ks := [X]) hg3 (Nat.le_refl _) (fun k hk => by injection hk with hk; right; rw [← hk]; simp)).pt hP2 (fun b hb => ⟨hP2.lt b hb, by injection hb with hb; subst hb; exact nin1 (by show gb ≠ X; omega)⟩)
  refine ko hK' (hSS _ hH3 hE3 hI3 hY3) fun hHeld => ?_
  clear hK' K'
  refine tq 15 rfl ?_
  refine wpAnyH_done (by kernel_rfl) ?_ _
  have hgB : B ≤ gb := by omega
  clear hHeld
  go_wp2_with (first
   | (go_at_call 36; refine (hpu' x3 (HEnt.out _ _ _ hP3) bb3 hgB).out.mono ?_; rintro e x4 ⟨rfl, hF4, ho4⟩)
   | (refine wl_loadG (by rfl) 83 _ rfl ⟨X, 0, none⟩ rfl 68 ES hESl aggEntry hD3.at0 ?_))
  exact HPQ.out _ (hF4.low (by omega)) ((Only.of bb3 (Nat.le_refl _)).trans (ho4.mono (by omega) (fun k hk => Or.inl hk)))
end Go.Proofs.YtdhipjoplkpgmaaGreatDoor.hf
