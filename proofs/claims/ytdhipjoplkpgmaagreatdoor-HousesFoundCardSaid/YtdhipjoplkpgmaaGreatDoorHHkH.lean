/-
  HousesFound: contracts of mix.Hex and keyref1.Hex: octets as digits. Conditions: the octets lie in memory, at most 1000.
-/
import Derived.Test.YtdhipjoplkpgmaaGreatDoorHHkA
import Derived.Test.YtdhipjoplkpgmaaGreatDoorHHfX
import Derived.Test.YtdhipjoplkpgmaaGreatDoorHHld
import Derived.Laws.Strings2
set_option maxRecDepth 100000
set_option linter.unusedSimpArgs false
set_option linter.unusedVariables false
set_option maxHeartbeats 4000000
namespace Go.Proofs.YtdhipjoplkpgmaaGreatDoor.hf
open Go.RowKit st hs wr shr sh
def DIG : ByteArray := ⟨#[48, 49, 50, 51, 52, 53, 54, 55, 56, 57, 97, 98, 99, 100, 101, 102]⟩
theorem dig_at : ∀ n : Fin 16, DIG[n.1]'(show n.1 < 16 from n.2) = hexD n.1 := by decide
theorem dig_ex : ∀ n : Fin 16, DIG.extract (n.1 : Int).toNat ((n.1 : Int) + 1).toNat = strL [hexD n.1] := by decide
theorem and15 : ∀ n : Fin 256, bits .and .u8 (n.1 : Int) 15 = ((n.1 % 16 : Nat) : Int) := by decide +kernel
theorem and15' {c : Int} (h : Oct c) : bits .and .u8 c 15 = ((c.toNat % 16 : Nat) : Int) := by
 obtain ⟨h0, h1⟩ := h
 have := and15 ⟨c.toNat, by omega⟩
 rwa [Int.toNat_of_nonneg h0] at this
section
variable {P : Program} {ops : Array Oper} {S : World → Prop} {op : Oper} {a : Act}
theorem yieldsIf_dig (hw : Region.wanted op (yielded ops a.tmps) = true) (x : Operand) (ho : op.op = .index 9 (.const (.string DIG)) x) (d : Nat) (hd : d < 16) (di : Int) (hdi : di = (d : Int)) (hx : a.eval x = .int .u8 di) : YieldsIf Tryz.prog ops S op (.int .u8 ((hexD d).toNat : Int)) a :=
 .inl ⟨hw, fun w _ => by
  subst hdi
  unfold execOp
  simp only [ho, hx]
  have h1 : (0 : Int) ≤ (d : Int) ∧ (d : Int) < 16 := by omega
  have h2 : DIG[d]'hd = hexD d := dig_at ⟨d, hd⟩
  go_simp
  rw [dif_pos (show d < DIG.size from hd)]
  exact congrArg (fun z : UInt8 => Result.ok (Next.value (Value.int .u8 (z.toNat : Int))) w) h2⟩
theorem yieldsIf_digS (hw : Region.wanted op (yielded ops a.tmps) = true) (x y : Operand) (ho : op.op = .slice 9 (.const (.string DIG)) (some x) (some y) none) (d : Nat) (hd : d < 16) (di ei : Int) (hdi : di = (d : Int)) (hei : ei = (d : Int) + 1) (hx : a.eval x = .int .u8 di) (hy : a.eval y = .int .u8 ei) : YieldsIf Tryz.prog ops S op (.string (strL [hexD d])) a :=
 .inl ⟨hw, fun w _ => by
  subst hdi hei
  have hsz : (DIG.size : Int) = 16 := rfl
  have hrun := run_slice_string (P := Tryz.prog) w 9 DIG .u8 .u8 (d : Int) ((d : Int) + 1) Tryz.underlying9 (by omega) (by omega) (by omega)
  have e : DIG.extract (d : Int).toNat ((d : Int) + 1).toNat = strL [hexD d] := dig_ex ⟨d, hd⟩
  rw [e] at hrun
  have hc : a.eval (.const (.string DIG)) = .string DIG := rfl
  unfold execOp
  simp only [ho, hx, hy, hc, Option.map_some, Option.map_none, run_sliceAt_string (P := Tryz.prog) w _ _ _ _ _ Tryz.underlying9, hrun, Sem.run_bind, Result.andThen_ok, Sem.run_pure]⟩
end
def hexI (l : List Int) : List Int := (hexL l).map fun b => (b.toNat : Int)
theorem hexI_length (l : List Int) : (hexI l).length = 2 * l.length := by unfold hexI; rw [List.length_map, hexL_length]
theorem hexI_take {l : List Int} {k : Nat} (h : k < l.length) : hexI (l.take (k + 1)) = hexI (l.take k) ++ [((hexD ((l[k]).toNat / 16)).toNat : Int), ((hexD ((l[k]).toNat % 16)).toNat : Int)] := by
 unfold hexI
 rw [hexL_take h, List.map_append]
 rfl
theorem strOf_hexI (l : List Int) : strOfNums (hexI l) = strL (hexL l) := by
 unfold hexI strOfNums strL
 rw [List.map_map]
 have e : ((fun n : Int => UInt8.ofNat n.toNat) ∘ fun b : UInt8 => (b.toNat : Int)) = id := funext fun b => by simp
 rw [e, List.map_id]
theorem RefHex_ok (ao : Option Addr) (c n : Nat) (l : List Int) (w : World) (hn : n = l.length) (HP : Pt.Ok w ⟨ao, c, l⟩) (hm : n ≤ 1000) :
  Calls Tryz.prog 58 #[.slice ao n c] w fun e w' => e = .returned (.string (strL (hexL l))) ∧ Below w.heap.size w w' := by
 obtain ⟨B, hsz⟩ := szE w
 rw [hsz]
 have HN := hid hn
 clear hn
 have HPw := fun (w' : World) (hb : Below B w w') => hid (HP.below (by rw [hsz]; exact hb))
 clear HP
 go_enter Tryz.func58, Tryz.ntmps58
 go_wp2
 go_loopw [3, 8] (fun o i wr => ∃ k : Nat, k ≤ n ∧ i = .int .i64 k ∧ o = .string (strL (hexL (l.take k))) ∧ Below B w wr) (fun _ i _ => n - (intOf i).toNat)
 case atStart => exact ⟨0, Nat.zero_le _, rfl, rfl, Below.refl _ _⟩
 case round =>
  obtain ⟨k, hk, rfl, rfl, hb⟩ := hrel
  by_cases hlt : k < n
  ·have hkl : k < l.length := by rw [← HN.out]; exact hlt
   obtain ⟨b, off, rfl, hbw, hcell⟩ := (HPw wr hb).out.row.at (i := k) hkl
   have hoc := (HPw wr hb).out.oct (l[k]) (List.getElem_mem _)
   obtain ⟨cI, HcI⟩ := hidE (l[k])
   have hc : wr.cell? ⟨b, off + k, none⟩ = some (.int .u8 cI) := (hcell k hkl).trans (by rw [HcI.out, getD_lt' l _ hkl])
   rw [← HcI.out] at hoc
   have HT : Hid (hexL (l.take (k + 1)) = hexL (l.take k) ++ [hexD (cI.toNat / 16), hexD (cI.toNat % 16)]) := hid (by rw [hexL_take hkl, HcI.out])
   obtain ⟨D1, HD1⟩ := hidE (cI.toNat / 16)
   obtain ⟨D2, HD2⟩ := hidE (cI.toNat % 16)
   rw [← HD1.out, ← HD2.out] at HT
   have HA1 : Hid (cI / 16 = (D1 : Int)) := hid (by rw [HD1.out]; have := hoc.1; omega)
   have HA2 : Hid (bits .and .u8 cI 15 = (D2 : Int)) := hid (by rw [HD2.out]; exact and15' hoc)
   have hd1 : D1 < 16 := by rw [HD1.out]; have := hoc.1; have := hoc.2; omega
   have hd2 : D2 < 16 := by rw [HD2.out]; omega
   have hw1 : IntKind.u8.wrap (cI / 16 + 1) = cI / 16 + 1 := by rw [HA1.out, IntKind.wrap_u8]; omega
   have hw2 : IntKind.u8.wrap (bits .and .u8 cI 15 + 1) = bits .and .u8 cI 15 + 1 := by rw [HA2.out, IntKind.wrap_u8]; omega
   have hkI : (k : Int) < 1000 := by omega
   have hltI : (k : Int) < (n : Int) := by omega
   obtain ⟨OS, HOS⟩ := hidE (hexL (l.take k))
   have hOl : OS.length ≤ 2000 := by rw [HOS.out, hexL_length, List.length_take]; omega
   rw [← HOS.out] at HT ⊢
   have hs1 : ¬ 9223372036854775807 < (strL [hexD D1]).size + (strL [hexD D2]).size := by rw [strL_size, strL_size]; simp
   have hs2 : ¬ 9223372036854775807 < (strL OS).size + ((strL [hexD D1]).size + (strL [hexD D2]).size) := by rw [strL_size, strL_size, strL_size]; simp; omega
   clear hcell hoc HPw hOl
   go_wp2_with fail
   refine wp_region_held_drew (S := fun _ => True) (by kernel_rfl) trivial (fun hHeld => ?_)
   refine tq 0 rfl ?_
   refine tq 1 rfl ?_
   refine tq 2 rfl ?_
   refine tq 3 rfl ?_
   refine tq 4 rfl ?_
   refine tq 5 rfl ?_
   refine tk 6 rfl (yieldsIf_digS (by rfl) _ _ rfl D1 hd1 _ _ HA1.out (by rw [HA1.out]) rfl rfl) ?_
   refine tq 7 rfl ?_
   refine tq 8 rfl ?_
   refine tq 9 rfl ?_
   refine tq 10 rfl ?_
   refine tq 11 rfl ?_
   refine tk 12 rfl (yieldsIf_digS (by rfl) _ _ rfl D2 hd2 _ _ HA2.out (by rw [HA2.out]) rfl rfl) ?_
   refine tq 13 rfl ?_
   refine tq 14 rfl ?_
   refine tq 15 rfl ?_
   refine wpAnyH_done (by kernel_rfl) ?_ _
   clear hHeld
   go_wp2
   go_roundw
   case rel => exact ⟨k + 1, by omega, by simp, by rw [strL_app, strL_app, HT.out]; rfl, hb.drew⟩
   case measure => show n - ((k : Int) + 1).toNat < n - (k : Int).toNat; omega
  ·have hke : k = n := by omega
   subst hke
   have hnl : ¬ (k : Int) < (k : Int) := by omega
   clear HPw
   go_wp2
   go_ret
   exact ⟨congrArg (fun z => Ending.returned (.string (strL (hexL z)))) (List.take_of_length_le (Nat.le_of_eq HN.out.symm)), hb⟩
theorem wl_makeU {w : World} {ops : Array Oper} {rest : List Oper} {o : Oper} {a : Act} {Q : Exit → Act → World → Prop} (hgd : o.guard = none) (x y : Operand) (ho : o.op = .makeSlice 61 x y)
  (n : Nat) (hn : n ≤ 1099511627776) (hx : a.eval x = .int .i64 0) (hy : a.eval y = .int .i64 n) (N : Nat) (hN : w.heap.size = N)
  (h : ∀ w', Mine w' N 5 1 (.slice (some ⟨N, 0, none⟩) 0 n) 0 [] → Below N w w' → w'.heap.size = N + 1 → wpList Tryz.prog ops Q rest (a.put o.dst (.slice (some ⟨N, 0, none⟩) 0 n)) w') : wpList Tryz.prog ops Q (o :: rest) a w := by
 subst hN
 obtain ⟨i, hi, hz, hs, hb⟩ := info8.parts
 have hrun := run_make (P := Tryz.prog) (w := w) 61 5 i (.int .u8 0) Tryz.underlying61 hi hz .i64 .i64 (0 : Int) (n : Int) (by omega) (by omega) (by rw [hb]; omega) (by omega)
 rw [Int.toNat_natCast, hs, Int.toNat_zero] at hrun
 refine wpList_plain hgd fun K hK' => ?_
 unfold Oper.wp
 simp [execOp, ho, hx, hy, hrun, Result.andThen]
 exact hK' _ _ (h _ (Or.inl ⟨rfl, Or.inr ⟨w.heap.size, n, _, rfl, Nat.le_refl _, heap_alloc_new w _, Nat.zero_le _, by unfold maxLen; omega, by simp [madeCells], by simp⟩⟩) ((Below.refl _ _).alloc (Nat.le_refl _) _) (by simp))
theorem Hex_ok (ao : Option Addr) (c n : Nat) (l : List Int) (w : World) (hn : n = l.length) (HP : Pt.Ok w ⟨ao, c, l⟩) (hm : n ≤ 1000) :
  Calls Tryz.prog 115 #[.slice ao n c] w fun e w' => e = .returned (.string (strL (hexL l))) ∧ Below w.heap.size w w' := by
 obtain ⟨B, hsz⟩ := szE w
 rw [hsz]
 have HN := hid hn
 clear hn
 have HPw := fun (w' : World) (hb : Below B w w') => hid (HP.below (by rw [hsz]; exact hb))
 clear HP
 obtain ⟨m, Hm⟩ := hidE (2 * n)
 have hmm : m ≤ 2000 := by rw [Hm.out]; omega
 have hmI : 2 * (n : Int) = (m : Int) := by rw [Hm.out]; simp
 go_enter Tryz.func115, Tryz.ntmps115
 go_wp2_with (first | (refine wl_makeU rfl _ _ rfl m (by omega) rfl rfl B hsz ?_; intro w1 hM1 hb1 hs1))
 go_loopw [3, 12] (fun o i wr => ∃ (k : Nat) (o1 : Option Addr) (c1 : Nat), k ≤ n ∧ i = .int .i64 k ∧ o = .slice o1 (2 * k) c1 ∧ Mine wr B 5 1 (.slice o1 (2 * k) c1) (2 * k) ((hexI (l.take k)).map (Value.int .u8)) ∧ Below B w wr) (fun _ i _ => n - (intOf i).toNat)
 case atStart => exact ⟨0, some ⟨B, 0, none⟩, m, Nat.zero_le _, rfl, rfl, hM1, hb1⟩
 case round =>
  clear hM1 hb1 hs1
  obtain ⟨k, o1, c1, hk, rfl, rfl, hM, hb⟩ := hrel
  by_cases hlt : k < n
  ·have hkl : k < l.length := by rw [← HN.out]; exact hlt
   obtain ⟨b, off, rfl, hbw, hcell⟩ := (HPw wr hb).out.row.at (i := k) hkl
   have hoc := (HPw wr hb).out.oct (l[k]) (List.getElem_mem _)
   obtain ⟨cI, HcI⟩ := hidE (l[k])
   have hc : wr.cell? ⟨b, off + k, none⟩ = some (.int .u8 cI) := (hcell k hkl).trans (by rw [HcI.out, getD_lt' l _ hkl])
   rw [← HcI.out] at hoc
   have HT : Hid (hexI (l.take (k + 1)) = hexI (l.take k) ++ [((hexD (cI.toNat / 16)).toNat : Int), ((hexD (cI.toNat % 16)).toNat : Int)]) := hid (by rw [hexI_take hkl, HcI.out])
   obtain ⟨D1, HD1⟩ := hidE (cI.toNat / 16)
   obtain ⟨D2, HD2⟩ := hidE (cI.toNat % 16)
   rw [← HD1.out, ← HD2.out] at HT
   have HA1 : Hid (cI / 16 = (D1 : Int)) := hid (by rw [HD1.out]; have := hoc.1; omega)
   have HA2 : Hid (bits .and .u8 cI 15 = (D2 : Int)) := hid (by rw [HD2.out]; exact and15' hoc)
   have hd1 : D1 < 16 := by rw [HD1.out]; have := hoc.1; have := hoc.2; omega
   have hd2 : D2 < 16 := by rw [HD2.out]; omega
   obtain ⟨X1, HX1⟩ := hidE (((hexD D1).toNat : Int))
   obtain ⟨X2, HX2⟩ := hidE (((hexD D2).toNat : Int))
   have hY1 := fun (ops : Array Oper) (S : World → Prop) (op : Oper) (a : Act) h1 x h2 di h3 h4 => hid (show YieldsIf Tryz.prog ops S op (.int .u8 X1) a by rw [HX1.out]; exact yieldsIf_dig h1 x h2 D1 hd1 di h3 h4)
   have hY2 := fun (ops : Array Oper) (S : World → Prop) (op : Oper) (a : Act) h1 x h2 di h3 h4 => hid (show YieldsIf Tryz.prog ops S op (.int .u8 X2) a by rw [HX2.out]; exact yieldsIf_dig h1 x h2 D2 hd2 di h3 h4)
   rw [← HX1.out, ← HX2.out] at HT
   have hkI : (k : Int) < 1000 := by omega
   have hltI : (k : Int) < (n : Int) := by omega
   obtain ⟨OS, HOS⟩ := hidE (hexI (l.take k))
   rw [← HOS.out] at HT hM
   obtain ⟨k2, Hk2⟩ := hidE (2 * k)
   rw [← Hk2.out] at hM ⊢
   have hk2 : k2 ≤ 2000 := by rw [Hk2.out]; omega
   clear hcell hoc HPw
   go_wp2_with fail
   refine wp_region_held_drew (S := fun _ => True) (by kernel_rfl) trivial (fun hHeld => ?_)
   obtain ⟨x0, HX0⟩ := hidE wr.drew
   rw [← HX0.out]
   have hM0 : Mine x0 B 5 1 (.slice o1 k2 c1) k2 (OS.map (Value.int .u8)) := by rw [HX0.out]; exact hM
   have hb0 : Below B w x0 := by rw [HX0.out]; exact hb.drew
   have hB0 : B ≤ x0.heap.size := by have := hb0.size; omega
   clear hM hb
   refine tq 0 rfl ?_
   refine tq 1 rfl ?_
   refine tq 2 rfl ?_
   refine tk 3 rfl (hY1 _ _ _ _ (by rfl) _ rfl _ HA1.out rfl).out ?_
   refine tq 4 rfl ?_
   refine tq 5 rfl ?_
   refine tk 6 rfl (hY2 _ _ _ _ (by rfl) _ rfl _ HA2.out rfl).out ?_
   refine e1 7 rfl fun K' hK' => ?_
   obtain ⟨A, HA⟩ := hidE x0.heap.size
   have hBA : B ≤ A := by rw [HA.out]; exact hB0
   refine step_lit rfl 61 5 2 _ rfl Tryz.underlying61 (.int .u8 0) 1 1 info8 (by decide) (by decide) [.int .u8 X1, .int .u8 X2] (by kernel_rfl) A HA.out.symm ?_
   intro x1 hA1 hbA hsA
   have hM1 := Mine.belowAll hM0 (by rw [← HA.out]; exact hbA)
   have hb1 : Below B w x1 := hb0.trans (hbA.mono (by omega))
   refine hK'.out _ _ trivial (fun hHeld => ?_)
   clear hK' K' hM0 hb0
   try simp only [Act.put, sArr, sZ, sS]
   refine e1 8 rfl fun K' hK' => ?_
   refine step_appendS rfl _ _ 61 rfl 5 (.int .u8 0) 1 1 Tryz.underlying61 info8 rfl (by decide) B _ k2 _ rfl hM1 (some ⟨A, 0, none⟩) 2 2 rfl (fun h => by cases h) [.int .u8 X1, .int .u8 X2] rfl (at_row hA1.lt hA1.at0) (by intro u hu; simp only [List.mem_cons, List.not_mem_nil, or_false] at hu; rcases hu with rfl | rfl <;> rfl) (by unfold maxLen; omega) (by omega) (by omega) (k2 + 2) rfl ?_
   intro o2 c2 x2 row2 hc2 hM2 hV2 hg2 hr2
   have hb2 : Below B w x2 := hb1.grown hg2 (by omega) (fun k hk => (hr2 k hk).1)
   refine hK'.out _ _ trivial (fun hHeld => ?_)
   clear hK' K' hM1 hb1
   try simp only [Act.put, sArr, sZ, sS]
   refine tq 9 rfl ?_
   refine wpAnyH_done (by kernel_rfl) ?_ _
   clear hHeld
   go_wp2
   go_roundw
   have HK2 : 2 * (k + 1) = k2 + 2 := by rw [Hk2.out]; omega
   case rel => exact ⟨k + 1, o2, c2, by omega, by simp, by rw [HK2], by rw [HK2, HT.out, List.map_append]; exact hM2, hb2⟩
   case measure => show n - ((k : Int) + 1).toNat < n - (k : Int).toNat; omega
  ·have hke : k = n := by omega
   subst hke
   have hnl : ¬ (k : Int) < (k : Int) := by omega
   obtain ⟨k2, Hk2⟩ := hidE (2 * k)
   have HE : Hid (hexI (l.take k) = hexI l) := hid (by rw [List.take_of_length_le (Nat.le_of_eq HN.out.symm)])
   rw [HE.out, ← Hk2.out] at hM
   rw [← Hk2.out]
   obtain ⟨a, q, hv, _, hrow⟩ := hM.row
   injection hv with hv1 hv2 hv3
   subst hv1
   have hcv := fun c' => run_convStr wr o1 k2 c' (hexI l) (by rw [hexI_length, Hk2.out, HN.out]) (RowV.i hrow)
   rw [strOf_hexI] at hcv
   clear HPw hM hrow
   go_wp2
   go_ret
   exact ⟨rfl, hb⟩
end Go.Proofs.YtdhipjoplkpgmaaGreatDoor.hf
