/-
  ChainsMatch: contracts of maps.DeleteFunc at what is lost, of wrap.linked, wrap.Reach and wrap.Lost. Conditions: lists that lie in memory. Contract of wrap.Lost. Conditions: lists that lie in memory.
-/
import Derived.Test.YtbjmadcbhkeenaaGreatCLkT
import Derived.Test.YtbjmadcbhkeenaaGreatCHld
import Derived.Test.YtbjmadcbhkeenaaGreatCWrM
set_option maxRecDepth 100000
set_option linter.unusedSimpArgs false
set_option linter.unusedVariables false
namespace Go.Proofs.YtbjmadcbhkeenaaGreat.lk
open Go.RowKit wr shr sh st hs srt
theorem cell_map' {w : World} {a : Addr} {D : Mp Value} (h : MapD w a.block D) : w.cell? a = none := by
 obtain ⟨es, c, h, _⟩ := h
 unfold World.cell?
 rw [h]
theorem at_gm {w w' : World} {a : Addr} {cs : List Value} {r : Nat} {D : Mp Value} (h : At w a cs) (hg : w.grownBy w' (some r)) (hr : MapD w r D) : At w' a cs := fun j u hu =>
 hg.cell (h j u hu) (fun e => by
  have e2 : (a.add j).block = r := by injection e
  have := h j u hu
  rw [cell_map' (by rw [e2]; exact hr)] at this
  cases this)
theorem rowD_gm {w w' : World} {ao : Option Addr} {l : List Id} {r : Nat} {D : Mp Value} (h : RowD w ao l) (hg : w.grownBy w' (some r)) (hr : MapD w r D) : RowD w' ao l := by
 refine ⟨?_, h.2⟩
 rcases h.1 with h | ⟨b, off, h1, h2, h3⟩
 ·exact Or.inl h
 ·exact Or.inr ⟨b, off, h1, Nat.lt_of_lt_of_le h2 hg.size, fun i hi => at_gm (h3 i hi) hg hr⟩
theorem cell_gm {w w' : World} {p : Addr} {v : Value} {r : Nat} {D : Mp Value} (h : w.cell? p = some v) (hg : w.grownBy w' (some r)) (hr : MapD w r D) : w'.cell? p = some v :=
 hg.cell h (fun e => by
  have e2 : p.block = r := by injection e
  rw [cell_map' (by rw [e2]; exact hr)] at h
  cases h)
def rem (S : Id → Bool) (k : Id) : Id → Bool := fun j => if j = k then false else S j
theorem bmap_rem (S : Id → Bool) (k j : Id) : dele (bmap S) k j = bmap (rem S k) j := by
 unfold dele bmap rem
 by_cases h : j = k
 ·rw [if_pos h]; simp [h]
 ·rw [if_neg h]; simp [h]
structure LostEnv (w : World) (p q b2 : Nat) (S2 : Id → Bool) (go : Option Addr) (gn gcap : Nat) (gone : List Id) : Prop where
 cp : w.cell? ⟨p, 0, none⟩ = some (.map (some b2))
 cq : w.cell? ⟨q, 0, none⟩ = some (.slice go gn gcap)
 map : MapD w b2 (bmap S2)
 row : RowD w go gone
theorem LostEnv.below {w w' : World} {p q b2 gn gcap : Nat} {S2 : Id → Bool} {go : Option Addr} {gone : List Id} (h : LostEnv w p q b2 S2 go gn gcap gone) (hb : Below w.heap.size w w') : LostEnv w' p q b2 S2 go gn gcap gone :=
 ⟨(hb.cell (p := ⟨p, 0, none⟩) (World.block_lt_of_cell? w _ h.cp)).trans h.cp, (hb.cell (p := ⟨q, 0, none⟩) (World.block_lt_of_cell? w _ h.cq)).trans h.cq, h.map.below hb h.map.lt, h.row.below hb⟩
theorem LostEnv.grown {w w' : World} {p q b2 gn gcap b : Nat} {S2 : Id → Bool} {go : Option Addr} {gone : List Id} {D : Mp Value} (h : LostEnv w p q b2 S2 go gn gcap gone) (hg : w.grownBy w' (some b)) (hM : MapD w b D) (hne : b ≠ b2) : LostEnv w' p q b2 S2 go gn gcap gone :=
 ⟨cell_gm h.cp hg hM, cell_gm h.cq hg hM, h.map.grown hg (by intro e; injection e with e; exact hne e), rowD_gm h.row hg hM⟩
set_option maxHeartbeats 2000000 in
theorem Lost1_any (k : Id) (vb : Bool) (p q b2 gn gcap : Nat) (S2 : Id → Bool) (go : Option Addr) (gone : List Id) (w : World) (hk : k.length = 16) (hg : gn = gone.length) (hgn : gn ≤ 9223372036854775807) (hE : LostEnv w p q b2 S2 go gn gcap gone) :
  Calls Tryz.prog 26 #[idV k, .bool vb, .pointer (some ⟨p, 0, none⟩), .pointer (some ⟨q, 0, none⟩)] w fun e w' => e = .returned (.bool (S2 k || decide (k ∈ gone))) ∧ Below w.heap.size w w' := by
 obtain ⟨B, HB⟩ : ∃ B, Hid (B = w.heap.size) := ⟨_, rfl⟩
 have hsz : w.heap.size = B := HB.out.symm
 obtain ⟨KS, HKS⟩ : ∃ KS, Hid (KS = k.map (Value.int .u8)) := ⟨_, rfl⟩
 have HIDK : Hid (Value.agg KS.toArray = idV k) := hid (by rw [HKS.out]; rfl)
 have hKl : KS.length = 16 := by rw [HKS.out, List.length_map, hk]
 obtain ⟨r, Hr⟩ : ∃ r, Hid (r = decide (k ∈ gone)) := ⟨_, rfl⟩
 have hcon := fun (y : World) (hb : Below B w y) => hid (Contains_id go gcap gn gone k y hg (hE.row.below (hsz ▸ hb)) hk hgn r Hr)
 rw [← HIDK.out] at hcon ⊢
 rw [← Hr.out]
 have hpl : p < B := by rw [← hsz]; exact World.block_lt_of_cell? w _ hE.cp
 have hql : q < B := by rw [← hsz]; exact World.block_lt_of_cell? w _ hE.cq
 have cp := hE.cp
 have cq := hE.cq
 have hM := hE.map
 have hMl : b2 < B := by rw [← hsz]; exact hM.lt
 have HV0 := look_b S2 k
 clear hg hE
 cases hs : S2 k with
 | true =>
  rw [hs] at HV0
  have HV := hid HV0
  clear HV0 hs
  go_enter Tryz.func26, Tryz.ntmps26
  go_wp2_with (first | (refine wl_lookD (by kernel_rfl) 60 4 _ _ false rfl Tryz.underlying60 (.bool false) (zeroBool _) b2 _ hM0 k hk rfl HIDK.out _ HV.out ?_) | (refine wl_load rfl 27 _ rfl ⟨B, 0, none⟩ rfl KS (by rw [hKl]; exact aggID) hB0.at0 ?_) | (refine wl_boxV rfl 27 _ rfl KS rfl B hsz ?_; intro w0 hB0 hb0 hs0; have hM0 := hM.below hb0 hMl; have cp0 := (hb0.cell (p := ⟨p, 0, none⟩) hpl).trans cp; have cq0 := (hb0.cell (p := ⟨q, 0, none⟩) hql).trans cq))
  go_ret
  exact ⟨rfl, by rw [hsz]; exact hb0⟩
 | false =>
  rw [hs] at HV0
  have HV := hid HV0
  clear HV0 hs
  go_enter Tryz.func26, Tryz.ntmps26
  go_wp2_with (first | (go_at_call 17; refine (hcon w0 hb0).out.mono ?_; rintro e w5 ⟨rfl, hb5⟩) | (refine wl_lookD (by kernel_rfl) 60 4 _ _ false rfl Tryz.underlying60 (.bool false) (zeroBool _) b2 _ hM0 k hk rfl HIDK.out _ HV.out ?_) | (refine wl_loadD 12 rfl (by kernel_rfl) 27 _ rfl ⟨B, 0, none⟩ rfl 16 KS hKl aggID hB0.at0 ?_) | (refine wl_load rfl 27 _ rfl ⟨B, 0, none⟩ rfl KS (by rw [hKl]; exact aggID) hB0.at0 ?_) | (refine wl_boxV rfl 27 _ rfl KS rfl B hsz ?_; intro w0 hB0 hb0 hs0; have hM0 := hM.below hb0 hMl; have cp0 := (hb0.cell (p := ⟨p, 0, none⟩) hpl).trans cp; have cq0 := (hb0.cell (p := ⟨q, 0, none⟩) hql).trans cq))
  go_ret
  exact ⟨rfl, by rw [hsz]; exact hb0.trans (hb5.mono (by omega))⟩
structure Del (S : Id → Bool) (dead : Id → Bool) (left : Id → Prop) (S' : Id → Bool) : Prop where
 keep : ∀ k, left k → S' k = S k
 done : ∀ k, ¬ left k → S' k = (S k && !dead k)
theorem Del.start {S dead : Id → Bool} {left : Id → Prop} (h : ∀ k, left k ↔ S k = true) : Del S dead left S := ⟨fun _ _ => rfl, fun k hk => by
 have : S k = false := by cases hs : S k with
  | false => rfl
  | true => exact absurd ((h k).2 hs) hk
 rw [this]; rfl⟩
theorem Del.stay {S dead S' : Id → Bool} {left : Id → Prop} (h : Del S dead left S') {k : Id} (hk : left k) (hd : dead k = false) : Del S dead (fun j => left j ∧ j ≠ k) S' :=
 ⟨fun j hj => h.keep j hj.1, fun j hj => by
  by_cases hjk : j = k
  ·subst hjk; rw [h.keep j hk, hd]; simp
  ·exact h.done j (fun hl => hj ⟨hl, hjk⟩)⟩
theorem Del.drop {S dead S' : Id → Bool} {left : Id → Prop} (h : Del S dead left S') {k : Id} (hd : dead k = true) : Del S dead (fun j => (left j ∧ j ≠ k) ∧ j ≠ k) (rem S' k) :=
 ⟨fun j hj => by unfold rem; rw [if_neg hj.2]; exact h.keep j hj.1.1, fun j hj => by
  unfold rem
  by_cases hjk : j = k
  ·subst hjk; rw [if_pos rfl, hd]; simp
  ·rw [if_neg hjk]; exact h.done j (fun hl => hj ⟨⟨hl, hjk⟩, hjk⟩)⟩
set_option maxHeartbeats 4000000 in
theorem Delete_any (b p q b2 gn gcap : Nat) (S S2 : Id → Bool) (go : Option Addr) (gone : List Id) (w : World) (hg : gn = gone.length) (hgn : gn ≤ 9223372036854775807) (hM : MapD w b (bmap S)) (hE : LostEnv w p q b2 S2 go gn gcap gone) (hne : b ≠ b2) :
  Calls Tryz.prog 25 #[.map (some b), .func (.func 26) #[] #[.pointer (some ⟨p, 0, none⟩), .pointer (some ⟨q, 0, none⟩)]] w fun e w' => e = .returned (.tuple #[]) ∧ ∃ S', MapD w' b (bmap S') ∧ (∀ k, S' k = (S k && !(S2 k || decide (k ∈ gone)))) ∧ w.grownBy w' (some b) := by
 obtain ⟨ZI, HZI⟩ : ∃ Z, Hid (Z = (List.replicate 16 (0 : Int)).map (Value.int .u8)) := ⟨_, rfl⟩
 have hzI := hid zeroID
 rw [← HZI.out] at hzI
 have hZIl : ZI.length = 16 := by rw [HZI.out]; simp
 obtain ⟨r, Hr⟩ : ∃ r, Hid (r = w.heap.size) := ⟨_, rfl⟩
 have hsz : w.heap.size = r := Hr.out.symm
 have hbr : b < r := by rw [← hsz]; exact hM.lt
 have hL1 := hid (fun (k : Id) (vb : Bool) (y : World) (hk : k.length = 16) (hE : LostEnv y p q b2 S2 go gn gcap gone) => Lost1_any k vb p q b2 gn gcap S2 go gone y hk hg hgn hE)
 obtain ⟨dead, HD⟩ : ∃ dead : Id → Bool, Hid (dead = fun k => S2 k || decide (k ∈ gone)) := ⟨_, rfl⟩
 have HDD : Hid (∀ k, (S2 k || decide (k ∈ gone)) = dead k) := hid (fun k => by rw [HD.out])
 have HMW := hid hM
 clear hg HD
 go_enter Tryz.func25, Tryz.ntmps25
 go_wp2_with (first | (at_range; refine wl_rangeD rfl 60 4 _ rfl Tryz.underlying60 b _ hM rfl r hsz ?_; intro w7 cnt7 hI7 hb7 hs7; have hE7 := hE.below (by rw [hsz]; exact hb7); have hg7 : w.grownBy w7 (some b) := World.grownBy.but (grown_none (by rw [hsz]; exact hb7)) (some b)) | fail)
 go_frame
 go_loopw [5] (fun _ wq => ∃ (left : Id → Prop) (cnt : Nat) (S' : Id → Bool), IterD wq b r (bmap S') left cnt ∧ Hid (Del S dead left S') ∧ LostEnv wq p q b2 S2 go gn gcap gone ∧ w.grownBy wq (some b)) (fun _ wq => wq.rangeLeft b r)
 case atStart => exact ⟨_, _, S, hI7, hid (Del.start (fun k => bmap_some S k)), hE7, hg7⟩
 case round =>
  clear hI7 hE7 hg7 hb7 hs7 hE hM
  rename World => wq
  obtain ⟨left, cnt, S', hIt, HDL, hEq, hgq⟩ := hrel
  go_wp2_with (first | (at_next; refine wl_nextD rfl _ rfl b r (bmap S') left cnt rfl hIt ?_ ?_) | fail)
  ·intro hc0 hl0
   have hMq := hIt.map
   clear hIt
   go_wp2
   (try simp only [Exit.inBlock, Exit.then]); refine bodyPost_end (results_none rfl _ _ _) rfl ?_
   exact ⟨rfl, S', hMq, fun k => by rw [HDL.out.done k (hl0 k), ← HDD.out k], hgq⟩
  ·intro k v w8 cnt8 hk hkv hI8 hlt hg8 hs8 hen
   have hvt : v = .bool true := by
    unfold bmap at hkv
    split at hkv
    ·exact (Option.some.inj hkv).symm
    ·cases hkv
   subst hvt
   obtain ⟨KS, HKS⟩ : ∃ KS, Hid (KS = k.map (Value.int .u8)) := ⟨_, rfl⟩
   have HIDK : Hid (idV k = .agg KS.toArray) := hid (by rw [HKS.out]; rfl)
   have hk16 : k.length = 16 := hIt.map.len hkv
   have hKl : KS.length = 16 := by rw [HKS.out, List.length_map, hk16]
   have hK1 : ∀ u ∈ KS, u.oneCell' = true := by rw [HKS.out]; exact ints_one _ _
   have hcl := fun (y : World) (hE : LostEnv y p q b2 S2 go gn gcap gone) => hid (hL1.out k true y hk16 hE)
   rw [HDD.out k] at hcl
   rw [HIDK.out] at hen hcl ⊢
   have hE8 : LostEnv w8 p q b2 S2 go gn gcap gone := by
    have hci := fun i => cell_iter (i := i) hIt
    have hcn : ∀ a : Addr, a.block = r → wq.cell? a = none := fun a e => by
     obtain ⟨es, clock, since, seen, c0, _, _, h, _⟩ := hIt
     unfold World.cell?
     rw [e, h]
    have hce : ∀ (a : Addr) (v : Value), wq.cell? a = some v → w8.cell? a = some v := fun a v h => hg8.cell h (fun e => by
     have e2 : a.block = r := by injection e
     rw [hcn a e2] at h; cases h)
    refine ⟨hce _ _ hEq.cp, hce _ _ hEq.cq, hEq.map.grown hg8 (by
     intro e
     have e2 : r = b2 := by injection e
     obtain ⟨es, c, h, _⟩ := hEq.map
     obtain ⟨es', clock, since, seen, c0, _, _, h', _⟩ := hIt
     rw [← e2, h'] at h
     cases h), ⟨?_, hEq.row.2⟩⟩
    rcases hEq.row.1 with h | ⟨g, off, h1, h2, h3⟩
    ·exact Or.inl h
    ·exact Or.inr ⟨g, off, h1, Nat.lt_of_lt_of_le h2 hg8.size, fun i hi j u hu => hce _ _ (h3 i hi j u hu)⟩
   have hgw8 : w.grownBy w8 (some b) := hgq.andThen hg8 (fun j e => by injection e with e; exact Or.inl (by rw [hsz]; omega))
   have hbl8 := hI8.map.lt
   have hrl8 := hI8.lt
   have hs8r : r ≤ w8.heap.size := by omega
   clear hg8 hs8 hEq hgq
   cases hdk : dead k with
   | false =>
    have HD2 := hid (HDL.out.stay hk hdk)
    rw [hdk] at hcl
    clear hdk HDL hk
    go_wp2_with (first | (go_at_call 26; refine (hcl w10 hE10).out.mono ?_; rintro e w11 ⟨rfl, hb11⟩; have b811 : Below w8.heap.size w8 w11 := b810.trans (hb11.mono b810.size); have hI11 := hI8.below b811 hbl8 hrl8; have hE11 := hE8.below b811; have hK11 := hK10.below hb11 hK10.lt; have hg11 : w.grownBy w11 (some b) := hgw8.andThen (grown_none b811) (fun j e => by cases e)) | (refine wl_load rfl 27 _ rfl ⟨K, 0, none⟩ rfl KS (by rw [hKl]; exact aggID) hK10.at0 ?_) | (refine wl_storeV rfl 27 _ _ rfl 27 K rfl KS rfl 16 aggID hKl ZI hG9 hZIl hK1 ?_; intro w10 hK10 hb10 hs10; have b810 : Below w8.heap.size w8 w10 := bb9.trans (hb10.mono (by rw [HKK.out]; exact Nat.le_refl _)); have hE10 := hE8.below b810; clear hb10 hG9 bb9 hs10) | (refine wl_allocV rfl 27 rfl ZI hzI.out w8.heap.size rfl ?_; intro w9 hG9 bb9 hs9; obtain ⟨K, HKK⟩ : ∃ g, Hid (g = w8.heap.size) := ⟨_, rfl⟩; rw [← HKK.out] at hG9; rw [← HKK.out]; clear hs9))
    go_roundw
    case rel => exact ⟨_, cnt8, S', hI11, HD2, hE11, hg11⟩
    case measure => rw [hI11.left_eq, hIt.left_eq]; exact hlt
   | true =>
    have HD2 := hid (HDL.out.drop hdk)
    rw [hdk] at hcl
    clear hdk HDL hk
    go_wp2_with (first | (at_delete; refine wl_deleteD rfl _ _ 60 4 rfl Tryz.underlying60 b r _ _ _ hI11 k hk16 rfl HIDK.out.symm ?_; intro w12 cnt12 hI12r hle12 hg12 hb12 hs12; obtain ⟨es12, ck12, si12, se12, c12, q1, q2, q3⟩ := hI12r; have hI12 : IterD w12 b r (bmap (rem S' k)) (fun j => (left j ∧ j ≠ k) ∧ j ≠ k) cnt12 := ⟨es12, ck12, si12, se12, c12, q1, (by have e : dele (bmap S') k = bmap (rem S' k) := funext (fun j => bmap_rem S' k j); rw [← e]; exact q2), q3⟩; have hE12 := hE11.grown hg12 hI11.map hne; have hg12' : w.grownBy w12 (some b) := hg11.andThen hg12 (fun j e => Or.inr (by injection e with e; rw [e])); clear hg12 hb12 hs12 q1 q2 q3) | (refine wl_load rfl 27 _ rfl ⟨K, 0, none⟩ rfl KS (by rw [hKl]; exact aggID) hK11.at0 ?_) | (go_at_call 26; refine (hcl w10 hE10).out.mono ?_; rintro e w11 ⟨rfl, hb11⟩; have b811 : Below w8.heap.size w8 w11 := b810.trans (hb11.mono b810.size); have hI11 := hI8.below b811 hbl8 hrl8; have hE11 := hE8.below b811; have hK11 := hK10.below hb11 hK10.lt; have hg11 : w.grownBy w11 (some b) := hgw8.andThen (grown_none b811) (fun j e => by cases e)) | (refine wl_load rfl 27 _ rfl ⟨K, 0, none⟩ rfl KS (by rw [hKl]; exact aggID) hK10.at0 ?_) | (refine wl_storeV rfl 27 _ _ rfl 27 K rfl KS rfl 16 aggID hKl ZI hG9 hZIl hK1 ?_; intro w10 hK10 hb10 hs10; have b810 : Below w8.heap.size w8 w10 := bb9.trans (hb10.mono (by rw [HKK.out]; exact Nat.le_refl _)); have hE10 := hE8.below b810; clear hb10 hG9 bb9 hs10) | (refine wl_allocV rfl 27 rfl ZI hzI.out w8.heap.size rfl ?_; intro w9 hG9 bb9 hs9; obtain ⟨K, HKK⟩ : ∃ g, Hid (g = w8.heap.size) := ⟨_, rfl⟩; rw [← HKK.out] at hG9; rw [← HKK.out]; clear hs9))
    (try go_frame)
    go_roundw
    case rel => exact ⟨_, cnt12, rem S' k, hI12, HD2, hE12, hg12'⟩
    case measure => rw [hI12.left_eq, hIt.left_eq]; omega
def LinkedPost (ls : List (List Int)) (E : Int) (w : World) (e : Ending) (w' : World) : Prop := Below w.heap.size w w' ∧ ∃ (ao : Option Addr) (m c : Nat), e = .returned (.tuple #[.slice ao m c, .int .i64 E]) ∧ ((E ≠ 0 ∧ ao = none ∧ m = 0 ∧ c = 0) ∨ (E = 0 ∧ m = ls.length ∧ RowE w' ao (ls.map readX)))
def linkE (n m : Nat) (ls : List (List Int)) : Int := if 200 < n ∨ 200 < m then 5 else chE ls
set_option maxHeartbeats 2000000 in
theorem linked_any (po ro : Option Addr) (cap rcap n m : Nat) (ps : List Pt) (w : World) (hn : n = ps.length) (hrow : RowV w po (ps.map Pt.v)) (hps : ∀ x ∈ ps, 4 ≤ x.l.length → x.Ok w) :
  Calls Tryz.prog 22 #[.slice ro m rcap, .slice po n cap] w (LinkedPost (ps.map Pt.l) (linkE n m (ps.map Pt.l)) w) := by
 obtain ⟨E, HE⟩ : ∃ E, Hid (E = linkE n m (ps.map Pt.l)) := ⟨_, rfl⟩
 rw [← HE.out]
 by_cases h1 : 200 < n
 ·have h1I : (200 : Int) < (n : Int) := by omega
  have HE5 : Hid (E = 5) := hid (by rw [HE.out]; unfold linkE; rw [if_pos (Or.inl h1)])
  clear hn h1 HE
  go_enter Tryz.func22, Tryz.ntmps22
  go_wp2
  go_ret2
  exact ⟨Below.refl _ _, none, 0, 0, by rw [HE5.out]; rfl, Or.inl ⟨by rw [HE5.out]; decide, rfl, rfl, rfl⟩⟩
 ·have h1I : ¬ (200 : Int) < (n : Int) := by omega
  by_cases h2 : 200 < m
  ·have h2I : (200 : Int) < (m : Int) := by omega
   have HE5 : Hid (E = 5) := hid (by rw [HE.out]; unfold linkE; rw [if_pos (Or.inr h2)])
   clear hn h1 h2 HE
   go_enter Tryz.func22, Tryz.ntmps22
   go_wp2
   go_ret2
   exact ⟨Below.refl _ _, none, 0, 0, by rw [HE5.out]; rfl, Or.inl ⟨by rw [HE5.out]; decide, rfl, rfl, rfl⟩⟩
  ·have h2I : ¬ (200 : Int) < (m : Int) := by omega
   have HEC : Hid (E = chE (ps.map Pt.l)) := hid (by rw [HE.out]; unfold linkE; rw [if_neg (by omega)])
   have hlk := hid (links_any po cap n ps w hn (by omega) hrow hps)
   clear hn h1 h2 HE
   go_enter Tryz.func22, Tryz.ntmps22
   go_wp2_with (go_at_call 18; refine hlk.out.mono ?_; rintro e w1 ⟨hb1, ao, k, c, rfl, hor⟩; have HOR := hid hor; clear hor)
   go_ret2
   exact ⟨hb1, ao, k, c, by rw [HEC.out]; rfl, by rw [HEC.out]; exact HOR.out⟩
def ListPost (E : Int) (P : List Id → Prop) (w : World) (e : Ending) (w' : World) : Prop := Below w.heap.size w w' ∧ ∃ (ao : Option Addr) (m c : Nat), e = .returned (.tuple #[.slice ao m c, .int .i64 E]) ∧ ((E ≠ 0 ∧ ao = none ∧ m = 0 ∧ c = 0) ∨ (E = 0 ∧ ∃ ks : List Id, m = ks.length ∧ RowD w' ao ks ∧ ks.Nodup ∧ Ord ks ∧ P ks))
theorem nilD (w : World) : RowD w none [] := ⟨Or.inl rfl, fun s hs => by cases hs⟩
theorem few_of {roots gone : List Id} {E : List Link} {S : Id → Bool} (hg : Grow roots gone E (fun k => S k = true)) (h : roots.length + E.length ≤ 400) : ∀ l : List Id, l.Nodup → (∀ k ∈ l, S k = true) → l.length ≤ 400 := fun l hn hl => Nat.le_trans (hg.few hn hl) h
set_option maxHeartbeats 2000000 in
theorem Reach_any (po ro : Option Addr) (cap rcap n m : Nat) (ps : List Pt) (roots : List Id) (w : World) (hn : n = ps.length) (hm : m = roots.length) (hrow : RowV w po (ps.map Pt.v)) (hps : ∀ x ∈ ps, 4 ≤ x.l.length → x.Ok w) (hroots : RowD w ro roots) (hro : ∀ s ∈ roots, IdOk s)
  (hlk : Hid (∀ l ∈ ps.map Pt.l, readE l = 0 → (readX l).Ok)) :
  Calls Tryz.prog 5 #[.slice ro m rcap, .slice po n cap] w (ListPost (linkE n m (ps.map Pt.l)) (Reached roots [] (((ps.map Pt.l).map readX).map lnk)) w) := by
 obtain ⟨B, HB⟩ : ∃ B, Hid (B = w.heap.size) := ⟨_, rfl⟩
 have hsz : w.heap.size = B := HB.out.symm
 have hli := hid (linked_any po ro cap rcap n m ps w hn hrow hps)
 obtain ⟨E, HE⟩ : ∃ E, Hid (E = linkE n m (ps.map Pt.l)) := ⟨_, rfl⟩
 rw [← HE.out] at hli ⊢
 by_cases hE : E = 0
 ·have h0 := HE.out
  rw [hE] at h0
  have hnm : ¬ (200 < n ∨ 200 < m) := by intro h; unfold linkE at h0; rw [if_pos h] at h0; cases h0
  have hch : chE (ps.map Pt.l) = 0 := by unfold linkE at h0; rw [if_neg hnm] at h0; exact h0.symm
  have hEok : ∀ x ∈ (ps.map Pt.l).map readX, x.Ok := fun x hx => by
   obtain ⟨l, hl, rfl⟩ := List.mem_map.1 hx
   exact hlk.out l hl (chE_zero hch l hl).1
  have hNL : n = ((ps.map Pt.l).map readX).length := by rw [List.length_map, List.length_map]; exact hn
  obtain ⟨es, HES⟩ : ∃ es, Hid (es = (ps.map Pt.l).map readX) := ⟨_, rfl⟩
  rw [← HES.out] at hEok hNL
  have hrE : Hid (∀ (y : World) (ao : Option Addr) (c : Nat), RowD y ro roots → RowE y ao es → Calls Tryz.prog 24 #[.slice ro m rcap, .slice ao n c, .slice none 0 0] y (ReachPost roots [] (es.map lnk) y)) := hid (fun y ao c h1 h2 => reach_any ro ao none rcap c 0 m n 0 roots [] es y hm hNL rfl (by omega) (by omega) (by decide) h1 (nilD y) h2 hEok)
  have hOd : Hid (∀ (b : Nat) (S : Id → Bool) (y : World), Grow roots [] (es.map lnk) (fun k => S k = true) → MapD y b (bmap S) → Calls Tryz.prog 23 #[.map (some b)] y (IdsPost (fun ks => ∀ k, k ∈ ks ↔ S k = true) y)) := hid (fun b S y h1 h2 => ordered_any b S (hid (few_of h1 (by rw [List.length_map]; omega))) (hid (h1.of IdOk hro (fun x hx => by obtain ⟨z, hz, rfl⟩ := List.mem_map.1 hx; exact ⟨(hEok z hz).ol, (hEok z hz).oo⟩))) y h2)
  have HNL : Hid (n = (ps.map Pt.l).length) := hid (by rw [List.length_map]; exact hn)
  subst hE
  clear hn hm hnm hch hEok hNL h0 hro hlk hps
  go_enter Tryz.func5, Tryz.ntmps5
  go_wp2_with (first | (go_at_call 23; refine (hOd.out b2 S2 w2 HG2.out hM2).mono ?_; rintro e w3 ⟨hb3, ao3, m3, c3, ks, rfl, hks⟩; have HKS := hid hks; clear hks) | (go_at_call 24; refine (hrE.out w1 ao1 c1 (hroots.below (by rw [hsz]; exact hb1)) HRW.out).mono ?_; rintro e w2 ⟨hb2, b2, S2, rfl, hbb2, hM2, hG2, hS2⟩; have HG2 := hid hG2; have HS2 := hid hS2; clear hG2 hS2) | (go_at_call 22; refine hli.out.mono ?_; rintro e w1 ⟨hb1, ao1, m1, c1, rfl, hor⟩; rw [hsz] at hb1; have hor2 : m1 = n ∧ RowE w1 ao1 es := (by rcases hor with h | h; exact absurd rfl h.1; exact ⟨h.2.1.trans HNL.out.symm, by rw [HES.out]; exact h.2.2⟩); obtain ⟨hmn, hrw⟩ := hor2; subst hmn; have HRW := hid hrw; clear hor hrw))
  go_ret2
  refine ⟨by rw [hsz]; exact (hb1.trans (hb2.mono (by have := hb1.size; omega))).trans (hb3.mono (by have := hb1.size; have := hb2.size; omega)), ao3, m3, c3, rfl, Or.inr ⟨rfl, ks, HKS.out.1, HKS.out.2.1, HKS.out.2.2.1, HKS.out.2.2.2.1, ?_⟩⟩
  have h5 := HKS.out.2.2.2.2
  rw [← HES.out]
  exact ⟨HG2.out.iff (fun k => (h5 k).symm), HS2.out.iff (fun k => (h5 k).symm)⟩
 ·have hE1 : (E == 0) = false := by simpa using hE
  clear hn hm hro hlk hps HE
  go_enter Tryz.func5, Tryz.ntmps5
  go_wp2_with (go_at_call 22; refine hli.out.mono ?_; rintro e w1 ⟨hb1, ao1, m1, c1, rfl, hor⟩; clear hor)
  go_ret2
  exact ⟨hb1, none, 0, 0, rfl, Or.inl ⟨hE, rfl, rfl, rfl⟩⟩
end Go.Proofs.YtbjmadcbhkeenaaGreat.lk
namespace Go.Proofs.YtbjmadcbhkeenaaGreat.lk
open Go.RowKit wr shr sh st hs srt
theorem step_alloc1 {P : Program} {ops : Array Oper} {o : Oper} {a : Act} {w : World} {K : Act → World → Prop} {Q : Exit → Act → World → Prop} {E : Prop} (hgd : o.guard = none) (t : TypeId) (ho : o.op = .alloc t)
  (v : Value) (hv : v.cells = #[v]) (hz : (P.info? t).map (·.zero) = some (some v)) (N : Nat) (hN : w.heap.size = N)
  (h : ∀ w', BlkV t w' N [v] → Below N w w' → w'.heap.size = N + 1 → K (a.put o.dst (.pointer (some ⟨N, 0, none⟩))) w') : if Region.wanted o (yielded ops a.tmps) = true then Oper.wp P o a w K Q else E := by
 subst hN
 have hw : Region.wanted o (yielded ops a.tmps) = true := by simp [Region.wanted, hgd]
 rw [if_pos hw]
 obtain ⟨i, hi, hzz⟩ := Option.map_eq_some_iff.1 hz
 unfold Oper.wp
 simp [execOp, ho, Instr.alloc, zeroValue, typeInfo, hi, hzz, newVar, newRow, hv, Result.andThen]
 exact h _ (BlkV.new t w [v] rfl) ((Below.refl _ _).alloc (Nat.le_refl _) _) (by simp)
theorem zeroMapB : (Tryz.prog.info? 60).map (·.zero) = some (some (.map none)) := by kernel_rfl
theorem sizeMapB : (Tryz.prog.info? 60).map (·.size) = some 1 := by kernel_rfl
def lostE (n m gn : Nat) (ls : List (List Int)) : Int := if linkE n m ls ≠ 0 then linkE n m ls else if 200 < gn then 5 else 0
def LostIs (roots gone : List Id) (E : List Link) (ks : List Id) : Prop := ∃ S1 S2 : Id → Bool, Grow roots [] E (fun k => S1 k = true) ∧ Shut1 E [] (fun k => S1 k = true) ∧ Grow roots gone E (fun k => S2 k = true) ∧ Shut1 E gone (fun k => S2 k = true) ∧ ∀ k, k ∈ ks ↔ S1 k = true ∧ ¬ S2 k = true ∧ k ∉ gone
set_option maxHeartbeats 4000000 in
theorem Lost_any (po ro go : Option Addr) (cap rcap gcap n m gn : Nat) (ps : List Pt) (roots gone : List Id) (w : World) (hn : n = ps.length) (hm : m = roots.length) (hg : gn = gone.length) (hgn : gn ≤ 9223372036854775807) (hrow : RowV w po (ps.map Pt.v)) (hps : ∀ x ∈ ps, 4 ≤ x.l.length → x.Ok w) (hroots : RowD w ro roots) (hgone : RowD w go gone) (hro : ∀ s ∈ roots, IdOk s)
  (hlk : Hid (∀ l ∈ ps.map Pt.l, readE l = 0 → (readX l).Ok)) :
  Calls Tryz.prog 6 #[.slice ro m rcap, .slice po n cap, .slice go gn gcap] w (ListPost (lostE n m gn (ps.map Pt.l)) (LostIs roots gone (((ps.map Pt.l).map readX).map lnk)) w) := by
 obtain ⟨B, HB⟩ : ∃ B, Hid (B = w.heap.size) := ⟨_, rfl⟩
 have hsz : w.heap.size = B := HB.out.symm
 have hli := fun (y : World) (hb : Below B w y) => hid (linked_any po ro cap rcap n m ps y hn (hrow.below (hsz ▸ hb)) (fun x hx h4 => (hps x hx h4).below (hsz ▸ hb)))
 obtain ⟨E, HE⟩ : ∃ E, Hid (E = linkE n m (ps.map Pt.l)) := ⟨_, rfl⟩
 obtain ⟨L, HLO⟩ : ∃ E, Hid (E = lostE n m gn (ps.map Pt.l)) := ⟨_, rfl⟩
 rw [← HE.out] at hli
 rw [← HLO.out]
 by_cases hE : E = 0
 ·have h0 := HE.out
  rw [hE] at h0
  by_cases hgl : 200 < gn
  ·have hglI : (200 : Int) < (gn : Int) := by omega
   have HL5 : Hid (L = 5) := hid (by rw [HLO.out]; unfold lostE; rw [if_neg (by rw [← h0]; exact fun h => h rfl), if_pos hgl])
   subst hE
   clear hn hm hg hro hlk hps hgl h0
   go_enter Tryz.func6, Tryz.ntmps6
   go_wp2_with (first | (go_at_call 22; refine (hli w0 hb0).out.mono ?_; rintro e w1 ⟨hb1, ao1, m1, c1, rfl, hor⟩; have bb1 : Below B w w1 := hb0.trans (hb1.mono (by omega)); have hB1 := hB0.below hb1 hB0.lt; have c0 := hB1.cell 0; clear hor hB0 hb0) | (refine wl_box1 rfl 28 _ rfl (.slice go gn gcap) rfl rfl B hsz ?_; intro w0 hB0 hb0 hs0))
   go_ret2
   exact ⟨by rw [hsz]; exact bb1, none, 0, 0, by rw [HL5.out]; rfl, Or.inl ⟨by rw [HL5.out]; decide, rfl, rfl, rfl⟩⟩
  ·have hglI : ¬ (200 : Int) < (gn : Int) := by omega
   have HL0 : Hid (L = 0) := hid (by rw [HLO.out]; unfold lostE; rw [if_neg (by rw [← h0]; exact fun h => h rfl), if_neg hgl])
   have hnm : ¬ (200 < n ∨ 200 < m) := by intro h; unfold linkE at h0; rw [if_pos h] at h0; cases h0
   have hch : chE (ps.map Pt.l) = 0 := by unfold linkE at h0; rw [if_neg hnm] at h0; exact h0.symm
   have hEok : ∀ x ∈ (ps.map Pt.l).map readX, x.Ok := fun x hx => by
    obtain ⟨l, hl, rfl⟩ := List.mem_map.1 hx
    exact hlk.out l hl (chE_zero hch l hl).1
   have hNL : n = ((ps.map Pt.l).map readX).length := by rw [List.length_map, List.length_map]; exact hn
   obtain ⟨es, HES⟩ : ∃ es, Hid (es = (ps.map Pt.l).map readX) := ⟨_, rfl⟩
   rw [← HES.out] at hEok hNL
   have hrE : Hid (∀ (y : World) (ao : Option Addr) (c : Nat), Below B w y → RowE y ao es → Calls Tryz.prog 24 #[.slice ro m rcap, .slice ao n c, .slice none 0 0] y (ReachPost roots [] (es.map lnk) y)) := hid (fun y ao c hb h2 => reach_any ro ao none rcap c 0 m n 0 roots [] es y hm hNL rfl (by omega) (by omega) (by decide) (hroots.below (hsz ▸ hb)) (nilD y) h2 hEok)
   have hrF : Hid (∀ (y : World) (ao : Option Addr) (c : Nat), Below B w y → RowE y ao es → Calls Tryz.prog 24 #[.slice ro m rcap, .slice ao n c, .slice go gn gcap] y (ReachPost roots gone (es.map lnk) y)) := hid (fun y ao c hb h2 => reach_any ro ao go rcap c gcap m n gn roots gone es y hm hNL hg (by omega) (by omega) hgn (hroots.below (hsz ▸ hb)) (hgone.below (hsz ▸ hb)) h2 hEok)
   have hOd : Hid (∀ (b : Nat) (S S' : Id → Bool) (y : World), Grow roots [] (es.map lnk) (fun k => S k = true) → (∀ k, S' k = true → S k = true) → MapD y b (bmap S') → Calls Tryz.prog 23 #[.map (some b)] y (IdsPost (fun ks => ∀ k, k ∈ ks ↔ S' k = true) y)) := hid (fun b S S' y h1 hs h2 => ordered_any b S' (hid (fun l hn hl => few_of h1 (by rw [List.length_map]; omega) l hn (fun k hk => hs k (hl k hk)))) (hid (fun k hk => h1.of IdOk hro (fun x hx => by obtain ⟨z, hz, rfl⟩ := List.mem_map.1 hx; exact ⟨(hEok z hz).ol, (hEok z hz).oo⟩) k (hs k hk))) y h2)
   have hDl := hid (fun (b p q b2 : Nat) (S S2 : Id → Bool) (y : World) h1 h2 h3 => Delete_any b p q b2 gn gcap S S2 go gone y hg hgn h1 h2 h3)
   have HNL : Hid (n = (ps.map Pt.l).length) := hid (by rw [List.length_map]; exact hn)
   subst hE
   clear hn hm hnm hch hEok hNL h0 hro hlk hps hg hgl
   go_enter Tryz.func6, Tryz.ntmps6
   go_wp2_with (first | (go_at_call 22; refine (hli w0 hb0).out.mono ?_; rintro e w1 ⟨hb1, ao1, m1, c1, rfl, hor⟩; have bb1 : Below B w w1 := hb0.trans (hb1.mono (by omega)); have hB1 := hB0.below hb1 hB0.lt; have hs1 := hb1.size; have c0 := hB1.cell 0; have hor2 : m1 = n ∧ RowE w1 ao1 es := (by rcases hor with h | h; exact absurd rfl h.1; exact ⟨h.2.1.trans HNL.out.symm, by rw [HES.out]; exact h.2.2⟩); obtain ⟨hmn, hrw⟩ := hor2; subst hmn; have HRW := hid hrw; clear hor hrw hB0 hb0 hb1) | (refine wl_box1 rfl 28 _ rfl (.slice go gn gcap) rfl rfl B hsz ?_; intro w0 hB0 hb0 hs0))
   have hrN : Hid (∀ y, Below B w y → RowE y ao1 es → Calls Tryz.prog 24 #[.slice ro m rcap, .slice ao1 m1 c1, .slice none 0 0] y (ReachPost roots [] (es.map lnk) y)) := hid (fun y h h2 => hrE.out y ao1 c1 h h2)
   have hrG : Hid (∀ y, Below B w y → RowE y ao1 es → Calls Tryz.prog 24 #[.slice ro m rcap, .slice ao1 m1 c1, .slice go gn gcap] y (ReachPost roots gone (es.map lnk) y)) := hid (fun y h h2 => hrF.out y ao1 c1 h h2)
   refine wp_region_held_drew (S := (fun w' => BlkV 28 w' B [.slice go gn gcap])) (by kernel_rfl) (show BlkV 28 w1.drew B [.slice go gn gcap] from hB1) (fun hHeld => ?_)
   obtain ⟨z0, HZ0⟩ : ∃ y, Hid (y = w1.drew) := ⟨_, rfl⟩
   rw [← HZ0.out] at hHeld ⊢
   have fC0 : BlkV 28 z0 B [.slice go gn gcap] := by rw [HZ0.out]; exact hB1
   have fB0 : Below B w z0 := by rw [HZ0.out]; exact bb1.drew
   have fS0 : B ≤ z0.heap.size := Nat.le_of_lt fC0.lt
   have HRW0 : Hid (RowE z0 ao1 es) := hid (by rw [HZ0.out]; exact HRW.out)
   have hrN : Hid (∀ y, Below z0.heap.size z0 y → Calls Tryz.prog 24 #[.slice ro m rcap, .slice ao1 m1 c1, .slice none 0 0] y (ReachPost roots [] (es.map lnk) y)) := hid (fun y h => hrN.out y (fB0.trans (h.mono fS0)) (HRW0.out.below h))
   have hrG : Hid (∀ y, Below z0.heap.size z0 y → Calls Tryz.prog 24 #[.slice ro m rcap, .slice ao1 m1 c1, .slice go gn gcap] y (ReachPost roots gone (es.map lnk) y)) := hid (fun y h => hrG.out y (fB0.trans (h.mono fS0)) (HRW0.out.below h))
   have fZ0 : Below z0.heap.size z0 z0 := Below.refl _ _
   clear hB1 bb1 hs1 HRW
   refine tkP 0 rfl (by assumption) ⟨?_, ?_, ?_⟩
   rotate_left
   ·intro w hSw; (try dsimp only at hSw); go_simp; (try with_reducible rfl)
   try simp only [Act.put, sArr, sZ, sS]
   refine tkP 1 rfl (by assumption) ⟨?_, ?_, ?_⟩
   rotate_left
   ·intro w hSw; (try dsimp only at hSw); go_simp; (try with_reducible rfl)
   try simp only [Act.put, sArr, sZ, sS]
   refine tkP 3 rfl (by assumption) ⟨?_, ?_, ?_⟩
   rotate_left
   ·intro w hSw; (try dsimp only at hSw); go_simp; (try with_reducible rfl)
   try simp only [Act.put, sArr, sZ, sS]
   refine tkP 4 rfl (by assumption) ⟨?_, ?_, ?_⟩
   rotate_left
   ·intro w hSw; (try dsimp only at hSw); go_simp; (try with_reducible rfl)
   try simp only [Act.put, sArr, sZ, sS]
   refine tkP 5 rfl (by assumption) ⟨.slice go gn gcap, ?_, ?_⟩
   ·intro w hSw; have cc := (hSw : BlkV 28 w B [.slice go gn gcap]).cell 0; (try dsimp only at hSw); go_simp; (try with_reducible rfl)
   try simp only [Act.put, sArr, sZ, sS]
   refine wpAnyH_ready (rs := [2, 7]) (by kernel_rfl) (by simp) (cons_l rfl (fun K' hK' => ?_) (cons_l rfl (fun K' hK' => ?_) AllReadyH.nil))
   focus
    rw [if_pos (by kernel_rfl)]
    go_simp
    go_at_call 24
    refine (hrN.out z0 fZ0).mono ?_
    rintro e z1 ⟨hz1, b1, S1, rfl, hbb1, hM1, hG1, hS1⟩
    have HG1 := hid hG1
    have HS1 := hid hS1
    clear hG1 hS1
    have hbB1 : B ≤ b1 := Nat.le_trans fS0 hbb1
    have fB1 : Below B w z1 := fB0.trans (hz1.mono fS0)
    have fZ1 : Below z0.heap.size z0 z1 := fZ0.trans (hz1.mono fZ0.size)
    have fS1 : B ≤ z1.heap.size := Nat.le_trans fS0 hz1.size
    have fC1 : BlkV 28 z1 B [.slice go gn gcap] := fC0.below hz1 fC0.lt
    refine hK'.out _ _ fC1 (fun hHeld => ?_)
    clear hK' K'
    try simp only [Act.put, sArr, sZ, sS]
    refine wpAnyH_ready (rs := [6, 7]) (by kernel_rfl) (by simp) (cons_l rfl (fun K' hK' => ?_) (cons_l rfl (fun K' hK' => ?_) AllReadyH.nil))
    focus
     rw [if_pos (by kernel_rfl)]
     go_simp
     go_at_call 24
     refine (hrG.out z1 fZ1).mono ?_
     rintro e z2 ⟨hz2, b2, S2, rfl, hbb2, hM2, hG2, hS2⟩
     have HG2 := hid hG2
     have HS2 := hid hS2
     clear hG2 hS2
     have hne12 : b1 ≠ b2 := by have := hM1.lt; omega
     have hM1 := hM1.below hz2 hM1.lt
     have fB2 : Below B w z2 := fB1.trans (hz2.mono fS1)
     have fZ2 : Below z0.heap.size z0 z2 := fZ1.trans (hz2.mono fZ1.size)
     have fS2 : B ≤ z2.heap.size := Nat.le_trans fS1 hz2.size
     have fC2 : BlkV 28 z2 B [.slice go gn gcap] := fC1.below hz2 fC1.lt
     refine hK'.out _ _ fC2 (fun hHeld => ?_)
     clear hK' K'
     try simp only [Act.put, sArr, sZ, sS]
     refine wpAnyH_ready (rs := [7]) (by kernel_rfl) (by simp) (cons_l rfl (fun K' hK' => ?_) AllReadyH.nil)
     refine step_alloc1 rfl 60 rfl (.map none) rfl zeroMapB z2.heap.size rfl ?_
     intro z3 hP hz3 hsz3
     obtain ⟨P, HPP⟩ : ∃ g, Hid (g = z2.heap.size) := ⟨_, rfl⟩
     rw [← HPP.out] at hP
     rw [← HPP.out]
     have hPB : B ≤ P := by rw [HPP.out]; exact fS2
     clear hsz3
     have fB3 : Below B w z3 := fB2.trans (hz3.mono fS2)
     have fZ3 : Below z0.heap.size z0 z3 := fZ2.trans (hz3.mono fZ2.size)
     have fS3 : B ≤ z3.heap.size := Nat.le_trans fS2 hz3.size
     have fC3 : BlkV 28 z3 B [.slice go gn gcap] := fC2.below hz3 fC2.lt
     have hM1 := hM1.below hz3 hM1.lt
     have hM2 := hM2.below hz3 hM2.lt
     refine hK'.out _ _ fC3 (fun hHeld => ?_)
     clear hK' K'
     try simp only [Act.put, sArr, sZ, sS]
     refine tkP 8 rfl (by assumption) ⟨?_, ?_, ?_⟩
     rotate_left
     ·intro w hSw; (try dsimp only at hSw); go_simp; (try with_reducible rfl)
     try simp only [Act.put, sArr, sZ, sS]
     refine wpAnyH_ready (rs := [9]) (by kernel_rfl) (by simp) (cons_l rfl (fun K' hK' => ?_) AllReadyH.nil)
     have hP0 := hP
     have hPB2 : P ≠ B := fun e => by
      have h1 := hP0
      rw [e] at h1
      have h3 := (show z3.heap[B]? = _ from h1).symm.trans (show z3.heap[B]? = _ from fC3)
      simp at h3
     refine step_set1 rfl 60 _ _ rfl 60 P 0 rfl (.map (some b2)) rfl rfl rfl sizeMapB [.map none] hP (by decide) ?_
     intro z4 hP hg4 hz4 hsz4
     have hPne : ∀ (j : Nat) (D : Mp Value) (y : World), MapD y j D → BlkV 60 y P [.map none] → P ≠ j := fun j D y h1 h2 e => by
      obtain ⟨es, c, h, _⟩ := h1
      rw [← e, show y.heap[P]? = _ from h2] at h
      cases h
     have hM1 := hM1.grown hg4 (by intro e; injection e with e; exact hPne _ _ _ hM1 hP0 e)
     have hM2 := hM2.grown hg4 (by intro e; injection e with e; exact hPne _ _ _ hM2 hP0 e)
     have fC4 : BlkV 28 z4 B [.slice go gn gcap] := fC3.grown hg4 (by intro e; injection e with e; exact hPB2 e)
     have fB4 : Below B w z4 := fB3.grown hg4 fS3 (fun k hk => by injection hk with hk; rw [← hk]; exact hPB)
     have fS4 : B ≤ z4.heap.size := Nat.le_trans fS3 hg4.size
     have hENV : LostEnv z4 P B b2 S2 go gn gcap gone := ⟨hP.cell 0, fC4.cell 0, hM2, hgone.below (by rw [hsz]; exact fB4)⟩
     refine hK'.out _ _ fC4 (fun hHeld => ?_)
     clear hK' K'
     try simp only [Act.put, sArr, sZ, sS]
     refine wpAnyH_done (by kernel_rfl) ?_ _
    rotate_left 1
    focus
     refine step_alloc1 rfl 60 rfl (.map none) rfl zeroMapB z1.heap.size rfl ?_
     intro z2 hP hz2 hsz2
     obtain ⟨P, HPP⟩ : ∃ g, Hid (g = z1.heap.size) := ⟨_, rfl⟩
     rw [← HPP.out] at hP
     rw [← HPP.out]
     have hPB : B ≤ P := by rw [HPP.out]; exact fS1
     clear hsz2
     have fB2 : Below B w z2 := fB1.trans (hz2.mono fS1)
     have fZ2 : Below z0.heap.size z0 z2 := fZ1.trans (hz2.mono fZ1.size)
     have fS2 : B ≤ z2.heap.size := Nat.le_trans fS1 hz2.size
     have fC2 : BlkV 28 z2 B [.slice go gn gcap] := fC1.below hz2 fC1.lt
     have hM1 := hM1.below hz2 hM1.lt
     refine hK'.out _ _ fC2 (fun hHeld => ?_)
     clear hK' K'
     try simp only [Act.put, sArr, sZ, sS]
     refine wpAnyH_ready (rs := [6]) (by kernel_rfl) (by simp) (cons_l rfl (fun K' hK' => ?_) AllReadyH.nil)
     rw [if_pos (by kernel_rfl)]
     go_simp
     go_at_call 24
     refine (hrG.out z2 fZ2).mono ?_
     rintro e z3 ⟨hz3, b2, S2, rfl, hbb2, hM2, hG2, hS2⟩
     have HG2 := hid hG2
     have HS2 := hid hS2
     clear hG2 hS2
     have hne12 : b1 ≠ b2 := by have := hM1.lt; omega
     have hM1 := hM1.below hz3 hM1.lt
     have fB3 : Below B w z3 := fB2.trans (hz3.mono fS2)
     have fZ3 : Below z0.heap.size z0 z3 := fZ2.trans (hz3.mono fZ2.size)
     have fS3 : B ≤ z3.heap.size := Nat.le_trans fS2 hz3.size
     have fC3 : BlkV 28 z3 B [.slice go gn gcap] := fC2.below hz3 fC2.lt
     have hP := hP.below hz3 hP.lt
     refine hK'.out _ _ fC3 (fun hHeld => ?_)
     clear hK' K'
     try simp only [Act.put, sArr, sZ, sS]
     refine tkP 8 rfl (by assumption) ⟨?_, ?_, ?_⟩
     rotate_left
     ·intro w hSw; (try dsimp only at hSw); go_simp; (try with_reducible rfl)
     try simp only [Act.put, sArr, sZ, sS]
     refine wpAnyH_ready (rs := [9]) (by kernel_rfl) (by simp) (cons_l rfl (fun K' hK' => ?_) AllReadyH.nil)
     have hP0 := hP
     have hPB2 : P ≠ B := fun e => by
      have h1 := hP0
      rw [e] at h1
      have h3 := (show z3.heap[B]? = _ from h1).symm.trans (show z3.heap[B]? = _ from fC3)
      simp at h3
     refine step_set1 rfl 60 _ _ rfl 60 P 0 rfl (.map (some b2)) rfl rfl rfl sizeMapB [.map none] hP (by decide) ?_
     intro z4 hP hg4 hz4 hsz4
     have hPne : ∀ (j : Nat) (D : Mp Value) (y : World), MapD y j D → BlkV 60 y P [.map none] → P ≠ j := fun j D y h1 h2 e => by
      obtain ⟨es, c, h, _⟩ := h1
      rw [← e, show y.heap[P]? = _ from h2] at h
      cases h
     have hM1 := hM1.grown hg4 (by intro e; injection e with e; exact hPne _ _ _ hM1 hP0 e)
     have hM2 := hM2.grown hg4 (by intro e; injection e with e; exact hPne _ _ _ hM2 hP0 e)
     have fC4 : BlkV 28 z4 B [.slice go gn gcap] := fC3.grown hg4 (by intro e; injection e with e; exact hPB2 e)
     have fB4 : Below B w z4 := fB3.grown hg4 fS3 (fun k hk => by injection hk with hk; rw [← hk]; exact hPB)
     have fS4 : B ≤ z4.heap.size := Nat.le_trans fS3 hg4.size
     have hENV : LostEnv z4 P B b2 S2 go gn gcap gone := ⟨hP.cell 0, fC4.cell 0, hM2, hgone.below (by rw [hsz]; exact fB4)⟩
     refine hK'.out _ _ fC4 (fun hHeld => ?_)
     clear hK' K'
     try simp only [Act.put, sArr, sZ, sS]
     refine wpAnyH_done (by kernel_rfl) ?_ _
    rotate_left 1
   rotate_left 2
   focus
    refine step_alloc1 rfl 60 rfl (.map none) rfl zeroMapB z0.heap.size rfl ?_
    intro z1 hP hz1 hsz1
    obtain ⟨P, HPP⟩ : ∃ g, Hid (g = z0.heap.size) := ⟨_, rfl⟩
    rw [← HPP.out] at hP
    rw [← HPP.out]
    have hPB : B ≤ P := by rw [HPP.out]; exact fS0
    clear hsz1
    have fB1 : Below B w z1 := fB0.trans (hz1.mono fS0)
    have fZ1 : Below z0.heap.size z0 z1 := fZ0.trans (hz1.mono fZ0.size)
    have fS1 : B ≤ z1.heap.size := Nat.le_trans fS0 hz1.size
    have fC1 : BlkV 28 z1 B [.slice go gn gcap] := fC0.below hz1 fC0.lt
    refine hK'.out _ _ fC1 (fun hHeld => ?_)
    clear hK' K'
    try simp only [Act.put, sArr, sZ, sS]
    refine wpAnyH_ready (rs := [2]) (by kernel_rfl) (by simp) (cons_l rfl (fun K' hK' => ?_) AllReadyH.nil)
    rw [if_pos (by kernel_rfl)]
    go_simp
    go_at_call 24
    refine (hrN.out z1 fZ1).mono ?_
    rintro e z2 ⟨hz2, b1, S1, rfl, hbb1, hM1, hG1, hS1⟩
    have HG1 := hid hG1
    have HS1 := hid hS1
    clear hG1 hS1
    have hbB1 : B ≤ b1 := Nat.le_trans fS1 hbb1
    have fB2 : Below B w z2 := fB1.trans (hz2.mono fS1)
    have fZ2 : Below z0.heap.size z0 z2 := fZ1.trans (hz2.mono fZ1.size)
    have fS2 : B ≤ z2.heap.size := Nat.le_trans fS1 hz2.size
    have fC2 : BlkV 28 z2 B [.slice go gn gcap] := fC1.below hz2 fC1.lt
    have hP := hP.below hz2 hP.lt
    refine hK'.out _ _ fC2 (fun hHeld => ?_)
    clear hK' K'
    try simp only [Act.put, sArr, sZ, sS]
    refine wpAnyH_ready (rs := [6]) (by kernel_rfl) (by simp) (cons_l rfl (fun K' hK' => ?_) AllReadyH.nil)
    rw [if_pos (by kernel_rfl)]
    go_simp
    go_at_call 24
    refine (hrG.out z2 fZ2).mono ?_
    rintro e z3 ⟨hz3, b2, S2, rfl, hbb2, hM2, hG2, hS2⟩
    have HG2 := hid hG2
    have HS2 := hid hS2
    clear hG2 hS2
    have hne12 : b1 ≠ b2 := by have := hM1.lt; omega
    have hM1 := hM1.below hz3 hM1.lt
    have fB3 : Below B w z3 := fB2.trans (hz3.mono fS2)
    have fZ3 : Below z0.heap.size z0 z3 := fZ2.trans (hz3.mono fZ2.size)
    have fS3 : B ≤ z3.heap.size := Nat.le_trans fS2 hz3.size
    have fC3 : BlkV 28 z3 B [.slice go gn gcap] := fC2.below hz3 fC2.lt
    have hP := hP.below hz3 hP.lt
    refine hK'.out _ _ fC3 (fun hHeld => ?_)
    clear hK' K'
    try simp only [Act.put, sArr, sZ, sS]
    refine tkP 8 rfl (by assumption) ⟨?_, ?_, ?_⟩
    rotate_left
    ·intro w hSw; (try dsimp only at hSw); go_simp; (try with_reducible rfl)
    try simp only [Act.put, sArr, sZ, sS]
    refine wpAnyH_ready (rs := [9]) (by kernel_rfl) (by simp) (cons_l rfl (fun K' hK' => ?_) AllReadyH.nil)
    have hP0 := hP
    have hPB2 : P ≠ B := fun e => by
     have h1 := hP0
     rw [e] at h1
     have h3 := (show z3.heap[B]? = _ from h1).symm.trans (show z3.heap[B]? = _ from fC3)
     simp at h3
    refine step_set1 rfl 60 _ _ rfl 60 P 0 rfl (.map (some b2)) rfl rfl rfl sizeMapB [.map none] hP (by decide) ?_
    intro z4 hP hg4 hz4 hsz4
    have hPne : ∀ (j : Nat) (D : Mp Value) (y : World), MapD y j D → BlkV 60 y P [.map none] → P ≠ j := fun j D y h1 h2 e => by
     obtain ⟨es, c, h, _⟩ := h1
     rw [← e, show y.heap[P]? = _ from h2] at h
     cases h
    have hM1 := hM1.grown hg4 (by intro e; injection e with e; exact hPne _ _ _ hM1 hP0 e)
    have hM2 := hM2.grown hg4 (by intro e; injection e with e; exact hPne _ _ _ hM2 hP0 e)
    have fC4 : BlkV 28 z4 B [.slice go gn gcap] := fC3.grown hg4 (by intro e; injection e with e; exact hPB2 e)
    have fB4 : Below B w z4 := fB3.grown hg4 fS3 (fun k hk => by injection hk with hk; rw [← hk]; exact hPB)
    have fS4 : B ≤ z4.heap.size := Nat.le_trans fS3 hg4.size
    have hENV : LostEnv z4 P B b2 S2 go gn gcap gone := ⟨hP.cell 0, fC4.cell 0, hM2, hgone.below (by rw [hsz]; exact fB4)⟩
    refine hK'.out _ _ fC4 (fun hHeld => ?_)
    clear hK' K'
    try simp only [Act.put, sArr, sZ, sS]
    refine wpAnyH_done (by kernel_rfl) ?_ _
   rotate_left 1
   all_goals
    clear hHeld
    go_wp2_with (first | (go_at_call 23; refine (hOd.out b1 S1 S3 y1 HG1.out HS3.out hM3).mono ?_; rintro e y2 ⟨hb3, ao3, m3, c3, ks, rfl, hks⟩; have HKS := hid hks; clear hks) | (go_at_call 25; refine (hDl.out b1 P B b2 S1 S2 z4 hM1 hENV hne12).mono ?_; rintro e y1 ⟨rfl, S3, hM3, hS3, hg3⟩; have HS3 : Hid (∀ k, S3 k = true → S1 k = true) := hid (fun k hk => by rw [hS3 k, Bool.and_eq_true] at hk; exact hk.1); have HS4 := hid hS3; have bb3 : Below B w y1 := fB4.grown hg3 fS4 (fun k hk => by injection hk with hk; rw [← hk]; exact hbB1); have hsy1 : B ≤ y1.heap.size := Nat.le_trans fS4 hg3.size; clear hS3 hg3))
    go_ret2
    refine ⟨by rw [hsz]; exact bb3.trans (hb3.mono hsy1), ao3, m3, c3, by rw [HL0.out]; rfl, Or.inr ⟨HL0.out, ks, HKS.out.1, HKS.out.2.1, HKS.out.2.2.1, HKS.out.2.2.2.1, ?_⟩⟩
    have h5 := HKS.out.2.2.2.2
    rw [← HES.out]
    refine ⟨S1, S2, HG1.out, HS1.out, HG2.out, HS2.out, fun k => ?_⟩
    rw [h5 k, HS4.out k, Bool.and_eq_true, Bool.not_eq_true', Bool.or_eq_false_iff, decide_eq_false_iff_not, Bool.not_eq_true]
 ·have hE1 : (E == 0) = false := by simpa using hE
  have HLE : Hid (L = E) := hid (by rw [HLO.out, HE.out]; unfold lostE; rw [if_pos (by rw [← HE.out]; exact hE)])
  clear hn hm hro hlk hps HE hg HLO
  go_enter Tryz.func6, Tryz.ntmps6
  go_wp2_with (first | (go_at_call 22; refine (hli w0 hb0).out.mono ?_; rintro e w1 ⟨hb1, ao1, m1, c1, rfl, hor⟩; have bb1 : Below B w w1 := hb0.trans (hb1.mono (by omega)); have hB1 := hB0.below hb1 hB0.lt; have c0 := hB1.cell 0; clear hor hB0 hb0) | (refine wl_box1 rfl 28 _ rfl (.slice go gn gcap) rfl rfl B hsz ?_; intro w0 hB0 hb0 hs0))
  go_ret2
  exact ⟨by rw [hsz]; exact bb1, none, 0, 0, by rw [HLE.out]; rfl, Or.inl ⟨by rw [HLE.out]; exact hE, rfl, rfl, rfl⟩⟩
end Go.Proofs.YtbjmadcbhkeenaaGreat.lk
