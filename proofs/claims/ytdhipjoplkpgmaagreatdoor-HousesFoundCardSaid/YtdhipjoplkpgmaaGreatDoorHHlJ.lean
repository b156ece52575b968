/-
  HousesFound, the law: what it answers is true. Conditions: the roles lie in memory; the table of powers is laid. HousesFound: a slice of strings among a law's arguments. Conditions: the types' forms.
-/
import Derived.Test.YtdhipjoplkpgmaaGreatDoorHHkV
import Derived.Test.YtdhipjoplkpgmaaGreatDoorHHgL
import Derived.SliceStrings
set_option maxRecDepth 100000
set_option linter.unusedSimpArgs false
set_option linter.unusedVariables false
set_option maxHeartbeats 8000000
namespace Go.Proofs.YtdhipjoplkpgmaaGreatDoor.hf
open Go.RowKit st hs wr shr sh lk
theorem foundE_ok {f : List Int} {rs : List ByteArray} {t : Int} (h : foundE f rs t = 0) : f ≠ List.replicate 16 0 ∧ bodyE rs = 0 ∧ 0 ≤ t ∧ t ≤ 1099511627776 := by
 unfold foundE at h
 by_cases h0 : f = List.replicate 16 0
 ·rw [if_pos h0] at h; exact absurd h (by decide)
 ·rw [if_neg h0] at h
  by_cases h1 : bodyE rs ≠ 0
  ·rw [if_pos h1] at h; exact absurd h h1
  ·rw [if_neg h1] at h
   by_cases h2 : t < 0 ∨ 1099511627776 < t
   ·rw [if_pos h2] at h; exact absurd h (by decide)
   ·exact ⟨h0, Classical.not_not.1 h1, by omega, by omega⟩
theorem same_at (h g mm mk mv L ms B0 h2 g2 mm2 mk2 mv2 ms2 B2 : Nat) (k : List Int) (hk : k.length = 32) (ok : Octs k) (t : Int) (f : List Int) (hf : f.length = 16) (of : Octs f) (rs : List ByteArray) (hE : foundE f rs t = 0) (w2 w3 w4 : World)
  (hN : HouseNew w2 B0 h g mm mk mv L ms (k.map (Value.int .u8))) (hF : Founded w2 B0 g mm mk mv L t f rs) (hb23 : Below w2.heap.size w2 w3) (hR : RFound w3 B2 h2 g2 mm2 mk2 mv2 ms2 (k.map (Value.int .u8)) t f rs) (hb34 : Below w3.heap.size w3 w4) (hp : PowTab w4) :
  Calls Tryz.prog 7 #[.pointer (some ⟨h, 0, none⟩), .pointer (some ⟨h2, 0, none⟩)] w4 fun e w' => e = .returned (.bool true) ∧ Below w4.heap.size w4 w' := by
 obtain ⟨h0, hbE, ht0, ht1⟩ := foundE_ok hE
 obtain ⟨ra, rc, s1, s2, _⟩ := hF.st
 obtain ⟨⟨rb, rd, r1, r2, _⟩, ⟨ea, ec, gb, c, e1, e2, ⟨_, e3⟩, _, e4⟩⟩ := hR
 have hb24 : Below w2.heap.size w2 w4 := hb23.trans (hb34.mono hb23.size)
 exact Same_ok h g mm mk mv L ms B0 h2 g2 mm2 mk2 mv2 ms2 ea ec gb _ c k hk ok t ht0 ht1 f hf of h0 rs hbE ra rb rc rd w4 (hN.hou.below hb24 hN.hou.lt)
  ⟨s1.blk.below hb24 s1.blk.lt, s1.mem.below hb24 s1.mem.lt, s1.keys.below hb24 s1.keys.lt, (hb24.block _ (Array.getElem?_eq_some_iff.1 s1.vot).1).trans s1.vot⟩
  (s2.below hb24) (hF.led.below hb24) (e1.below hb34 e1.lt) (r1.below hb34) (r2.below hb34) ((One.mk e3 e2 e4).below hb34) hp
theorem found_err (k : List Int) (hk : k.length = 32) (t : Int) (f : List Int) (hf : f.length = 16) (of : Octs f) (ao : Option Addr) (cap : Nat) (rs : List ByteArray) (w : World) (hr : RowS w ao rs) (hs : ∀ i, i < rs.length → (roleAt rs i).size ≤ maxLen) (hn : rs.length ≤ 9223372036854775807) (hE : foundE f rs t ≠ 0) :
  Calls Tryz.prog 3 #[.agg (k.map (Value.int .u8)).toArray, .agg (f.map (Value.int .u8)).toArray, .slice ao rs.length cap, .int .i64 t] w fun e w' => e = .returned (.bool true) ∧ Below w.heap.size w w' := by
 have hnw := fun (x : World) (hb : Below w.heap.size w x) => hid (show Calls Tryz.prog 4 #[.agg (k.map (Value.int .u8)).toArray, .agg (f.map (Value.int .u8)).toArray, .slice ao rs.length cap, .int .i64 t] x (fun e x' => e = .returned (.tuple #[.pointer none, .int .i64 (foundE f rs t)]) ∧ Below x.heap.size x x') from
  (New_any _ (by rw [List.length_map, hk]) t f hf of ao cap rs x (hr.below hb) hs hn).mono (by
   rintro e x' ⟨hb', ⟨_, rfl⟩ | ⟨h, _⟩⟩
   ·exact ⟨rfl, hb'⟩
   ·exact absurd h hE))
 have hrf := fun (x : World) (hb : Below w.heap.size w x) => hid (show Calls Tryz.prog 5 #[.agg (k.map (Value.int .u8)).toArray, .agg (f.map (Value.int .u8)).toArray, .slice ao rs.length cap, .int .i64 t] x (fun e x' => e = .returned (.tuple #[.pointer none, .int .i64 (foundE f rs t)]) ∧ Below x.heap.size x x') from
  (RefNew_any _ (by rw [List.length_map, hk]) t f hf of ao cap rs x (hr.below hb) hs hn).mono (by
   rintro e x' ⟨hb', ⟨_, rfl⟩ | ⟨h, _⟩⟩
   ·exact ⟨rfl, hb'⟩
   ·exact absurd h hE))
 obtain ⟨cd, HCD⟩ := hidE (foundE f rs t)
 rw [← HCD.out] at hnw hrf hE
 have hcd : ((cd : Int) == 0) = false := by simp [hE]
 have hcd' : decide (cd = 0) = false := by simp [hE]
 obtain ⟨RV, HRV⟩ := hidE (Value.slice ao rs.length cap)
 rw [← HRV.out] at hnw hrf ⊢
 have hRl : (k.map (Value.int .u8)).length = 32 := by rw [List.length_map, hk]
 obtain ⟨R, HR⟩ := hidE (k.map (Value.int .u8))
 rw [← HR.out] at hnw hrf hRl ⊢
 have hFl : (f.map (Value.int .u8)).length = 16 := by rw [List.length_map, hf]
 obtain ⟨F, HF⟩ := hidE (f.map (Value.int .u8))
 rw [← HF.out] at hnw hrf hFl ⊢
 obtain ⟨B, hsz⟩ := szE w
 rw [hsz] at hnw hrf ⊢
 clear hr hs hn hE of
 go_enter Tryz.func3, Tryz.ntmps3
 go_wp2_with (first
  | (go_at_call 6; refine (houses_ok w4).mono ?_; rintro e w5 ⟨rfl, hb5⟩; have bb5 : Below B w w5 := bb4.trans (hb5.mono (by have := bb4.size; omega)))
  | (go_at_call 5; refine (hrf w3 bb3).out.mono ?_; rintro e w4 ⟨rfl, hb4⟩; have bb4 : Below B w w4 := bb3.trans (hb4.mono (by have := bb3.size; omega)))
  | (refine wl_loadG (by kernel_rfl) 25 _ rfl ⟨B + 1, 0, none⟩ rfl 16 F hFl aggIDT hE3.at0 ?_)
  | (refine wl_loadG (by kernel_rfl) 23 _ rfl ⟨B, 0, none⟩ rfl 32 R hRl aggKey32 hR3.at0 ?_)
  | (go_at_call 4; refine (hnw w2 bb2).out.mono ?_; rintro e w3 ⟨rfl, hb3⟩; have hE3 := hE2.below hb3 hE2.lt; have hR3 := hR2.below hb3 hR2.lt; have bb3 : Below B w w3 := bb2.trans (hb3.mono (by have := bb2.size; omega)))
  | (refine wl_loadG (by kernel_rfl) 25 _ rfl ⟨B + 1, 0, none⟩ rfl 16 F hFl aggIDT hE2.at0 ?_)
  | (refine wl_loadG (by kernel_rfl) 23 _ rfl ⟨B, 0, none⟩ rfl 32 R hRl aggKey32 hR2.at0 ?_)
  | (refine wl_boxV rfl 25 _ rfl F rfl (B + 1) (by omega) ?_; intro w2 hE2 hb2 hs2; have hR2 := hR1.below hb2 (by omega); have bb2 : Below B w w2 := bb1.trans (hb2.mono (by omega)))
  | (refine wl_boxV rfl 23 _ rfl R rfl B hsz ?_; intro w1 hR1 bb1 hs1))
 go_ret
 exact ⟨rfl, bb5⟩
theorem found_ok (k : List Int) (hk : k.length = 32) (ok : Octs k) (t : Int) (f : List Int) (hf : f.length = 16) (of : Octs f) (ao : Option Addr) (cap : Nat) (rs : List ByteArray) (w : World) (hr : RowS w ao rs) (hs : ∀ i, i < rs.length → (roleAt rs i).size ≤ maxLen) (hn : rs.length ≤ 9223372036854775807) (hpow : PowTab w) (hE : foundE f rs t = 0) :
  Calls Tryz.prog 3 #[.agg (k.map (Value.int .u8)).toArray, .agg (f.map (Value.int .u8)).toArray, .slice ao rs.length cap, .int .i64 t] w fun e w' => e = .returned (.bool true) ∧ Below w.heap.size w w' := by
 have hnw := fun (x : World) (hb : Below w.heap.size w x) => hid (show Calls Tryz.prog 4 #[.agg (k.map (Value.int .u8)).toArray, .agg (f.map (Value.int .u8)).toArray, .slice ao rs.length cap, .int .i64 t] x (fun e x' => ∃ h, e = .returned (.tuple #[.pointer (some ⟨h, 0, none⟩), .int .i64 0]) ∧ Hid (∃ g mm mk mv L ms, HouseNew x' x.heap.size h g mm mk mv L ms (k.map (Value.int .u8)) ∧ Founded x' x.heap.size g mm mk mv L t f rs) ∧ Below x.heap.size x x') from
  (New_any _ (by rw [List.length_map, hk]) t f hf of ao cap rs x (hr.below hb) hs hn).mono (by
   rintro e x' ⟨hb', ⟨h, _⟩ | ⟨_, h, g, mm, mk, mv, L, ms, rfl, h1, h2⟩⟩
   ·exact absurd hE h
   ·exact ⟨h, rfl, hid ⟨g, mm, mk, mv, L, ms, h1, h2⟩, hb'⟩))
 have hrf := fun (x : World) (hb : Below w.heap.size w x) => hid (show Calls Tryz.prog 5 #[.agg (k.map (Value.int .u8)).toArray, .agg (f.map (Value.int .u8)).toArray, .slice ao rs.length cap, .int .i64 t] x (fun e x' => ∃ h, e = .returned (.tuple #[.pointer (some ⟨h, 0, none⟩), .int .i64 0]) ∧ Hid (∃ g mm mk mv ms, RFound x' x.heap.size h g mm mk mv ms (k.map (Value.int .u8)) t f rs) ∧ Below x.heap.size x x') from
  (RefNew_any _ (by rw [List.length_map, hk]) t f hf of ao cap rs x (hr.below hb) hs hn).mono (by
   rintro e x' ⟨hb', ⟨h, _⟩ | ⟨_, h, g, mm, mk, mv, ms, rfl, _, h1⟩⟩
   ·exact absurd hE h
   ·exact ⟨h, rfl, hid ⟨g, mm, mk, mv, ms, h1⟩, hb'⟩))
 have hsm : Hid (∀ (x2 x3 x4 : World) (B0 B2 h h2 : Nat), Hid (∃ g mm mk mv L ms, HouseNew x2 B0 h g mm mk mv L ms (k.map (Value.int .u8)) ∧ Founded x2 B0 g mm mk mv L t f rs) → Below x2.heap.size x2 x3 → Hid (∃ g mm mk mv ms, RFound x3 B2 h2 g mm mk mv ms (k.map (Value.int .u8)) t f rs) → Below x3.heap.size x3 x4 → Below w.heap.size w x4 → Calls Tryz.prog 7 #[.pointer (some ⟨h, 0, none⟩), .pointer (some ⟨h2, 0, none⟩)] x4 fun e x' => e = .returned (.bool true) ∧ Below x4.heap.size x4 x') := hid (by
  rintro x2 x3 x4 B0 B2 h h2 ⟨g, mm, mk, mv, L, ms, h1, h3⟩ hb23 ⟨g2, mm2, mk2, mv2, ms2, h4⟩ hb34 hb
  exact same_at h g mm mk mv L ms B0 h2 g2 mm2 mk2 mv2 ms2 B2 k hk ok t f hf of rs hE x2 x3 x4 h1 h3 hb23 h4 hb34 (hpow.on hb (Nat.le_refl _)))
 obtain ⟨P1, HP1⟩ : ∃ q : World → World → Nat → Prop, Hid (q = fun x x' h => Hid (∃ g mm mk mv L ms, HouseNew x' x.heap.size h g mm mk mv L ms (k.map (Value.int .u8)) ∧ Founded x' x.heap.size g mm mk mv L t f rs)) := ⟨_, hid rfl⟩
 obtain ⟨P2, HP2⟩ : ∃ q : World → World → Nat → Prop, Hid (q = fun x x' h => Hid (∃ g mm mk mv ms, RFound x' x.heap.size h g mm mk mv ms (k.map (Value.int .u8)) t f rs)) := ⟨_, hid rfl⟩
 have hnw2 := fun (x : World) (hb : Below w.heap.size w x) => hid (show Calls Tryz.prog 4 #[.agg (k.map (Value.int .u8)).toArray, .agg (f.map (Value.int .u8)).toArray, .slice ao rs.length cap, .int .i64 t] x (fun e x' => ∃ h, e = .returned (.tuple #[.pointer (some ⟨h, 0, none⟩), .int .i64 0]) ∧ P1 x x' h ∧ Below x.heap.size x x') from by rw [HP1.out]; exact (hnw x hb).out)
 have hrf2 := fun (x : World) (hb : Below w.heap.size w x) => hid (show Calls Tryz.prog 5 #[.agg (k.map (Value.int .u8)).toArray, .agg (f.map (Value.int .u8)).toArray, .slice ao rs.length cap, .int .i64 t] x (fun e x' => ∃ h, e = .returned (.tuple #[.pointer (some ⟨h, 0, none⟩), .int .i64 0]) ∧ P2 x x' h ∧ Below x.heap.size x x') from by rw [HP2.out]; exact (hrf x hb).out)
 have hsm2 := fun (x1 x2 y x3 x4 : World) (h h2 : Nat) (h1 : P1 x1 x2 h) (hb23 : Below x2.heap.size x2 x3) (h3 : P2 y x3 h2) (hb34 : Below x3.heap.size x3 x4) (hb : Below w.heap.size w x4) => hid (hsm.out x2 x3 x4 _ _ h h2 (by rw [HP1.out] at h1; exact h1) hb23 (by rw [HP2.out] at h3; exact h3) hb34 hb)
 clear hnw hrf hsm HP1 HP2
 obtain ⟨RV, HRV⟩ := hidE (Value.slice ao rs.length cap)
 rw [← HRV.out] at hnw2 hrf2 ⊢
 have hRl : (k.map (Value.int .u8)).length = 32 := by rw [List.length_map, hk]
 obtain ⟨R, HR⟩ := hidE (k.map (Value.int .u8))
 rw [← HR.out] at hnw2 hrf2 hRl ⊢
 have hFl : (f.map (Value.int .u8)).length = 16 := by rw [List.length_map, hf]
 obtain ⟨F, HF⟩ := hidE (f.map (Value.int .u8))
 rw [← HF.out] at hnw2 hrf2 hFl ⊢
 obtain ⟨B, hsz⟩ := szE w
 rw [hsz] at hnw2 hrf2 hsm2 ⊢
 clear hr hs hn hE of hpow
 go_enter Tryz.func3, Tryz.ntmps3
 go_wp2_with (first
  | (go_at_call 7; refine (hsm2 w2 w3 w3 w4 w5 h h2 hP3 hb4 hP4 hb5 bb5).out.mono ?_; rintro e w6 ⟨rfl, hb6⟩; have bb6 : Below B w w6 := bb5.trans (hb6.mono (by have := bb5.size; omega)))
  | (go_at_call 6; refine (houses_ok w4).mono ?_; rintro e w5 ⟨rfl, hb5⟩; have bb5 : Below B w w5 := bb4.trans (hb5.mono (by have := bb4.size; omega)))
  | (go_at_call 5; refine (hrf2 w3 bb3).out.mono ?_; rintro e w4 ⟨h2, rfl, hP4, hb4⟩; have bb4 : Below B w w4 := bb3.trans (hb4.mono (by have := bb3.size; omega)))
  | (refine wl_loadG (by kernel_rfl) 25 _ rfl ⟨B + 1, 0, none⟩ rfl 16 F hFl aggIDT hE3.at0 ?_)
  | (refine wl_loadG (by kernel_rfl) 23 _ rfl ⟨B, 0, none⟩ rfl 32 R hRl aggKey32 hR3.at0 ?_)
  | (go_at_call 4; refine (hnw2 w2 bb2).out.mono ?_; rintro e w3 ⟨h, rfl, hP3, hb3⟩; have hE3 := hE2.below hb3 hE2.lt; have hR3 := hR2.below hb3 hR2.lt; have bb3 : Below B w w3 := bb2.trans (hb3.mono (by have := bb2.size; omega)))
  | (refine wl_loadG (by kernel_rfl) 25 _ rfl ⟨B + 1, 0, none⟩ rfl 16 F hFl aggIDT hE2.at0 ?_)
  | (refine wl_loadG (by kernel_rfl) 23 _ rfl ⟨B, 0, none⟩ rfl 32 R hRl aggKey32 hR2.at0 ?_)
  | (refine wl_boxV rfl 25 _ rfl F rfl (B + 1) (by omega) ?_; intro w2 hE2 hb2 hs2; have hR2 := hR1.below hb2 (by omega); have bb2 : Below B w w2 := bb1.trans (hb2.mono (by omega)))
  | (refine wl_boxV rfl 23 _ rfl R rfl B hsz ?_; intro w1 hR1 bb1 hs1))
 go_ret
 exact ⟨rfl, bb6⟩
theorem found_law (k : List Int) (hk : k.length = 32) (ok : Octs k) (t : Int) (f : List Int) (hf : f.length = 16) (of : Octs f) (ao : Option Addr) (cap : Nat) (rs : List ByteArray) (w : World) (hr : RowS w ao rs) (hs : ∀ i, i < rs.length → (roleAt rs i).size ≤ maxLen) (hn : rs.length ≤ 9223372036854775807) (hpow : PowTab w) :
  Calls Tryz.prog 3 #[.agg (k.map (Value.int .u8)).toArray, .agg (f.map (Value.int .u8)).toArray, .slice ao rs.length cap, .int .i64 t] w fun e w' => e = .returned (.bool true) ∧ Below w.heap.size w w' := by
 by_cases hE : foundE f rs t = 0
 ·exact found_ok k hk ok t f hf of ao cap rs w hr hs hn hpow hE
 ·exact found_err k hk t f hf of ao cap rs w hr hs hn hE
end Go.Proofs.YtdhipjoplkpgmaaGreatDoor.hf
namespace Go.Proofs.YtdhipjoplkpgmaaGreatDoor.hf
open Go.ChangeShapes Go.WideShapes Go.ChangeAt Go.RowKit
open st hs shr
theorem strsArg {H : Type} {enc : TypeId × Value → H} {W : World} {base : Nat} {held : Bool} {r : Reach} {b0 : Nat} {v : Value} {d : DataW H} {q : List MemPlace}
  (hval : Value.okWide Tryz.prog W r b0 26 v) (hd : DataW.Trod enc Tryz.prog W base (fun _ => true) held 26 v d q) :
  ∃ (rs : List ByteArray) (ao : Option Addr) (cap : Nat), v = .slice ao rs.length cap ∧ RowS W ao rs ∧ (∀ i, i < rs.length → (roleAt rs i).size ≤ maxLen) ∧ rs.length ≤ 9223372036854775807 := by
 obtain ⟨a, len, cap, rfl⟩ := okWide_slice Tryz.underlying26 hval
 obtain ⟨fuel, hf⟩ := hd
 rcases open_strings Tryz.underlying26 Tryz.underlying9 (by kernel_rfl) hf with ⟨h1, _⟩ | ⟨ad, ln, cp, ss, h1, _, h4, h5, h6, _, h8, h9⟩
 ·simp [Value.cells] at h1
  obtain ⟨rfl, rfl, rfl⟩ := h1
  exact ⟨[], none, 0, rfl, Or.inl rfl, (fun i hi => absurd hi (Nat.not_lt_zero _)), by decide⟩
 ·simp [Value.cells] at h1
  obtain ⟨rfl, rfl, rfl⟩ := h1
  simp only [if_true] at h6
  have hlen : (ss.take len).length = len := by rw [List.length_take]; omega
  have hmax : maxLen = 9223372036854775807 := by decide
  have hro : ∀ i, i < len → ∃ s, ss[i]? = some s ∧ roleAt (ss.take len) i = s ∧ ss.getD i ByteArray.empty = s := fun i hi => by
   have hi2 : i < ss.length := by omega
   refine ⟨ss[i], List.getElem?_eq_getElem hi2, ?_, ?_⟩
   ·unfold roleAt
    rw [List.getD_eq_getElem?_getD, List.getElem?_take, if_pos hi, List.getElem?_eq_getElem hi2]; rfl
   ·rw [List.getD_eq_getElem?_getD, List.getElem?_eq_getElem hi2]; rfl
  refine ⟨ss.take len, some ad, cap, by rw [hlen], ?_, fun i hi => ?_, by rw [hlen]; omega⟩
  ·by_cases hl : len = 0
   ·exact Or.inl (by subst hl; rfl)
   ·obtain ⟨b, off, spot⟩ := ad
    have c1 := h8 0 (by omega)
    have hspot : spot = none := by simpa [Addr.add] using World.cell?_spot c1
    subst hspot
    refine Or.inr ⟨b, off, rfl, ?_, fun i hi => ?_⟩
    ·exact opn.lt_of_cell' (by simpa [Addr.add] using c1)
    ·rw [hlen] at hi
     obtain ⟨s, _, h2, h3⟩ := hro i hi
     have h := h8 i (by omega)
     rw [addr_add, h3] at h
     rw [h2]; exact h
  ·rw [hlen] at hi
   obtain ⟨s, h1, h2, _⟩ := hro i hi
   rw [h2]; exact h9 s (List.mem_of_getElem? h1)
end Go.Proofs.YtdhipjoplkpgmaaGreatDoor.hf
