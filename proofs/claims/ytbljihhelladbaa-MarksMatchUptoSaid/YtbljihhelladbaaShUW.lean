/-
  Contract of keyref2.polynomials; shares with given values. Conditions: a secret and a seed of octets, a need from 1 to 32.
-/
import Derived.Test.YtbljihhelladbaaMem
import Derived.Test.YtbljihhelladbaaShT
import Derived.Maps.RangeWalk
import Derived.Test.YtbljihhelladbaaShR
/- A one-cell store into a variable, the world behind it a letter. Conditions: the cell is there. -/
namespace Go.Proofs.Ytbljihhelladbaa
open Go.RowKit
set_option linter.unusedSimpArgs false
set_option linter.unusedVariables false
set_option pp.maxSteps 6000

/-- one cell stored: the world behind it a letter -/
theorem wl_setV {P : Program} {w : World} {ops : Array Oper} {rest : List Oper} {o : Oper} {a : Act} {Q : Exit → Act → World → Prop} (hgd : o.guard = none) (ty : TypeId) (x y : Operand) (ho : o.op = .store ty x y)
    (t : TypeId) (g i : Nat) (hx : a.eval x = .pointer (some ⟨g, i, none⟩)) (v : Value) (hy : a.eval y = v) (hv : v.cells = #[v]) (h1 : v.oneCell' = true) (hi1 : (P.info? ty).map (·.size) = some 1) (cur : List Value) (hg : BlkV t w g cur) (hi : i < cur.length)
    (h : ∀ w', BlkV t w' g (cur.set i v) → w.grownBy w' (some g) → w'.heap.size = w.heap.size → wpList P ops Q rest (a.put o.dst undef) w') : wpList P ops Q (o :: rest) a w := by
  obtain ⟨f, hf, hs⟩ := Option.map_eq_some_iff.1 hi1
  have hrun : (storeVar ty ⟨g, i, none⟩ v).run P w = .ok () (w.setRow g (cur.set i v).toArray) := by
    have h := run_storeCells_at (P := P) g i t [v] 0 cur.toArray w hg (by simp; omega) (by intro u hu; rw [List.mem_singleton.1 hu]; exact h1)
    simp only [Nat.add_zero] at h
    have e : cur.take i ++ [v] ++ cur.drop (i + 1) = cur.set i v := by
      rw [List.set_eq_take_append_cons_drop, if_pos hi]; simp
    have h' : (storeCells ⟨g, i, none⟩ [v]).run P w = .ok () (w.setRow g (cur.set i v).toArray) := by
      rw [← e]; simpa using h
    simp [storeVar, hv, sizeOf, typeInfo, hf, hs, h']
  refine wpList_plain hgd fun K hK' => ?_
  unfold Oper.wp
  simp [execOp, ho, hx, hy, Instr.storeAt, Instr.sureAddr, hrun, Result.andThen]
  exact hK' _ _ (h _ (hg.setRow _) ⟨rfl, rfl, rfl, by simp, fun k _ hk => setRow_other w g k _ (fun e => hk (by rw [e]))⟩ (by simp))
end Go.Proofs.Ytbljihhelladbaa

/- Contract of keyref2.polynomials: the polynomials of a seed. Conditions: a secret and a seed of octets, a need from 1 to 32. -/
namespace Go.Proofs.Ytbljihhelladbaa.shr
open Go.RowKit Go.Proofs.Ytbljihhelladbaa.sh Go.Proofs.Ytbljihhelladbaa.Fld
set_option linter.unusedSimpArgs false
set_option linter.unusedVariables false
set_option pp.maxSteps 6000

/-- polynomials, as a value -/
structure PolysG (w : World) (f : Nat → List Int) (ps : List Value) : Prop where
  len : ps.length = 32
  one : ∀ u ∈ ps, u.oneCell' = true
  at_ : ∀ o, o < 32 → ∃ ao cap, ps[o]? = some (.slice ao (f o).length cap) ∧ RowI .i64 w ao (f o)
theorem PolysG.below {w w' : World} {f : Nat → List Int} {ps : List Value} (h : PolysG w f ps) (hb : Below w.heap.size w w') : PolysG w' f ps :=
  ⟨h.len, h.one, fun o ho => by obtain ⟨ao, cap, h1, h2⟩ := h.at_ o ho; exact ⟨ao, cap, h1, h2.below hb⟩⟩
structure PolyOwn (B : Nat) (w : World) (f : Nat → List Int) (ps : List Value) (k : Nat) : Prop where
  len : ps.length = 32
  one : ∀ u ∈ ps, u.oneCell' = true
  at_ : ∀ o, o < k → ∃ ao cap, ps[o]? = some (.slice ao (f o).length cap) ∧ w.ownsRow B 3 1 (.slice ao (f o).length cap) (f o).length ((f o).map (Value.int .i64))

theorem grown_setCell (w : World) (a : Addr) (v : Value) : w.grownBy (w.setCell a v) (some a.block) :=
  ⟨rfl, rfl, rfl, by simp, fun i _ hi => heap_setCell_other w a i v (fun e => hi (by rw [e]))⟩
theorem below_set {w w1 w2 : World} {N g : Nat} (h : Below N w w1) (hg : w1.grownBy w2 (some g)) (hN : N ≤ w1.heap.size) (hge : N ≤ g) : Below N w w2 := h.grown hg hN fun k hk => by cases hk; exact hge
theorem grown_setRow (w : World) (g : Nat) (cs : Array Value) : w.grownBy (w.setRow g cs) (some g) :=
  ⟨rfl, rfl, rfl, by simp, fun i _ hi => setRow_other w g i cs (fun e => hi (by rw [e]))⟩
/-- an own row above B, behind a change of a block below B -/
theorem owns_set {w w' : World} {B g : Nat} {e : TypeId} {size n : Nat} {v : Value} {xs : List Value} (h : w.ownsRow B e size v n xs) (hg : w.grownBy w' (some g)) (hB : g < B) : w'.ownsRow B e size v n xs :=
  h.kept hg (by
    by_cases hv : v.ownBlock = some g
    · have := (h.lt g hv).1; omega
    · exact Or.inr hv)
theorem sizeU8 : (Try.prog.info? 5).map (·.size) = some 1 := by kernel_rfl

/-- the polynomials of Zero, of Split -/
def polyZ (m : Nat) (seed : List Int) (o : Nat) : List Int := seedPoly 0 m seed 1 o
def polyS (secret : List Int) (m : Nat) (seed : List Int) (o : Nat) : List Int := seedPoly (secret.getD o 0) m seed 0 o

set_option maxRecDepth 100000 in
set_option maxHeartbeats 1000000 in
theorem polysZ (secret seed : List Int) (m : Nat) (w : World) (hc : secret.length = 32) (hco : st.Octs secret) (hs : seed.length = 32) (hso : st.Octs seed) (hm1 : 1 ≤ m) (hm : m ≤ 32) :
    Calls Try.prog 118 #[.agg (secret.map (Value.int .u8)).toArray, .int .i64 m, .agg (seed.map (Value.int .u8)).toArray, .bool true] w fun e w' => ∃ ps, e = .returned (.agg ps.toArray) ∧ PolysG w' (polyZ m seed) ps ∧ Below w.heap.size w w' := by
  obtain ⟨SV, HSV⟩ : ∃ K, Hid (K = secret.map (Value.int .u8)) := ⟨_, rfl⟩
  have HSL : Hid (SV.length = 32) := by show _ = _; rw [HSV.out, List.length_map]; exact hc
  rw [← HSV.out]
  obtain ⟨KV, HKV⟩ : ∃ K, Hid (K = seed.map (Value.int .u8)) := ⟨_, rfl⟩
  have HKL : Hid (KV.length = 32) := by show _ = _; rw [HKV.out, List.length_map]; exact hs
  rw [← HKV.out]
  obtain ⟨Z, HZ⟩ : ∃ Z, Hid (Z = noSlices) := ⟨_, rfl⟩
  have HZ0 := hid zeroP
  rw [← HZ.out] at HZ0
  have HZL : Hid (Z.length = 32) := by rw [HZ.out]; rfl
  have hw3 : IntKind.i64.wrap ((m : Int) - 1) = ((m - 1 : Nat) : Int) := by rw [IntWalk.i64_in _ (by omega)]; omega
  have hnat : (m : Int) - 1 = ((m - 1 : Nat) : Int) := by omega
  have HNR := hid (fun (o : Nat) (ho : o ≤ 255) (w : World) => st.numbersR_o seed (nonceOf 1 o) (m - 1) w hs (nonceOf_length _ _) hso (nonceOf_octs ⟨by decide, by decide⟩ ⟨by omega, by omega⟩) (by omega))
  rw [← HKV.out] at HNR
  go_enter Try.func118, Try.ntmps118
  go_wp2_with (first | (refine wl_alloc rfl 139 rfl Z HZ0.out ?_))
  go_loopw [13] (fun i wr => ∃ (k : Nat) (ps : List Value), k ≤ 32 ∧ i = .int .i64 k ∧ BlkV 23 wr w.heap.size SV ∧ BlkV 23 wr (w.heap.size + 1) KV ∧ BlkV 139 wr (w.heap.size + 2) Z ∧ BlkV 139 wr (w.heap.size + 3) ps ∧ PolyOwn (w.heap.size + 4) wr (polyZ m seed) ps k ∧ Below w.heap.size w wr) (fun i _ => 32 - (intOf i).toNat)
  case atStart => exact ⟨0, Z, by omega, rfl, (((BlkV.new _ w SV rfl).alloc _).alloc _).alloc _, ((BlkV.new _ _ KV (by simp)).alloc _).alloc _, (BlkV.new _ _ Z (by simp)).alloc _, BlkV.new _ _ Z (by simp), ⟨HZL.out, by rw [HZ.out]; intro u hu; rw [List.eq_of_mem_replicate hu]; rfl, fun o ho => absurd ho (Nat.not_lt_zero o)⟩, ((((Below.refl _ _).alloc (Nat.le_refl _) _).alloc (by simp) _).alloc (by simp; omega) _).alloc (by simp; omega) _⟩
  case round =>
    obtain ⟨k, ps, hk, rfl, hS, hK, hR, hC, hP, hbl⟩ := hrel
    by_cases h0 : k < 32
    · have hkI : (k : Int) < 32 := by omega
      have hkI0 : (0 : Int) ≤ (k : Int) := by omega
      have hwk : IntKind.u8.wrap (k : Int) = k := IntWalk.u8_in _ (by omega)
      have hltC := hC.lt
      obtain ⟨c, HCC⟩ : ∃ c, Hid (c = secret.getD k 0) := ⟨_, rfl⟩
      have hcb : 0 ≤ c ∧ c ≤ 255 := by rw [HCC.out]; exact hco.getD k
      have hcell := hS.cell k
      have hcw : IntKind.i64.wrap c = c := IntWalk.i64_in _ (by omega)
      rw [HSV.out, List.getElem?_map, List.getElem?_eq_getElem (by omega), show secret[k]'(by omega) = c by rw [HCC.out, getD_lt' secret 0 (by omega)]] at hcell
      have Hcell := hid (show wr.cell? ⟨w.heap.size, k, none⟩ = some (.int .u8 c) from hcell)
      clear hcell
      obtain ⟨N, HN⟩ : ∃ N, Hid (wr.heap.size = N) := ⟨_, rfl⟩
      have hNw : w.heap.size < N := by rw [← HN.out]; exact hS.lt
      have hN3 : w.heap.size + 3 < N := by rw [← HN.out]; exact hC.lt
      obtain ⟨L, HLL⟩ : ∃ L, Hid (L = st.numsOf (m - 1) seed (nonceOf 1 k)) := ⟨_, rfl⟩
      have hfk : Hid (polyZ m seed k = 0 :: L) := by show _ = _; rw [HLL.out]; rfl
      have hLb : L.length ≤ m - 1 := by rw [HLL.out]; exact st.blkTo_le _ _ _ _
      have HNRk := hid (HNR.out k (by omega))
      rw [← HLL.out] at HNRk
      obtain ⟨NL, HNL⟩ : ∃ N, Hid (N = 1 + L.length) := ⟨_, rfl⟩
      have hfl : Hid ((polyZ m seed k).length = NL) := by show _ = _; rw [hfk.out, HNL.out, List.length_cons]; omega
      have HKr := hid hK
      have HCr := hid hC
      have HRr := hid hR
      have HSr := hid hS
      clear hK hC hR hS
      obtain ⟨NV, HNV⟩ : ∃ V, Hid (V = (nonceOf 1 k).map (Value.int .u8)) := ⟨_, rfl⟩
      rw [← HNV.out] at HNRk
      have HNVL : Hid (NV.length = 16) := by show _ = _; rw [HNV.out, List.length_map, nonceOf_length]
      have HNW : Hid (((zero16.set 15 (.int .u8 k)).set 14 (.int .u8 1)) = NV) := by show _ = _; rw [HNV.out]; rfl
      go_wp2_with (first | (refine wl_allocV rfl 25 rfl zero16 zeroNo N HN.out ?_; intro wA hA hbA hsA) | (refine wl_setV rfl 5 _ _ rfl 25 N 15 rfl (.int .u8 k) rfl rfl rfl sizeU8 zero16 hA (by decide) ?_; intro wB hB hgB hsB; have hbB : Below N wr wB := below_set hbA hgB (by omega) (Nat.le_refl _); have hcB : wB.cell? ⟨w.heap.size, k, none⟩ = some (.int .u8 c) := (hbB.cell (p := ⟨w.heap.size, k, none⟩) hNw).trans Hcell.out; clear hA hbA hgB) | (refine wl_setV rfl 5 _ _ rfl 25 N 14 rfl (.int .u8 1) rfl rfl rfl sizeU8 _ hB (by rw [List.length_set]; decide) ?_; intro wC hC hgC hsC; have hbC : Below N wr wC := below_set hbB hgC (by omega) (Nat.le_refl _); clear hgC hB hbB hcB; rw [HNW.out] at hC; have haN := hid ((hC.alloc (.cells #[.int .i64 (0)] 3)).at0); have haK := hid (((HKr.out.below hbC (by omega)).alloc (.cells #[.int .i64 (0)] 3)).at0); have hsz : Hid (wC.heap.size = N + 1) := (by show _ = _; omega); have hF2 : BlkV 3 (wC.alloc (.cells #[.int .i64 (0)] 3)) (N + 1) [.int .i64 (0)] := BlkV.new _ _ [.int .i64 (0)] (by rw [hsz.out]); have hb2 : Below N wr (wC.alloc (.cells #[.int .i64 (0)] 3)) := hbC.alloc (by rw [hsz.out]; omega) _; clear hC hbC) | (refine wl_load rfl 23 _ rfl ⟨w.heap.size + 1, 0, none⟩ rfl KV (by rw [HKL.out]; exact aggKey) haK.out ?_; clear haK) | (refine wl_load rfl 25 _ rfl ⟨N, 0, none⟩ rfl NV (by rw [HNVL.out]; exact aggNo) haN.out ?_; clear haN))
      refine (HNRk.out _).mono ?_
      rintro e w3 ⟨ax, cx, rfl, hrow, hb3, hno⟩
      have hF3 := hF2.below hb3 hF2.lt
      have hsz2 : (wC.alloc (.cells #[.int .i64 (0)] 3)).heap.size = N + 2 := by simp; rw [hsz.out]
      have hb23 : Below N wr w3 := hb2.trans (hb3.mono (by omega))
      have h3s := hb3.size
      clear hF2 hb2 hb3
      rw [hsz2] at h3s
      clear hsz2
      go_wp2_with (first | (at_builtin; refine wl_appendS rfl _ _ 26 rfl 3 (.int .i64 0) 1 8 Try.underlying26 infoI rfl (by decide) (w.heap.size + 4) (.slice (some ⟨N + 1, 0, none⟩) 1 1) 1 [.int .i64 (0)] rfl (Or.inl (ownsRow_blk hF3 (by omega) rfl)) ax L.length cx rfl hno (L.map (Value.int .i64)) (by rw [List.length_map]; omega) hrow.v (ints_one _ _) (by unfold maxLen; omega) (by omega) (by omega) NL HNL.out ?_; intro ao' cap' w4 row hcap hM hV hg hrw; have hb4 : Below N wr w4 := hb23.grown hg (by rw [← HN.out]; exact hb23.size) (fun k hk => by have h := (hrw k hk).2; have h' : some (N + 1) = some k := h; cases h'; omega); have hC4 := HCr.out.below hb4 (by omega); clear hF3 hrow hno hb23) | (refine wl_setV rfl 26 _ _ rfl 139 (w.heap.size + 3) k rfl (.slice ao' NL cap') rfl rfl rfl sizeSl ps hC4 (by rw [hP.len]; exact h0) ?_; intro w5 hC5 hg5 hs5; clear hC4))
      go_roundw
      case rel =>
        have hM' : w4.ownsRow (w.heap.size + 4) 3 1 (.slice ao' NL cap') NL ((0 :: L).map (Value.int .i64)) := by
          rcases hM with h | ⟨h, _⟩
          · exact h
          · have := HNL.out; omega
        have hbl4 := hbl.trans (hb4.mono (by omega))
        refine ⟨k + 1, ps.set k (.slice ao' NL cap'), by omega, by go_num, (HSr.out.below hb4 hNw).grown hg5 (by simp), (HKr.out.below hb4 (by omega)).grown hg5 (by simp), (HRr.out.below hb4 (by omega)).grown hg5 (by simp), hC5, ⟨by rw [List.length_set]; exact hP.len, ?_, ?_⟩, below_set hbl4 hg5 hbl4.size (by omega)⟩
        · intro u hu
          rcases List.mem_or_eq_of_mem_set hu with h | rfl
          · exact hP.one u h
          · rfl
        · intro o ho
          by_cases e : o = k
          · subst e
            refine ⟨ao', cap', ?_, ?_⟩
            · rw [List.getElem?_set_self (by rw [hP.len]; exact h0), hfl.out]
            · rw [hfl.out, hfk.out]
              exact owns_set hM' hg5 (by omega)
          · obtain ⟨ao, cap, h2, h3⟩ := hP.at_ o (by omega)
            exact ⟨ao, cap, by rw [List.getElem?_set_ne (fun h => e h.symm)]; exact h2, owns_set (ownsRow_below h3 N HN.out hb4) hg5 (by omega)⟩
      case measure => simp [intOf] <;> omega
    · obtain rfl : k = 32 := by omega
      have hPL := hid hP.len
      have ha := hC.at0
      go_wp2_with (first | (refine wl_loadG (by kernel_rfl) 139 _ rfl ⟨w.heap.size + 3, 0, none⟩ rfl 32 ps hPL.out aggP ha ?_) | (refine wl_storeAll rfl 139 _ _ rfl 139 (w.heap.size + 2) rfl ps rfl 32 aggP hPL.out Z hR HZL.out hP.one ?_; intro hS'))
      (try simp only [Exit.inBlock, Exit.then]); refine bodyPost_ret (results_cell rfl _ _ _ _ rfl ps (by rw [hPL.out]; exact aggP) hS'.at0) rfl ?_
      refine ⟨ps, rfl, ⟨hPL.out, hP.one, fun o ho => ?_⟩, below_setRow' hbl (by omega) _⟩
      obtain ⟨ao, cap, h3, h4⟩ := hP.at_ o ho
      exact ⟨ao, cap, h3, row_of_owns (owns_set h4 (grown_setRow wr (w.heap.size + 2) ps.toArray) (by omega))⟩

set_option maxRecDepth 100000 in
set_option maxHeartbeats 1000000 in
theorem polysS (secret seed : List Int) (m : Nat) (w : World) (hc : secret.length = 32) (hco : st.Octs secret) (hs : seed.length = 32) (hso : st.Octs seed) (hm1 : 1 ≤ m) (hm : m ≤ 32) :
    Calls Try.prog 118 #[.agg (secret.map (Value.int .u8)).toArray, .int .i64 m, .agg (seed.map (Value.int .u8)).toArray, .bool false] w fun e w' => ∃ ps, e = .returned (.agg ps.toArray) ∧ PolysG w' (polyS secret m seed) ps ∧ Below w.heap.size w w' := by
  obtain ⟨SV, HSV⟩ : ∃ K, Hid (K = secret.map (Value.int .u8)) := ⟨_, rfl⟩
  have HSL : Hid (SV.length = 32) := by show _ = _; rw [HSV.out, List.length_map]; exact hc
  rw [← HSV.out]
  obtain ⟨KV, HKV⟩ : ∃ K, Hid (K = seed.map (Value.int .u8)) := ⟨_, rfl⟩
  have HKL : Hid (KV.length = 32) := by show _ = _; rw [HKV.out, List.length_map]; exact hs
  rw [← HKV.out]
  obtain ⟨Z, HZ⟩ : ∃ Z, Hid (Z = noSlices) := ⟨_, rfl⟩
  have HZ0 := hid zeroP
  rw [← HZ.out] at HZ0
  have HZL : Hid (Z.length = 32) := by rw [HZ.out]; rfl
  have hw3 : IntKind.i64.wrap ((m : Int) - 1) = ((m - 1 : Nat) : Int) := by rw [IntWalk.i64_in _ (by omega)]; omega
  have hnat : (m : Int) - 1 = ((m - 1 : Nat) : Int) := by omega
  have HNR := hid (fun (o : Nat) (ho : o ≤ 255) (w : World) => st.numbersR_o seed (nonceOf 0 o) (m - 1) w hs (nonceOf_length _ _) hso (nonceOf_octs ⟨by decide, by decide⟩ ⟨by omega, by omega⟩) (by omega))
  rw [← HKV.out] at HNR
  go_enter Try.func118, Try.ntmps118
  go_wp2_with (first | (refine wl_alloc rfl 139 rfl Z HZ0.out ?_))
  go_loopw [13] (fun i wr => ∃ (k : Nat) (ps : List Value), k ≤ 32 ∧ i = .int .i64 k ∧ BlkV 23 wr w.heap.size SV ∧ BlkV 23 wr (w.heap.size + 1) KV ∧ BlkV 139 wr (w.heap.size + 2) Z ∧ BlkV 139 wr (w.heap.size + 3) ps ∧ PolyOwn (w.heap.size + 4) wr (polyS secret m seed) ps k ∧ Below w.heap.size w wr) (fun i _ => 32 - (intOf i).toNat)
  case atStart => exact ⟨0, Z, by omega, rfl, (((BlkV.new _ w SV rfl).alloc _).alloc _).alloc _, ((BlkV.new _ _ KV (by simp)).alloc _).alloc _, (BlkV.new _ _ Z (by simp)).alloc _, BlkV.new _ _ Z (by simp), ⟨HZL.out, by rw [HZ.out]; intro u hu; rw [List.eq_of_mem_replicate hu]; rfl, fun o ho => absurd ho (Nat.not_lt_zero o)⟩, ((((Below.refl _ _).alloc (Nat.le_refl _) _).alloc (by simp) _).alloc (by simp; omega) _).alloc (by simp; omega) _⟩
  case round =>
    obtain ⟨k, ps, hk, rfl, hS, hK, hR, hC, hP, hbl⟩ := hrel
    by_cases h0 : k < 32
    · have hkI : (k : Int) < 32 := by omega
      have hkI0 : (0 : Int) ≤ (k : Int) := by omega
      have hwk : IntKind.u8.wrap (k : Int) = k := IntWalk.u8_in _ (by omega)
      have hltC := hC.lt
      obtain ⟨c, HCC⟩ : ∃ c, Hid (c = secret.getD k 0) := ⟨_, rfl⟩
      have hcb : 0 ≤ c ∧ c ≤ 255 := by rw [HCC.out]; exact hco.getD k
      have hcell := hS.cell k
      have hcw : IntKind.i64.wrap c = c := IntWalk.i64_in _ (by omega)
      rw [HSV.out, List.getElem?_map, List.getElem?_eq_getElem (by omega), show secret[k]'(by omega) = c by rw [HCC.out, getD_lt' secret 0 (by omega)]] at hcell
      have Hcell := hid (show wr.cell? ⟨w.heap.size, k, none⟩ = some (.int .u8 c) from hcell)
      clear hcell
      obtain ⟨N, HN⟩ : ∃ N, Hid (wr.heap.size = N) := ⟨_, rfl⟩
      have hNw : w.heap.size < N := by rw [← HN.out]; exact hS.lt
      have hN3 : w.heap.size + 3 < N := by rw [← HN.out]; exact hC.lt
      obtain ⟨L, HLL⟩ : ∃ L, Hid (L = st.numsOf (m - 1) seed (nonceOf 0 k)) := ⟨_, rfl⟩
      have hfk : Hid (polyS secret m seed k = c :: L) := by show _ = _; rw [HLL.out, HCC.out]; rfl
      have hLb : L.length ≤ m - 1 := by rw [HLL.out]; exact st.blkTo_le _ _ _ _
      have HNRk := hid (HNR.out k (by omega))
      rw [← HLL.out] at HNRk
      obtain ⟨NL, HNL⟩ : ∃ N, Hid (N = 1 + L.length) := ⟨_, rfl⟩
      have hfl : Hid ((polyS secret m seed k).length = NL) := by show _ = _; rw [hfk.out, HNL.out, List.length_cons]; omega
      have HKr := hid hK
      have HCr := hid hC
      have HRr := hid hR
      have HSr := hid hS
      clear hK hC hR hS
      obtain ⟨NV, HNV⟩ : ∃ V, Hid (V = (nonceOf 0 k).map (Value.int .u8)) := ⟨_, rfl⟩
      rw [← HNV.out] at HNRk
      have HNVL : Hid (NV.length = 16) := by show _ = _; rw [HNV.out, List.length_map, nonceOf_length]
      have HNW : Hid ((zero16.set 15 (.int .u8 k)) = NV) := by show _ = _; rw [HNV.out]; rfl
      go_wp2_with (first | (refine wl_allocV rfl 25 rfl zero16 zeroNo N HN.out ?_; intro wA hA hbA hsA) | (refine wl_setV rfl 5 _ _ rfl 25 N 15 rfl (.int .u8 k) rfl rfl rfl sizeU8 zero16 hA (by decide) ?_; intro wB hB hgB hsB; have hbB : Below N wr wB := below_set hbA hgB (by omega) (Nat.le_refl _); have hcB : wB.cell? ⟨w.heap.size, k, none⟩ = some (.int .u8 c) := (hbB.cell (p := ⟨w.heap.size, k, none⟩) hNw).trans Hcell.out; clear hA hbA hgB; rw [HNW.out] at hB; have haN := hid ((hB.alloc (.cells #[.int .i64 (c)] 3)).at0); have haK := hid (((HKr.out.below hbB (by omega)).alloc (.cells #[.int .i64 (c)] 3)).at0); have hsz : Hid (wB.heap.size = N + 1) := (by show _ = _; omega); have hF2 : BlkV 3 (wB.alloc (.cells #[.int .i64 (c)] 3)) (N + 1) [.int .i64 (c)] := BlkV.new _ _ [.int .i64 (c)] (by rw [hsz.out]); have hb2 : Below N wr (wB.alloc (.cells #[.int .i64 (c)] 3)) := hbB.alloc (by rw [hsz.out]; omega) _; clear hB hbB) | (refine wl_load rfl 23 _ rfl ⟨w.heap.size + 1, 0, none⟩ rfl KV (by rw [HKL.out]; exact aggKey) haK.out ?_; clear haK) | (refine wl_load rfl 25 _ rfl ⟨N, 0, none⟩ rfl NV (by rw [HNVL.out]; exact aggNo) haN.out ?_; clear haN))
      refine (HNRk.out _).mono ?_
      rintro e w3 ⟨ax, cx, rfl, hrow, hb3, hno⟩
      have hF3 := hF2.below hb3 hF2.lt
      have hsz2 : (wB.alloc (.cells #[.int .i64 (c)] 3)).heap.size = N + 2 := by simp; rw [hsz.out]
      have hb23 : Below N wr w3 := hb2.trans (hb3.mono (by omega))
      have h3s := hb3.size
      clear hF2 hb2 hb3
      rw [hsz2] at h3s
      clear hsz2
      go_wp2_with (first | (at_builtin; refine wl_appendS rfl _ _ 26 rfl 3 (.int .i64 0) 1 8 Try.underlying26 infoI rfl (by decide) (w.heap.size + 4) (.slice (some ⟨N + 1, 0, none⟩) 1 1) 1 [.int .i64 (c)] rfl (Or.inl (ownsRow_blk hF3 (by omega) rfl)) ax L.length cx rfl hno (L.map (Value.int .i64)) (by rw [List.length_map]; omega) hrow.v (ints_one _ _) (by unfold maxLen; omega) (by omega) (by omega) NL HNL.out ?_; intro ao' cap' w4 row hcap hM hV hg hrw; have hb4 : Below N wr w4 := hb23.grown hg (by rw [← HN.out]; exact hb23.size) (fun k hk => by have h := (hrw k hk).2; have h' : some (N + 1) = some k := h; cases h'; omega); have hC4 := HCr.out.below hb4 (by omega); clear hF3 hrow hno hb23) | (refine wl_setV rfl 26 _ _ rfl 139 (w.heap.size + 3) k rfl (.slice ao' NL cap') rfl rfl rfl sizeSl ps hC4 (by rw [hP.len]; exact h0) ?_; intro w5 hC5 hg5 hs5; clear hC4))
      go_roundw
      case rel =>
        have hM' : w4.ownsRow (w.heap.size + 4) 3 1 (.slice ao' NL cap') NL ((c :: L).map (Value.int .i64)) := by
          rcases hM with h | ⟨h, _⟩
          · exact h
          · have := HNL.out; omega
        have hbl4 := hbl.trans (hb4.mono (by omega))
        refine ⟨k + 1, ps.set k (.slice ao' NL cap'), by omega, by go_num, (HSr.out.below hb4 hNw).grown hg5 (by simp), (HKr.out.below hb4 (by omega)).grown hg5 (by simp), (HRr.out.below hb4 (by omega)).grown hg5 (by simp), hC5, ⟨by rw [List.length_set]; exact hP.len, ?_, ?_⟩, below_set hbl4 hg5 hbl4.size (by omega)⟩
        · intro u hu
          rcases List.mem_or_eq_of_mem_set hu with h | rfl
          · exact hP.one u h
          · rfl
        · intro o ho
          by_cases e : o = k
          · subst e
            refine ⟨ao', cap', ?_, ?_⟩
            · rw [List.getElem?_set_self (by rw [hP.len]; exact h0), hfl.out]
            · rw [hfl.out, hfk.out]
              exact owns_set hM' hg5 (by omega)
          · obtain ⟨ao, cap, h2, h3⟩ := hP.at_ o (by omega)
            exact ⟨ao, cap, by rw [List.getElem?_set_ne (fun h => e h.symm)]; exact h2, owns_set (ownsRow_below h3 N HN.out hb4) hg5 (by omega)⟩
      case measure => simp [intOf] <;> omega
    · obtain rfl : k = 32 := by omega
      have hPL := hid hP.len
      have ha := hC.at0
      go_wp2_with (first | (refine wl_loadG (by kernel_rfl) 139 _ rfl ⟨w.heap.size + 3, 0, none⟩ rfl 32 ps hPL.out aggP ha ?_) | (refine wl_storeAll rfl 139 _ _ rfl 139 (w.heap.size + 2) rfl ps rfl 32 aggP hPL.out Z hR HZL.out hP.one ?_; intro hS'))
      (try simp only [Exit.inBlock, Exit.then]); refine bodyPost_ret (results_cell rfl _ _ _ _ rfl ps (by rw [hPL.out]; exact aggP) hS'.at0) rfl ?_
      refine ⟨ps, rfl, ⟨hPL.out, hP.one, fun o ho => ?_⟩, below_setRow' hbl (by omega) _⟩
      obtain ⟨ao, cap, h3, h4⟩ := hP.at_ o ho
      exact ⟨ao, cap, h3, row_of_owns (owns_set h4 (grown_setRow wr (w.heap.size + 2) ps.toArray) (by omega))⟩
end Go.Proofs.Ytbljihhelladbaa.shr

/- Shares with given values, plain; the numbers of a seed's polynomial are in range. A struct literal of a share. Conditions: the type's form. -/
namespace Go.Proofs.Ytbljihhelladbaa.shr
open Go.RowKit Go.Proofs.Ytbljihhelladbaa.sh Go.Proofs.Ytbljihhelladbaa.Fld
set_option linter.unusedSimpArgs false
set_option linter.unusedVariables false
set_option pp.maxSteps 6000

theorem pairTo_rng (many : Nat) (b : List Int) (o : List Int) (ho : Rng o) : ∀ j, Rng (st.pairTo many b o j)
  | 0 => ho
  | j + 1 => by
    have ih := pairTo_rng many b o ho j
    show Rng (st.stepN many b (st.pairTo many b o j) j)
    unfold st.stepN
    split
    · split
      · intro c hc
        rcases List.mem_append.1 hc with hc | hc
        · exact ih c hc
        · rw [List.mem_singleton.1 hc]; omega
      · exact ih
    · exact ih
theorem blkTo_rng (many : Nat) (k n : List Int) : ∀ q, Rng (st.blkTo many k n q)
  | 0 => fun c hc => by cases hc
  | q + 1 => pairTo_rng many _ _ (blkTo_rng many k n q) 32
theorem numsOf_rng (many : Nat) (k n : List Int) : Rng (st.numsOf many k n) := blkTo_rng _ _ _ _
theorem seedPoly_rng {first : Int} (h : 0 ≤ first ∧ first ≤ 256) (m : Nat) (seed : List Int) (sign o : Int) : Rng (seedPoly first m seed sign o) := by
  intro c hc
  rcases List.mem_cons.1 hc with rfl | hc
  · exact h
  · exact numsOf_rng _ _ _ c hc
theorem seedPoly_len (first : Int) {m : Nat} (hm : 1 ≤ m) (seed : List Int) (sign o : Int) : (seedPoly first m seed sign o).length ≤ m := by
  have h : (st.numsOf (m - 1) seed (nonceOf sign o)).length ≤ m - 1 := st.blkTo_le _ _ _ _
  unfold seedPoly
  rw [List.length_cons]
  omega
theorem polyZ_rng (m : Nat) (seed : List Int) (o : Nat) : Rng (polyZ m seed o) := seedPoly_rng ⟨by decide, by decide⟩ _ _ _ _
theorem polyZ_len {m : Nat} (hm : 1 ≤ m) (seed : List Int) (o : Nat) : (polyZ m seed o).length ≤ m := seedPoly_len _ hm _ _ _
theorem polyS_rng {secret : List Int} (hs : st.Octs secret) (m : Nat) (seed : List Int) (o : Nat) : Rng (polyS secret m seed o) := seedPoly_rng (by have h : 0 ≤ secret.getD o 0 ∧ secret.getD o 0 ≤ 255 := hs.getD o; exact ⟨h.1, by omega⟩) _ _ _ _
theorem polyS_len (secret : List Int) {m : Nat} (hm : 1 ≤ m) (seed : List Int) (o : Nat) : (polyS secret m seed o).length ≤ m := seedPoly_len _ hm _ _ _

theorem wl_build2 {P : Program} {w : World} {ops : Array Oper} {rest : List Oper} {o : Oper} {a : Act} {Q : Exit → Act → World → Prop} (hgd : o.guard = none) (t : TypeId) (i j : Nat) (x y : Operand) (ho : o.op = .build t #[(i, x), (j, y)])
    (u v : Value) (hx : a.eval x = u) (hy : a.eval y = v) (cs : List Value) (hb : P.built t [(i, u), (j, v)] = some cs.toArray) (h : wpList P ops Q rest (a.put o.dst (.agg cs.toArray)) w) : wpList P ops Q (o :: rest) a w :=
  wl_build hgd t _ ho cs (by simp [hx, hy]; exact hb) h

/-- a share of which the first values are laid -/
def shTo (h : List Int) (x : Int) (V : Nat → Int) (k : Nat) : Sh := ⟨h, x, st.fillTo V 32 k⟩
theorem shTo_ok {h : List Int} {x : Int} {V : Nat → Int} {k : Nat} (hl : h.length = 16) (hb : ∀ c ∈ h, 0 ≤ c ∧ c ≤ 255) (hx : -9223372036854775808 ≤ x ∧ x ≤ 9223372036854775807) (hV : ∀ o, 0 ≤ V o ∧ V o ≤ 65535) (hk : k ≤ 32) : (shTo h x V k).Ok := by
  refine ⟨hl, st.fillTo_length _ _ _ hk, hb, ?_, hx⟩
  intro c hc
  unfold shTo st.fillTo at hc
  simp only [List.mem_append, List.mem_map] at hc
  rcases hc with ⟨o, _, rfl⟩ | hc
  · exact hV o
  · rw [List.eq_of_mem_replicate hc]; omega
theorem shTo_set {h : List Int} (x : Int) (V : Nat → Int) {k : Nat} (hl : h.length = 16) (hk : k < 32) : (shTo h x V k).cs.set (17 + k) (.int .u16 (V k)) = (shTo h x V (k + 1)).cs := by
  unfold shTo Sh.cs
  simp only []
  rw [← st.fillTo_set _ _ _ hk, List.set_append_right _ _ (by simp [hl]; omega)]
  congr 1
  have e : 17 + k - (h.map (Value.int .u8)).length = k + 1 := by simp [hl]; omega
  rw [e, List.set_cons_succ, List.map_set]
theorem shTo_get {h : List Int} (x : Int) (V : Nat → Int) {k i : Nat} (hl : h.length = 16) (hk : k ≤ 32) (hi : i < 32) : (shTo h x V k).cs[17 + i]? = some (.int .u16 ((st.fillTo V 32 k).getD i 0)) := by
  unfold shTo Sh.cs
  simp only []
  rw [List.getElem?_append_right (by simp [hl]; omega)]
  have e : 17 + i - (h.map (Value.int .u8)).length = i + 1 := by simp [hl]; omega
  rw [e, List.getElem?_cons_succ, List.getElem?_map, List.getElem?_eq_getElem (by rw [st.fillTo_length _ _ _ hk]; exact hi), getD_lt' _ _ (by rw [st.fillTo_length _ _ _ hk]; exact hi)]
  rfl
theorem shTo_y (h : List Int) (x : Int) (V : Nat → Int) (i : Nat) (hi : i < 32) : (shTo h x V 32).y.getD i 0 = V i := by
  unfold shTo
  simp only []
  rw [st.fillTo_all]
  simp [List.getD_eq_getElem?_getD, hi]
theorem built_sh {h : List Int} (hl : h.length = 16) (x : Int) (V : Nat → Int) : Try.prog.built 61 [(0, .agg (h.map (Value.int .u8)).toArray), (1, .int .i64 x)] = some (shTo h x V 0).cs.toArray := by
  obtain ⟨a0, a1, a2, a3, a4, a5, a6, a7, a8, a9, a10, a11, a12, a13, a14, a15, rfl⟩ : ∃ a0 a1 a2 a3 a4 a5 a6 a7 a8 a9 a10 a11 a12 a13 a14 a15, h = [a0, a1, a2, a3, a4, a5, a6, a7, a8, a9, a10, a11, a12, a13, a14, a15] := by
    refine ⟨h[0], h[1], h[2], h[3], h[4], h[5], h[6], h[7], h[8], h[9], h[10], h[11], h[12], h[13], h[14], h[15], List.ext_getElem (by simp [hl]) fun i h1 h2 => ?_⟩
    have : i < 16 := by omega
    match i, this with
    | 0, _ => rfl
    | 1, _ => rfl
    | 2, _ => rfl
    | 3, _ => rfl
    | 4, _ => rfl
    | 5, _ => rfl
    | 6, _ => rfl
    | 7, _ => rfl
    | 8, _ => rfl
    | 9, _ => rfl
    | 10, _ => rfl
    | 11, _ => rfl
    | 12, _ => rfl
    | 13, _ => rfl
    | 14, _ => rfl
    | 15, _ => rfl
    | i + 16, h => exact absurd h (by omega)
  unfold shTo
  rw [st.fillTo_zero]
  kernel_rfl

theorem ValueOf_n {n : Nat} (ao : Option Addr) (cap : Nat) (l : List Int) (x : Int) (w : World) (hn : n = l.length) (hr : RowI .i64 w ao l) (hl : Rng l) (hx : 0 ≤ x ∧ x ≤ 256) (hs : n ≤ 4611686018427387904) (V : Int) (hV : ev l x % 257 = V) :
    Calls Try.prog 24 #[.slice ao n cap, .int .i64 x] w fun e w' => e = .returned (.int .i64 V) ∧ w' = w := by
  subst hn
  subst hV
  exact (ValueOf_any ao cap l x w hr hl hx hs).mono fun _ _ ⟨h1, h2⟩ => ⟨h1, h2.symm⟩
/-- the share of a holder on given polynomials, and those of all holders -/
def onSh (f : Nat → List Int) (s : Sh) : Sh := shTo s.h s.x (fun o => ev (f o) s.x % 257) 32
def onAll (f : Nat → List Int) (l : List Sh) : List Sh := l.map (onSh f)
theorem onAll_length (f : Nat → List Int) (l : List Sh) : (onAll f l).length = l.length := by unfold onAll; rw [List.length_map]
theorem ev_bd (l : List Int) (x : Int) : 0 ≤ ev l x % 257 ∧ ev l x % 257 ≤ 256 := by omega
theorem onSh_ok (f : Nat → List Int) {s : Sh} (hs : s.Ok) : (onSh f s).Ok := shTo_ok hs.hl hs.hb hs.xb (fun o => by have := ev_bd (f o) s.x; omega) (by decide)
theorem onAll_ok (f : Nat → List Int) {l : List Sh} (hl : ∀ s ∈ l, s.Ok) : ∀ s ∈ onAll f l, s.Ok := by
  intro s hs
  obtain ⟨t, ht, rfl⟩ := List.mem_map.1 hs
  exact onSh_ok f (hl t ht)
theorem onAll_succ (f : Nat → List Int) (l : List Sh) (k : Nat) (hk : k < l.length) : onAll f (l.take (k + 1)) = onAll f (l.take k) ++ [onSh f (l.getD k nil)] := by
  unfold onAll
  rw [List.take_succ_eq_append_getElem hk, List.map_append, getD_lt' l nil hk]; rfl
theorem owns_belowB {w w' : World} {base B : Nat} {e : TypeId} {size n : Nat} {v : Value} {xs : List Value} (h : w.ownsRow base e size v n xs) (hb : Below B w w') (hB : ∀ g, v.ownBlock = some g → g < B) : w'.ownsRow base e size v n xs := by
  obtain ⟨h1, h2⟩ := h
  refine ⟨h1, ?_⟩
  rcases h2 with h2 | ⟨g, cap, cur, hv, hg, hh, r⟩
  · exact Or.inl h2
  · exact Or.inr ⟨g, cap, cur, hv, hg, by rw [hb.block g (hB g (by rw [hv]; rfl))]; exact hh, r⟩
theorem RowS.of_blk {w : World} {g : Nat} {s : Sh} {t : TypeId} (h : BlkV t w g s.cs) : RowS w (some ⟨g, 0, none⟩) [s] := by
  refine Or.inr ⟨g, 0, rfl, h.lt, fun i hi => ?_⟩
  obtain rfl : i = 0 := by simpa using hi
  exact h.at0
end Go.Proofs.Ytbljihhelladbaa.shr
