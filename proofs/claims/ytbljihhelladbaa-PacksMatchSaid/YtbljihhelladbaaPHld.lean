/-
  A region that draws its order, walked by hand: reading operations are taken first, each by its own law; whole loads, literals, new variables and stores as steps. Conditions: what each names. Shares read: Parse, ReadShare. Conditions: a slice of octets that lies in memory. Contracts of mix.NameOf and mix.TagOf. Conditions: a key of octets, a text of octets.
-/
import Derived.Test.YtbljihhelladbaaPStE
import Derived.Test.YtbljihhelladbaaPMkX
import Derived.Test.YtbljihhelladbaaPShBC
import Derived.Test.YtbljihhelladbaaPEqA
import Derived.Deep.RegionHeld3
import Derived.Deep.MidRow
namespace Go.Proofs.Ytbljihhelladbaa
set_option linter.unusedSimpArgs false
set_option linter.unusedVariables false
open Go.RowKit
section
variable {P : Program} {md : Region.Mode} {ops : Array Oper} {Q : Exit → Act → World → Prop} {S : World → Prop}
/-- number i is taken first; its operation is read off the list of operations -/
theorem take_l {i : Nat} {oi : Oper} {v : Value} {fuel : Nat} {listed : Array Bool} {a : Act} {w : World} (hi : ops.toList[i]? = some oi)
    (hs : Region.noSelect ops = true) (hf : Region.free md ops listed i = true) (hr : (Region.ready md ops listed).contains i = true)
    (hQ : ∀ c a w, Q (.panic c) (a.put oi.dst v) w → Q (.panic c) a w) (hy : YieldsIf P ops S oi v a) (hS : S w)
    (h : wpAnyH P md ops Q S fuel (listed.setIfInBounds i true) (a.put oi.dst v) w) : wpAnyH P md ops Q S (fuel + 1) listed a w :=
  wpAnyH_take (by simpa using hi) hs hf hr hQ hy hS h
theorem cons_l {fuel : Nat} {listed : Array Bool} {a : Act} {w : World} {i : Nat} {o : Oper} {rs : List Nat} (ho : ops.toList[i]? = some o)
    (h : ∀ K' : Act → World → Prop, Shut (∀ a w, S w → (S w → wpAnyH P md ops Q S fuel (listed.setIfInBounds i true) a w) → K' a w) → if Region.wanted o (yielded ops a.tmps) = true then Oper.wp P o a w K' Q else K' (a.put o.dst undef) w)
    (hs : AllReadyH P md ops Q S fuel listed a w rs) : AllReadyH P md ops Q S fuel listed a w (i :: rs) :=
  AllReadyH.cons (by simpa using ho) h hs
end
theorem step_allocV {P : Program} {ops : Array Oper} {o : Oper} {a : Act} {w : World} {K : Act → World → Prop} {Q : Exit → Act → World → Prop} {E : Prop} (hgd : o.guard = none) (t : TypeId) (ho : o.op = .alloc t)
    (cs : List Value) (hz : (P.info? t).map (·.zero) = some (some (.agg cs.toArray))) (N : Nat) (hN : w.heap.size = N)
    (h : ∀ w', BlkV t w' N cs → Below N w w' → w'.heap.size = N + 1 → K (a.put o.dst (.pointer (some ⟨N, 0, none⟩))) w') : if Region.wanted o (yielded ops a.tmps) = true then Oper.wp P o a w K Q else E := by
  subst hN
  have hw : Region.wanted o (yielded ops a.tmps) = true := by simp [Region.wanted, hgd]
  rw [if_pos hw]
  obtain ⟨i, hi, hs⟩ := Option.map_eq_some_iff.1 hz
  unfold Oper.wp
  simp [execOp, ho, Instr.alloc, zeroValue, typeInfo, hi, hs, newVar, newRow, Value.cells, Result.andThen]
  exact h _ (BlkV.new t w cs rfl) ((Below.refl _ _).alloc (Nat.le_refl _) _) (by simp)
theorem step_storeV {P : Program} {ops : Array Oper} {o : Oper} {a : Act} {w : World} {K : Act → World → Prop} {Q : Exit → Act → World → Prop} {E : Prop} (hgd : o.guard = none) (ty : TypeId) (x y : Operand) (ho : o.op = .store ty x y)
    (t : TypeId) (g : Nat) (hx : a.eval x = .pointer (some ⟨g, 0, none⟩)) (cs : List Value) (hy : a.eval y = .agg cs.toArray) (n : Nat) (hi : Agg P ty n) (hn : cs.length = n) (cur : List Value) (hg : BlkV t w g cur) (hc : cur.length = n) (h1 : ∀ u ∈ cs, u.oneCell' = true)
    (h : ∀ w', BlkV t w' g cs → Below g w w' → w'.heap.size = w.heap.size → K (a.put o.dst undef) w') : if Region.wanted o (yielded ops a.tmps) = true then Oper.wp P o a w K Q else E := by
  have hw : Region.wanted o (yielded ops a.tmps) = true := by simp [Region.wanted, hgd]
  rw [if_pos hw]
  have hrun := run_store_agg (P := P) w ty t g 0 cur cs (by rw [hi.2, hn]) hg (by omega) h1
  rw [List.take_zero, List.nil_append, Nat.zero_add, List.drop_eq_nil_of_le (by omega), List.append_nil] at hrun
  unfold Oper.wp
  simp [execOp, ho, hx, hy, Instr.storeAt, Instr.sureAddr, hrun, Result.andThen]
  exact h _ (hg.setRow cs) (below_setRow' (Below.refl _ _) (Nat.le_refl _) _) (by simp)
end Go.Proofs.Ytbljihhelladbaa
/- Contract of share.Parse. Conditions: a slice of octets that lies in memory. -/
namespace Go.Proofs.Ytbljihhelladbaa.shr
open Go.RowKit Go.Proofs.Ytbljihhelladbaa.sh Go.Proofs.Ytbljihhelladbaa.st Go.Proofs.Ytbljihhelladbaa.hs
set_option linter.unusedSimpArgs false
set_option linter.unusedVariables false
set_option pp.maxSteps 6000
def mag : List Int := [75, 87, 83, 49]
def magS : ByteArray := strOfNums mag
theorem mag_octs : Octs mag := by
  intro c hc
  unfold mag at hc
  simp only [List.mem_cons, List.not_mem_nil, or_false] at hc
  rcases hc with rfl | rfl | rfl | rfl <;> exact ⟨by decide, by decide⟩
/-- the share that octets are; what reading gives -/
def yOf (l : List Int) (o : Nat) : Int := 256 * l.getD (22 + 2 * o) 0 + l.getD (23 + 2 * o) 0
def xOf (l : List Int) : Int := 256 * l.getD 20 0 + l.getD 21 0
def shareOf (l : List Int) : Sh := shTo ((l.drop 4).take 16) (xOf l) (yOf l) 32
def parseE (l : List Int) : Int := if l.length < 86 then 1 else if l.take 4 = mag ∧ l.length ≤ 86 then (if goodS (shareOf l) = true then 0 else 4) else 2
def parseS (l : List Int) : Sh := if parseE l = 0 then shareOf l else sh0
def parseV (l : List Int) : Value := .tuple #[.agg (parseS l).cs.toArray, .int .i64 (parseE l)]
theorem yOf_b {l : List Int} (h : Octs l) (o : Nat) : 0 ≤ yOf l o ∧ yOf l o ≤ 65535 := by
  have h1 := h.getD (22 + 2 * o)
  have h2 := h.getD (23 + 2 * o)
  unfold Oct at h1 h2
  unfold yOf; omega
theorem xOf_b {l : List Int} (h : Octs l) : 0 ≤ xOf l ∧ xOf l ≤ 65535 := by
  have h1 := h.getD 20
  have h2 := h.getD 21
  unfold Oct at h1 h2
  unfold xOf; omega
theorem holdOf_length {l : List Int} (hl : l.length = 86) : ((l.drop 4).take 16).length = 16 := by rw [List.length_take, List.length_drop, hl]; decide
theorem holdOf_b {l : List Int} (h : Octs l) : ∀ c ∈ (l.drop 4).take 16, 0 ≤ c ∧ c ≤ 255 := fun c hc => h c (List.mem_of_mem_drop (List.mem_of_mem_take hc))
theorem shareOf_ok {l : List Int} (hl : l.length = 86) (h : Octs l) : (shareOf l).Ok :=
  shTo_ok (holdOf_length hl) (holdOf_b h) (by have := xOf_b h; omega) (yOf_b h) (by decide)
theorem built_sh0 : Try.prog.built 61 [] = some sh0.cs.toArray := by kernel_rfl
theorem run_arrayAtID (w : World) (a : Addr) (n cap : Nat) (hn : 16 ≤ n) : (Instr.arrayAt 57 (.slice (some a) n cap)).run Try.prog w = .ok (.pointer (some a)) w := by
  have h1 : ¬ n < 16 := by omega
  simp [Instr.arrayAt, run_underlying Try.underlying57, Result.andThen, h1]
end Go.Proofs.Ytbljihhelladbaa.shr
/- Contract of keyref2.ReadShare. Conditions: a slice of octets that lies in memory. -/
namespace Go.Proofs.Ytbljihhelladbaa.shr
open Go.RowKit Go.Proofs.Ytbljihhelladbaa.sh Go.Proofs.Ytbljihhelladbaa.st Go.Proofs.Ytbljihhelladbaa.hs
set_option linter.unusedSimpArgs false
set_option linter.unusedVariables false
set_option pp.maxSteps 6000
theorem addr_add (b off j : Nat) : (⟨b, off, none⟩ : Addr).add j = ⟨b, off + j, none⟩ := by unfold Addr.add; split <;> simp_all
theorem numL_two (a c : Int) : numL [a, c] = 256 * a + c := by
  unfold numL
  simp [List.foldl]
theorem row_two {w : World} {b off k : Nat} {a c : Int} (hb : b < w.heap.size) (h1 : w.cell? ⟨b, off + k, none⟩ = some (.int .u8 a)) (h2 : w.cell? ⟨b, off + (k + 1), none⟩ = some (.int .u8 c)) : RowI .u8 w (some ⟨b, off + k, none⟩) [a, c] := by
  refine Or.inr ⟨b, off + k, rfl, hb, fun i hi => ?_⟩
  have hi2 : i = 0 ∨ i = 1 := by simp at hi; omega
  rcases hi2 with rfl | rfl
  · exact h1
  · rw [Nat.add_assoc]; exact h2
theorem octs_two {a c : Int} (ha : 0 ≤ a ∧ a ≤ 255) (hc : 0 ≤ c ∧ c ≤ 255) : Octs [a, c] := by
  intro x hx
  simp only [List.mem_cons, List.not_mem_nil, or_false] at hx
  rcases hx with rfl | rfl
  · exact ha
  · exact hc
theorem splice_sh0 {h : List Int} (hl : h.length = 16) (V : Nat → Int) : splice sh0.cs 0 (h.map (Value.int .u8)) = (shTo h 0 V 0).cs := by
  unfold splice
  rw [List.take_zero, List.nil_append, List.length_map, hl]
  unfold Sh.cs shTo
  rw [st.fillTo_zero]
  rfl
theorem set_x {h : List Int} (hl : h.length = 16) (x y : Int) (V : Nat → Int) (k : Nat) : (shTo h x V k).cs.set 16 (.int .i64 y) = (shTo h y V k).cs := by
  unfold Sh.cs shTo
  rw [List.set_append_right _ _ (by rw [List.length_map, hl]; exact Nat.le_refl _), List.length_map, hl]; rfl
set_option maxRecDepth 100000 in
set_option maxHeartbeats 1000000 in
theorem Read_short (ao : Option Addr) (cap n : Nat) (l : List Int) (w : World) (hn : n = l.length) (hl : n < 86) :
    Calls Try.prog 49 #[.slice ao n cap] w fun e w' => e = .returned (parseV l) ∧ Below w.heap.size w w' := by
  obtain ⟨B, HB⟩ : ∃ B, Hid (B = w.heap.size) := ⟨_, rfl⟩
  have hsz : w.heap.size = B := HB.out.symm
  have hz := hid sh0_zero
  have hbt := hid built_sh0
  obtain ⟨Z, HZ⟩ : ∃ Z, Hid (Z = sh0.cs) := ⟨_, rfl⟩
  have hZl : Z.length = 49 := by rw [HZ.out]; exact sh0_len
  have hZ1 : ∀ u ∈ Z, u.oneCell' = true := by rw [HZ.out]; exact cs_one sh0
  rw [← HZ.out] at hz hbt
  have HN := hid hn
  have HV : Hid (parseV l = .tuple #[.agg Z.toArray, .int .i64 1]) := by
    show _ = _
    have e : parseE l = 1 := by unfold parseE; rw [if_pos (by omega)]
    unfold parseV parseS; rw [e, HZ.out]; rfl
  rw [HV.out]
  have hI : (n : Int) < 86 := by omega
  clear hn
  go_enter Try.func49, Try.ntmps49
  go_wp2_with (first | (refine wl_allocV rfl 61 rfl Z hz.out B hsz ?_; intro w1 hR1 hb1 hs1) | (refine wl_allocV rfl 61 rfl Z hz.out (B + 1) hs1 ?_; intro w2 hT2 hb2 hs2; have hR2 := hR1.below hb2 (by omega); have bb2 : Below B w w2 := hb1.trans (hb2.mono (by omega)); clear hR1 hb1 hb2) | (refine wl_load rfl 61 _ rfl ⟨B + 1, 0, none⟩ rfl Z (by rw [hZl]; exact aggS) hT2.at0 ?_) | (refine wl_storeV rfl 61 _ _ rfl 61 B rfl Z rfl 49 aggS hZl Z hR2 hZl hZ1 ?_; intro w4 hR4 hb4 hs4))
  (try simp only [Exit.inBlock, Exit.then]); refine bodyPost_ret (results_cell2 rfl _ _ _ _ rfl Z (by rw [hZl]; exact aggS) hR4.at0) rfl ?_
  exact ⟨rfl, by first | exact bb2.trans hb4 | (rw [hsz]; exact bb2.trans hb4)⟩
set_option maxRecDepth 100000 in
set_option maxHeartbeats 1000000 in
theorem Read_form (ao : Option Addr) (cap n : Nat) (l : List Int) (w : World) (hn : n = l.length) (hP : Pt.Ok w ⟨ao, cap, l⟩) (hl : 86 ≤ n) (hf : ¬ (l.take 4 = mag ∧ n ≤ 86)) :
    Calls Try.prog 49 #[.slice ao n cap] w fun e w' => e = .returned (parseV l) ∧ Below w.heap.size w w' := by
  obtain ⟨B, HB⟩ : ∃ B, Hid (B = w.heap.size) := ⟨_, rfl⟩
  have hsz : w.heap.size = B := HB.out.symm
  have hz := hid sh0_zero
  have hbt := hid built_sh0
  obtain ⟨Z, HZ⟩ : ∃ Z, Hid (Z = sh0.cs) := ⟨_, rfl⟩
  have hZl : Z.length = 49 := by rw [HZ.out]; exact sh0_len
  have hZ1 : ∀ u ∈ Z, u.oneCell' = true := by rw [HZ.out]; exact cs_one sh0
  rw [← HZ.out] at hz hbt
  have HN := hid hn
  have HP := hid hP
  have HV : Hid (parseV l = .tuple #[.agg Z.toArray, .int .i64 2]) := by
    show _ = _
    have e : parseE l = 2 := by unfold parseE; rw [if_neg (by omega), if_neg (by rw [← hn]; exact hf)]
    unfold parseV parseS; rw [e, HZ.out]; rfl
  rw [HV.out]
  have hI : ¬ (n : Int) < 86 := by omega
  have hI2 : (86 : Int) ≤ (n : Int) := by omega
  obtain ⟨b, off, rfl, hb, hc⟩ := hP.row.at (i := 0) (by show 0 < l.length; omega)
  have h4 : 4 ≤ n := by omega
  have hcap : n ≤ cap := by rw [hn]; exact hP.len
  have h4c : 4 ≤ cap := by omega
  have h4I : (4 : Int) ≤ (cap : Int) := by omega
  obtain ⟨S, HS⟩ : ∃ S, Hid (S = strOfNums (l.take 4)) := ⟨_, rfl⟩
  have ho4 : Octs (l.take 4) := fun c hc => hP.oct c (List.mem_of_mem_take hc)
  have hlen4 : 4 = (l.take 4).length := by rw [List.length_take]; omega
  have hkS := fun w1 (hb1 : Below B w w1) => hid (run_convStr w1 (some ⟨b, off, none⟩) 4 cap (l.take 4) hlen4 (RowI.takeS (hP.row.below (hsz ▸ hb1)) 4))
  rw [← HS.out] at hkS
  have hor : ¬ (S = magS) ∨ S = magS ∧ 86 < n := by
    by_cases e : S = magS
    · refine Or.inr ⟨e, ?_⟩
      have e2 : l.take 4 = mag := str_inj ho4 mag_octs (by rw [← HS.out]; exact e)
      exact Nat.lt_of_not_le fun h => hf ⟨e2, h⟩
    · exact Or.inl e
  clear hn hP hf hlen4
  rcases hor with hne | ⟨rfl, hgt⟩
  · have hne' : ¬ S.toList = [75, 87, 83, 49] := by
      intro e
      have h1 := str_ne hne
      rw [beq_eq_false_iff_ne] at h1
      exact h1 (e.trans (by rw [toList_eq]; rfl))
    go_enter Try.func49, Try.ntmps49
    go_wp2_with (first | (refine wl_allocV rfl 61 rfl Z hz.out B hsz ?_; intro w1 hR1 hb1 hs1) | (refine wl_allocV rfl 61 rfl Z hz.out (B + 1) hs1 ?_; intro w2 hT2 hb2 hs2; have hR2 := hR1.below hb2 (by omega); have bb2 : Below B w w2 := hb1.trans (hb2.mono (by omega)); have kS := (hkS w2 bb2).out; clear hR1 hb1 hb2) | (refine wl_load rfl 61 _ rfl ⟨B + 1, 0, none⟩ rfl Z (by rw [hZl]; exact aggS) hT2.at0 ?_) | (refine wl_storeV rfl 61 _ _ rfl 61 B rfl Z rfl 49 aggS hZl Z hR2 hZl hZ1 ?_; intro w4 hR4 hb4 hs4))
    (try simp only [Exit.inBlock, Exit.then]); refine bodyPost_ret (results_cell2 rfl _ _ _ _ rfl Z (by rw [hZl]; exact aggS) hR4.at0) rfl ?_
    exact ⟨rfl, by first | exact bb2.trans hb4 | (rw [hsz]; exact bb2.trans hb4)⟩
  · have hgI : (86 : Int) < (n : Int) := by omega
    have ems : magS = ⟨#[75, 87, 83, 49]⟩ := rfl
    rw [ems] at hkS
    go_enter Try.func49, Try.ntmps49
    go_wp2_with (first | (refine wl_allocV rfl 61 rfl Z hz.out B hsz ?_; intro w1 hR1 hb1 hs1) | (refine wl_allocV rfl 61 rfl Z hz.out (B + 1) hs1 ?_; intro w2 hT2 hb2 hs2; have hR2 := hR1.below hb2 (by omega); have bb2 : Below B w w2 := hb1.trans (hb2.mono (by omega)); have kS := (hkS w2 bb2).out; clear hR1 hb1 hb2) | (refine wl_load rfl 61 _ rfl ⟨B + 1, 0, none⟩ rfl Z (by rw [hZl]; exact aggS) hT2.at0 ?_) | (refine wl_storeV rfl 61 _ _ rfl 61 B rfl Z rfl 49 aggS hZl Z hR2 hZl hZ1 ?_; intro w4 hR4 hb4 hs4))
    (try simp only [Exit.inBlock, Exit.then]); refine bodyPost_ret (results_cell2 rfl _ _ _ _ rfl Z (by rw [hZl]; exact aggS) hR4.at0) rfl ?_
    exact ⟨rfl, by first | exact bb2.trans hb4 | (rw [hsz]; exact bb2.trans hb4)⟩
set_option maxRecDepth 100000 in
set_option maxHeartbeats 2000000 in
theorem Read_full (ao : Option Addr) (cap n : Nat) (l : List Int) (w : World) (hn : n = l.length) (hP : Pt.Ok w ⟨ao, cap, l⟩) (hl : n = 86) (hf : l.take 4 = mag) :
    Calls Try.prog 49 #[.slice ao n cap] w fun e w' => e = .returned (parseV l) ∧ Below w.heap.size w w' := by
  obtain ⟨B, HB⟩ : ∃ B, Hid (B = w.heap.size) := ⟨_, rfl⟩
  have hsz : w.heap.size = B := HB.out.symm
  have hz := hid sh0_zero
  have hbt := hid built_sh0
  obtain ⟨Z, HZ⟩ : ∃ Z, Hid (Z = sh0.cs) := ⟨_, rfl⟩
  have hZl : Z.length = 49 := by rw [HZ.out]; exact sh0_len
  have hZ1 : ∀ u ∈ Z, u.oneCell' = true := by rw [HZ.out]; exact cs_one sh0
  rw [← HZ.out] at hz hbt
  have HN := hid hn
  have HP := hid hP
  have hl86 : l.length = 86 := by rw [← hn]; exact hl
  subst hl
  have hE : parseE l = if goodS (shareOf l) = true then 0 else 4 := by unfold parseE; rw [if_neg (by omega), if_pos ⟨hf, by omega⟩]
  have HE := hid hE
  have hok := shareOf_ok hl86 hP.oct
  have HOK := hid hok
  have hxb := xOf_b hP.oct
  have hyb := hid (yOf_b hP.oct)
  obtain ⟨b, off, rfl, hb, hc⟩ := hP.row.at (i := 0) (by show 0 < l.length; omega)
  have hcap : 86 ≤ cap := by rw [hn]; exact hP.len
  have h4c : 4 ≤ cap := by omega
  have h4I : (4 : Int) ≤ (cap : Int) := by omega
  have h20I : (20 : Int) ≤ (cap : Int) := by omega
  have h22I : (22 : Int) ≤ (cap : Int) := by omega
  have hc4 : ¬ cap = 4 := by omega
  have hc20 : ¬ cap = 20 := by omega
  have hlen4 : 4 = (l.take 4).length := by rw [List.length_take]; omega
  have hkS := fun w1 (hb1 : Below B w w1) => hid (run_convStr w1 (some ⟨b, off, none⟩) 4 cap (l.take 4) hlen4 (RowI.takeS (hP.row.below (hsz ▸ hb1)) 4))
  have ems : strOfNums (l.take 4) = ⟨#[75, 87, 83, 49]⟩ := by rw [hf]; rfl
  rw [ems] at hkS
  have hbB : b < B := by rw [HB.out]; exact hb
  have hcI : ∀ i, i < 86 → w.cell? ⟨b, off + i, none⟩ = some (.int .u8 (l.getD i 0)) := fun i hi => hc i (by show i < l.length; omega)
  have HCI := hid hcI
  have hob := hid (fun i => hP.oct.getD i)
  obtain ⟨h, HH⟩ : ∃ h : List Int, Hid (h = (l.drop 4).take 16) := ⟨_, rfl⟩
  have hhl : h.length = 16 := by rw [HH.out]; exact holdOf_length hl86
  obtain ⟨SH, HSH⟩ : ∃ V, Hid (V = h.map (Value.int .u8)) := ⟨_, rfl⟩
  have HSHL : Hid (SH.length = 16) := by show _ = _; rw [HSH.out, List.length_map]; exact hhl
  have hSH1 : ∀ u ∈ SH, u.oneCell' = true := by rw [HSH.out]; exact ints_one _ _
  obtain ⟨x, HX⟩ : ∃ x : Int, Hid (x = xOf l) := ⟨_, rfl⟩
  rw [← HX.out] at hxb
  have hSP := hid (splice_sh0 hhl (yOf l))
  rw [← HZ.out, ← HSH.out] at hSP
  obtain ⟨y20, H20⟩ : ∃ y, Hid (y = l.getD 20 0) := ⟨_, rfl⟩
  obtain ⟨y21, H21⟩ : ∃ y, Hid (y = l.getD 21 0) := ⟨_, rfl⟩
  have hy20 : 0 ≤ y20 ∧ y20 ≤ 255 := by rw [H20.out]; exact hob.out 20
  have hy21 : 0 ≤ y21 ∧ y21 ≤ 255 := by rw [H21.out]; exact hob.out 21
  have hx2 : numL [y20, y21] = x := by rw [numL_two, HX.out, H20.out, H21.out]; rfl
  have HX2 := hid hx2
  have halI : Try.prog.arrayLen 57 = 16 := by kernel_rfl
  have hSHc : ∀ (w' : World), (∀ i, i < 86 → w'.cell? ⟨b, off + i, none⟩ = some (.int .u8 (l.getD i 0))) → At w' ⟨b, off + 4, none⟩ SH := by
    intro w' hw' j v hv
    have hj : j < 16 := by have := (List.getElem?_eq_some_iff.1 hv).1; rw [HSHL.out] at this; exact this
    rw [addr_add b (off + 4) j, Nat.add_assoc, hw' (4 + j) (by omega), ← hv, HSH.out, HH.out, List.getElem?_map, List.getElem?_take, if_pos hj, List.getElem?_drop, List.getElem?_eq_getElem (by omega), getD_lt' l 0 (by omega)]
    rfl
  have HSHC := hid hSHc
  have hs49 := hid (fun x k (hk : k ≤ 32) (hx : -9223372036854775808 ≤ x ∧ x ≤ 9223372036854775807) => (shTo_ok (x := x) (V := yOf l) (k := k) hhl (by rw [HH.out]; exact holdOf_b hP.oct) hx hyb.out hk).csl)
  clear hn hP hf hlen4 hx2 hE hok hc hcI hSHc ems
  go_enter Try.func49, Try.ntmps49
  go_wp2_with (first | (refine wl_allocV rfl 61 rfl Z hz.out B hsz ?_; intro w1 hR1 hb1 hs1) | (refine wl_allocV rfl 61 rfl Z hz.out (B + 1) hs1 ?_; intro w2 hT2 hb2 hs2; have hR2 := hR1.below hb2 (by omega); have bb2 : Below B w w2 := hb1.trans (hb2.mono (by omega)); have kS := (hkS w2 bb2).out; clear hR1 hb1 hb2))
  have hC2 : ∀ i, i < 86 → w2.cell? ⟨b, off + i, none⟩ = some (.int .u8 (l.getD i 0)) := fun i hi => (bb2.cell (p := ⟨b, off + i, none⟩) hbB).trans (HCI.out i hi)
  have HC2 := hid hC2
  have hfit : 0 + SH.length ≤ Z.length := by rw [HSHL.out, hZl]; omega
  have hmin : SH.length = Nat.min 82 16 := by rw [HSHL.out]; rfl
  clear kS hkS hC2
  go_region_law (refine step_copy_splice rfl (.tmp 23) (.tmp 25) 69 69 rfl 5 Try.underlying69 size5 (some ⟨B + 1, 0, none⟩) (some ⟨b, off + 4, none⟩) 16 16 82 (cap - 4) rfl rfl (B + 1) 0 Z 61 hT2 SH hmin (fun _ => ⟨rfl, _, rfl, HSHC.out _ HC2.out⟩) hfit hSH1 (B + 1) w2 ((Below.refl _ _).drew) (Nat.le_refl _) ?_; intro w3 hg3 hb3)
  have hT3 : BlkV 61 w3 (B + 1) (shTo h 0 (yOf l) 0).cs := by
    have h1 := hg3.out
    rw [hSP.out] at h1
    exact h1
  have hR3 := hR2.below hb3 (by omega)
  have bb3 : Below B w w3 := bb2.trans (hb3.mono (by omega))
  have hb23 : b < w3.heap.size := by have := bb3.size; omega
  have hC3 : ∀ i, i < 86 → w3.cell? ⟨b, off + i, none⟩ = some (.int .u8 (l.getD i 0)) := fun i hi => (bb3.cell (p := ⟨b, off + i, none⟩) hbB).trans (HCI.out i hi)
  have hr20 : RowI .u8 w3 (some ⟨b, off + 20, none⟩) [y20, y21] := row_two hb23 (by rw [H20.out]; exact hC3 20 (by omega)) (by rw [H21.out]; exact hC3 21 (by omega))
  have hnum := hid (NumberOf_any (some ⟨b, off + 20, none⟩) (cap - 20) 2 [y20, y21] w3 rfl hr20 (octs_two hy20 hy21) (by omega))
  rw [HX2.out] at hnum
  have hl0 := hs49.out 0 0 (by omega) (by omega)
  have HSX := hid (set_x hhl 0 x (yOf l) 0)
  clear hR2 hT2 bb2 hb3 hg3 hfit hmin hC3 hr20
  go_wp2_with (first | (go_at_call 90; refine hnum.out.mono ?_; rintro e w' ⟨rfl, rfl⟩) | (refine wl_setV rfl 3 _ _ rfl 61 (B + 1) 16 rfl (.int .i64 x) rfl rfl rfl sizeInt _ hT3 (by rw [hl0]; decide) ?_; intro wE hE hgE hsE; rw [HSX.out] at hE; have hRE := hR3.grown hgE (by intro e; have := Option.some.inj e; omega); have bbE : Below B w wE := bb3.trans (below_of_grown hgE (by have := hT3.lt; omega) (by omega)); clear hT3 hR3 bb3))
  have hCE : ∀ i, i < 86 → wE.cell? ⟨b, off + i, none⟩ = some (.int .u8 (l.getD i 0)) := fun i hi => (bbE.cell (p := ⟨b, off + i, none⟩) hbB).trans (HCI.out i hi)
  have HCE := hid hCE
  have hbE : b < wE.heap.size := by have := bbE.size; omega
  have hBE : B + 1 < wE.heap.size := hE.lt
  clear hCE hgE
  go_loopw [31] (fun i wx => ∃ j : Nat, j ≤ 32 ∧ i = .int .i64 j ∧ BlkV 61 wx (B + 1) (shTo h x (yOf l) j).cs ∧ wE.grownBy wx (some (B + 1))) (fun i _ => 32 - (intOf i).toNat)
  case atStart => exact ⟨0, by omega, rfl, hE, World.grownBy.refl _ _⟩
  case round =>
    clear hE
    obtain ⟨j, hj, rfl, hT, hbx⟩ := hrel
    have hbne : some b ≠ some (B + 1) := by intro e; have := Option.some.inj e; omega
    by_cases h1 : j < 32
    · have hjI : (j : Int) < 32 := by omega
      have hjI0 : (0 : Int) ≤ (j : Int) := by omega
      obtain ⟨p2, HP2⟩ : ∃ p : Nat, Hid (p = 2 * j) := ⟨_, rfl⟩
      obtain ⟨p, HPP⟩ : ∃ p : Nat, Hid (p = 22 + 2 * j) := ⟨_, rfl⟩
      obtain ⟨r, HRR⟩ : ∃ p : Nat, Hid (p = 24 + 2 * j) := ⟨_, rfl⟩
      have e1 : (2 : Int) * (j : Int) = (p2 : Int) := by rw [HP2.out]; omega
      have e2 : (22 : Int) + (p2 : Int) = (p : Int) := by rw [HP2.out, HPP.out]; omega
      have e3 : (24 : Int) + (p2 : Int) = (r : Int) := by rw [HP2.out, HRR.out]; omega
      have hpb : p < 86 := by rw [HPP.out]; omega
      have hqb : p + 1 < 86 := by rw [HPP.out]; omega
      have hrb : r < 87 := by rw [HRR.out]; omega
      have hp2b : p2 < 86 := by rw [HP2.out]; omega
      have hrp : r - p = 2 := by rw [HRR.out, HPP.out]; omega
      have hpr : p ≤ r := by omega
      have hprI : (p : Int) ≤ (r : Int) := by omega
      have hrc : r ≤ cap := by omega
      have hrcI : (r : Int) ≤ (cap : Int) := by omega
      have hcp : ¬ cap = p := by omega
      have hp0 : (0 : Int) ≤ (p : Int) := by omega
      have hr0 : (0 : Int) ≤ (r : Int) := by omega
      have hw1 : IntKind.i64.wrap (p2 : Int) = (p2 : Int) := IntWalk.i64_in _ (by omega)
      have hw2 : IntKind.i64.wrap (p : Int) = (p : Int) := IntWalk.i64_in _ (by omega)
      have hw3 : IntKind.i64.wrap (r : Int) = (r : Int) := IntWalk.i64_in _ (by omega)
      obtain ⟨a, Ha⟩ : ∃ a, Hid (a = l.getD p 0) := ⟨_, rfl⟩
      obtain ⟨c, Hc⟩ : ∃ c, Hid (c = l.getD (p + 1) 0) := ⟨_, rfl⟩
      have hab : 0 ≤ a ∧ a ≤ 255 := by rw [Ha.out]; exact hob.out p
      have hcb : 0 ≤ c ∧ c ≤ 255 := by rw [Hc.out]; exact hob.out (p + 1)
      have cA := hbx.cell (HCE.out p hpb) hbne
      have cC := hbx.cell (HCE.out (p + 1) hqb) hbne
      rw [← Ha.out] at cA
      rw [← Hc.out] at cC
      have hrow := row_two (Nat.lt_of_lt_of_le hbE hbx.size) cA cC
      have hnum := hid (NumberOf_any (some ⟨b, off + p, none⟩) (cap - p) 2 [a, c] wr rfl hrow (octs_two hab hcb) (by omega))
      obtain ⟨y, Hy⟩ : ∃ y, Hid (y = 256 * a + c) := ⟨_, rfl⟩
      have Hyy : Hid (yOf l j = y) := by show _ = _; rw [Hy.out, Ha.out, Hc.out, HPP.out]; unfold yOf; rw [show 22 + 2 * j + 1 = 23 + 2 * j by omega]
      rw [numL_two, ← Hy.out] at hnum
      have hyb' : 0 ≤ y ∧ y ≤ 65535 := by rw [Hy.out]; omega
      have hw4 : IntKind.u16.wrap y = y := IntWalk.u16_in _ (by omega)
      have hlj := hs49.out x j hj (by omega)
      have HST := hid (shTo_set x (yOf l) hhl h1)
      rw [Hyy.out] at HST
      go_wp2_with (first | (go_at_call 90; refine hnum.out.mono ?_; rintro e w' ⟨rfl, rfl⟩) | (refine wl_setV rfl 58 _ _ rfl 61 (B + 1) (17 + j) rfl (.int .u16 y) rfl rfl rfl size16 _ hT (by rw [hlj]; omega) ?_; intro wF hF hgF hsF; rw [HST.out] at hF))
      go_roundw
      case rel => exact ⟨j + 1, by omega, by go_num, hF, hbx.trans hgF⟩
      case measure => simp [intOf] <;> omega
    · obtain rfl : j = 32 := by omega
      have es : shTo h x (yOf l) 32 = shareOf l := by rw [HH.out, HX.out]; rfl
      rw [es] at hT
      have hCSl : (shareOf l).cs.length = 49 := HOK.out.csl
      have hC1' := cs_one (shareOf l)
      have hpr := fun w => hid (ShareOctets_any (shareOf l) HOK.out w)
      obtain ⟨C, HC⟩ : ∃ C, Hid (C = (shareOf l).cs) := ⟨_, rfl⟩
      rw [← HC.out] at hT hCSl hpr hC1'
      have hRr := hRE.grown hbx (by intro e; have := Option.some.inj e; omega)
      have bbr : Below B w wr := bbE.trans (below_of_grown hbx (by omega) (by omega))
      have hsr := hbx.size
      cases hg : goodS (shareOf l)
      · have hv : parseV l = .tuple #[.agg Z.toArray, .int .i64 4] := by
          have e : parseE l = 4 := by rw [HE.out, hg]; rfl
          unfold parseV parseS; rw [e, HZ.out]; rfl
        have HV := hid hv
        have hpr' := fun (w : World) => hid ((hpr w).out.mono fun e w' (h : PrintPost (shareOf l) w e w') => (⟨h.1, by have := h.2; rw [hg] at this; exact this⟩ : Below w.heap.size w w' ∧ e = .returned (.tuple #[.slice none 0 0, .int .i64 4])))
        clear hpr hg hv
        go_wp2_with (first | (refine wl_load rfl 61 _ rfl ⟨B + 1, 0, none⟩ rfl C (by rw [hCSl]; exact aggS) hT.at0 ?_) | (go_at_call 42; refine (hpr' wr).out.mono ?_; rintro e w2 ⟨hb2, rfl⟩; have hR2 := hRr.below hb2 (by omega); have bb2 := bbr.trans (hb2.mono (by omega : B ≤ _)); clear hRr bbr hb2) | (refine wl_build0 rfl 61 rfl Z hbt.out ?_) | (refine wl_storeV rfl 61 _ _ rfl 61 B rfl Z rfl 49 aggS hZl Z hR2 hZl hZ1 ?_; intro w4 hR4 hb4 hs4))
        (try simp only [Exit.inBlock, Exit.then]); refine bodyPost_ret (results_cell2 rfl _ _ _ _ rfl Z (by rw [hZl]; exact aggS) hR4.at0) rfl ?_
        exact ⟨by rw [HV.out]; rfl, by first | exact bb2.trans hb4 | (rw [hsz]; exact bb2.trans hb4)⟩
      · have hv : parseV l = .tuple #[.agg C.toArray, .int .i64 0] := by
          have e : parseE l = 0 := by rw [HE.out, hg]; rfl
          unfold parseV parseS; rw [e, HC.out]; rfl
        have HV := hid hv
        have hpr' := fun (w : World) => hid ((hpr w).out.mono fun e w' (h : PrintPost (shareOf l) w e w') => (⟨h.1, by have := h.2; rw [hg] at this; obtain ⟨ao, c, h1, _⟩ := this; exact ⟨ao, c, h1⟩⟩ : Below w.heap.size w w' ∧ ∃ ao c, e = .returned (.tuple #[.slice ao 86 c, .int .i64 0])))
        clear hpr hg hv
        go_wp2_with (first | (refine wl_load rfl 61 _ rfl ⟨B + 1, 0, none⟩ rfl C (by rw [hCSl]; exact aggS) hT.at0 ?_) | (go_at_call 42; refine (hpr' wr).out.mono ?_; rintro e w2 ⟨hb2, ao2, c2, rfl⟩; have hR2 := hRr.below hb2 (by omega); have hT2 := hT.below hb2 (by omega); have bb2 := bbr.trans (hb2.mono (by omega : B ≤ _)); clear hRr bbr hb2) | (refine wl_load rfl 61 _ rfl ⟨B + 1, 0, none⟩ rfl C (by rw [hCSl]; exact aggS) hT2.at0 ?_) | (refine wl_storeV rfl 61 _ _ rfl 61 B rfl C rfl 49 aggS hCSl Z hR2 hZl hC1' ?_; intro w4 hR4 hb4 hs4))
        (try simp only [Exit.inBlock, Exit.then]); refine bodyPost_ret (results_cell2 rfl _ _ _ _ rfl C (by rw [hCSl]; exact aggS) hR4.at0) rfl ?_
        exact ⟨by rw [HV.out]; rfl, by first | exact bb2.trans hb4 | (rw [hsz]; exact bb2.trans hb4)⟩
theorem Read_any (ao : Option Addr) (cap n : Nat) (l : List Int) (w : World) (hn : n = l.length) (hP : Pt.Ok w ⟨ao, cap, l⟩) :
    Calls Try.prog 49 #[.slice ao n cap] w fun e w' => e = .returned (parseV l) ∧ Below w.heap.size w w' := by
  by_cases h1 : n < 86
  · exact Read_short ao cap n l w hn h1
  · by_cases h2 : l.take 4 = mag ∧ n ≤ 86
    · exact Read_full ao cap n l w hn hP (by omega) h2.1
    · exact Read_form ao cap n l w hn hP (by omega) h2
end Go.Proofs.Ytbljihhelladbaa.shr
namespace Go.Proofs.Ytbljihhelladbaa.wr
open Go.RowKit Go.Proofs.Ytbljihhelladbaa.st Go.Proofs.Ytbljihhelladbaa.hs Go.Proofs.Ytbljihhelladbaa.shr
set_option linter.unusedSimpArgs false
set_option linter.unusedVariables false
set_option pp.maxSteps 6000
/-- the name of a key -/
def nameL (k : List Int) : List Int := (sumL 10 k).take 16
theorem nameL_length (k : List Int) : (nameL k).length = 16 := by unfold nameL; rw [List.length_take, sumL_length]; decide
theorem nameL_octs (k : List Int) : Octs (nameL k) := fun c hc => sumL_octs _ _ c (List.mem_of_mem_take hc)
theorem zeroID : (Try.prog.info? 57).map (·.zero) = some (some (.agg ((List.replicate 16 (0 : Int)).map (Value.int .u8)).toArray)) := by kernel_rfl
theorem oct10 : Oct 10 := ⟨by decide, by decide⟩
theorem key_pt {w : World} {t : TypeId} {g : Nat} {K : List Value} {k : List Int} (hK : K = k.map (Value.int .u8)) (h : BlkV t w g K) (hk : k.length = 32) (ok : Octs k) : Pt.Ok w ⟨some ⟨g, 0, none⟩, 32, k⟩ := by
  subst hK
  exact ⟨BlkI.row h, by show k.length ≤ 32; omega, by show 32 ≤ maxLen; decide, ok, fun b e => by cases e; exact h.lt⟩
set_option maxRecDepth 100000 in
set_option maxHeartbeats 1000000 in
theorem NameOf_any (k : List Int) (hk : k.length = 32) (ok : Octs k) (w : World) :
    Calls Try.prog 174 #[.agg (k.map (Value.int .u8)).toArray] w fun e w' => e = .returned (.agg ((nameL k).map (Value.int .u8)).toArray) ∧ Below w.heap.size w w' := by
  obtain ⟨B, HB⟩ : ∃ B, Hid (B = w.heap.size) := ⟨_, rfl⟩
  have hsz : w.heap.size = B := HB.out.symm
  obtain ⟨K, HK⟩ : ∃ K, Hid (K = k.map (Value.int .u8)) := ⟨_, rfl⟩
  have hKl : K.length = 32 := by rw [HK.out, List.length_map, hk]
  obtain ⟨Y, HY⟩ : ∃ Z, Hid (Z = (List.replicate 16 (0 : Int)).map (Value.int .u8)) := ⟨_, rfl⟩
  have hz16 := hid zeroID
  rw [← HY.out] at hz16
  have hYl : Y.length = 16 := by rw [HY.out]; simp
  obtain ⟨Z, HZ⟩ : ∃ Z, Hid (Z = zSum) := ⟨_, rfl⟩
  have hz32 := hid zeroSumZ
  rw [← HZ.out] at hz32
  have hZl : Z.length = 32 := by rw [HZ.out]; simp [zSum]
  obtain ⟨S, HS⟩ : ∃ S : List Value, Hid (S = (sumL 10 k).map (Value.int .u8)) := ⟨_, rfl⟩
  have hSl : S.length = 32 := by rw [HS.out, List.length_map, sumL_length]
  have hS1 : ∀ u ∈ S, u.oneCell' = true := by rw [HS.out]; exact ints_one _ _
  obtain ⟨N, HN⟩ : ∃ S : List Value, Hid (S = (nameL k).map (Value.int .u8)) := ⟨_, rfl⟩
  have hNl : N.length = 16 := by rw [HN.out, List.length_map, nameL_length]
  have hN1 : ∀ u ∈ N, u.oneCell' = true := by rw [HN.out]; exact ints_one _ _
  have hal : Try.prog.arrayLen 23 = 32 := by kernel_rfl
  have halS : Try.prog.arrayLen 73 = 32 := by kernel_rfl
  have hAA := fun w a n cap h => run_arrayAtID w a n cap h
  have HKK := hid hk
  have hsum := fun (w0 w1 : World) (hB0 : BlkV 23 w0 B K) (hs0 : w0.heap.size = B + 1) (hb : Below (B + 1) w0 w1) (hs : w1.heap.size = B + 1 + 1) => hid (summed_in 10 oct10 (some ⟨B + 1 + 1, 0, none⟩) 1 1 [⟨some ⟨B, 0, none⟩, 32, k⟩] (w1.alloc (.cells #[.slice (some ⟨B, 0, none⟩) 32 32] 69)) rfl (by omega)
    (hs ▸ (one_part HKK.out.symm hb (by omega) hs0 (key_pt HK.out hB0 HKK.out ok) rfl).1) (one_part HKK.out.symm hb (by omega) hs0 (key_pt HK.out hB0 HKK.out ok) rfl).2 (by simp [cat]; rw [HKK.out]; omega))
  have ec : cat [(⟨some ⟨B, 0, none⟩, 32, k⟩ : Pt)] = k := by simp [cat]
  rw [ec, hk] at hsum
  have hend := fun p w => hid (sum_ok p 10 k 32 w oct10 hk.symm (by omega))
  rw [← HS.out] at hend
  rw [← HK.out, ← HN.out]
  clear hk
  go_enter Try.func174, Try.ntmps174
  go_wp2_with (first | (refine wl_boxV rfl 23 _ rfl K rfl B hsz ?_; intro w0 hB0 hb0 hs0) | (refine wl_allocV rfl 57 rfl Y hz16.out (B + 1) hs0 ?_; intro w1 hR1 hb1 hs1; have bb1 := hb0.trans (hb1.mono (by omega : B ≤ _)))  | (go_at_call 162; refine (hsum w0 w1 hB0 hs0 hb1 hs1).out.mono ?_; rintro e w2 ⟨hb2, rfl, hS2⟩; have ha : (w1.alloc (.cells #[.slice (some ⟨B, 0, none⟩) 32 32] 69)).heap.size = B + 3 := (by simp [hs1]); rw [ha] at hb2 hS2; rw [ha]; have hR2 := (hR1.alloc (.cells #[.slice (some ⟨B, 0, none⟩) 32 32] 69)).below hb2 (by omega); have bb2 : Below B w w2 := (bb1.alloc (by omega) _).trans (hb2.mono (by omega)); clear hb2 hR1 bb1 hsum hB0)  | (go_at_call 163; refine ((hend _ w2).out hS2).mono ?_; rintro e w3 ⟨rfl, hb3⟩; have hlt2 := hS2.lt; have hR3 := hR2.below hb3 (by omega); have bb3 := bb2.trans (hb3.mono (by omega : B ≤ _)); have hs3 := hb3.size; clear hR2 bb2 hb3 hS2)  | (refine wl_allocV rfl 73 rfl Z hz32.out w3.heap.size rfl ?_; intro w4 hE4 hb4 hs4; have hR4 := hR3.below hb4 (by omega); have bb4 := bb3.trans (hb4.mono (by omega : B ≤ _)); clear hR3 bb3 hb4)  | (refine wl_storeV rfl 73 _ _ rfl 73 w3.heap.size rfl S rfl 32 aggSumT hSl Z hE4 hZl hS1 ?_; intro w5 hE5 hb5 hs5; have hR5 := hR4.below hb5 (by omega); have bb5 := bb4.trans (hb5.mono (by omega : B ≤ _)); clear hR4 bb4 hb5 hE4)  | (refine wl_load rfl 57 _ rfl ⟨w3.heap.size, 0, none⟩ rfl N (by rw [hNl]; exact aggID) (hE5.at 0 _ fun j u hu => by rw [Nat.zero_add]; rw [HN.out, nameL, List.map_take, ← HS.out, List.getElem?_take] at hu; split at hu; exact hu; cases hu) ?_)  | (refine wl_storeV rfl 57 _ _ rfl 57 (B + 1) rfl N rfl 16 aggID hNl Y hR5 hYl hN1 ?_; intro w6 hR6 hb6 hs6))
  (try simp only [Exit.inBlock, Exit.then]); refine bodyPost_ret (results_cell rfl _ _ _ _ rfl N (by rw [hNl]; exact aggID) hR6.at0) rfl ?_
  exact ⟨rfl, by first | exact bb5.trans (hb6.mono (by omega)) | (rw [hsz]; exact bb5.trans (hb6.mono (by omega)))⟩
end Go.Proofs.Ytbljihhelladbaa.wr
