/-
  Shares read: Parse, ReadShare. Conditions: a slice of octets that lies in memory.
-/
import Derived.Test.YtbljihhelladbaaMkX
import Derived.Test.YtbljihhelladbaaEqS
import Derived.Test.YtbljihhelladbaaHld
import Derived.Deep.MidRow
/- Contract of share.Parse. Conditions: a slice of octets that lies in memory. -/
namespace Go.Proofs.Ytbljihhelladbaa.shr
open Go.RowKit Go.Proofs.Ytbljihhelladbaa.sh Go.Proofs.Ytbljihhelladbaa.st Go.Proofs.Ytbljihhelladbaa.hs
set_option linter.unusedSimpArgs false
set_option linter.unusedVariables false
set_option pp.maxSteps 6000

def mag : List Int := [75, 87, 83, 49]
def magS : ByteArray := strOfNums mag
theorem mag_octs : Octs mag := by
  intro c hc
  unfold mag at hc
  simp only [List.mem_cons, List.not_mem_nil, or_false] at hc
  rcases hc with rfl | rfl | rfl | rfl <;> exact ⟨by decide, by decide⟩
/-- the share that octets are; what reading gives -/
def yOf (l : List Int) (o : Nat) : Int := 256 * l.getD (22 + 2 * o) 0 + l.getD (23 + 2 * o) 0
def xOf (l : List Int) : Int := 256 * l.getD 20 0 + l.getD 21 0
def shareOf (l : List Int) : Sh := shTo ((l.drop 4).take 16) (xOf l) (yOf l) 32
def parseE (l : List Int) : Int := if l.length < 86 then 1 else if l.take 4 = mag ∧ l.length ≤ 86 then (if goodS (shareOf l) = true then 0 else 4) else 2
def parseS (l : List Int) : Sh := if parseE l = 0 then shareOf l else sh0
def parseV (l : List Int) : Value := .tuple #[.agg (parseS l).cs.toArray, .int .i64 (parseE l)]
theorem yOf_b {l : List Int} (h : Octs l) (o : Nat) : 0 ≤ yOf l o ∧ yOf l o ≤ 65535 := by
  have h1 := h.getD (22 + 2 * o)
  have h2 := h.getD (23 + 2 * o)
  unfold Oct at h1 h2
  unfold yOf; omega
theorem xOf_b {l : List Int} (h : Octs l) : 0 ≤ xOf l ∧ xOf l ≤ 65535 := by
  have h1 := h.getD 20
  have h2 := h.getD 21
  unfold Oct at h1 h2
  unfold xOf; omega
theorem holdOf_length {l : List Int} (hl : l.length = 86) : ((l.drop 4).take 16).length = 16 := by rw [List.length_take, List.length_drop, hl]; decide
theorem holdOf_b {l : List Int} (h : Octs l) : ∀ c ∈ (l.drop 4).take 16, 0 ≤ c ∧ c ≤ 255 := fun c hc => h c (List.mem_of_mem_drop (List.mem_of_mem_take hc))
theorem shareOf_ok {l : List Int} (hl : l.length = 86) (h : Octs l) : (shareOf l).Ok :=
  shTo_ok (holdOf_length hl) (holdOf_b h) (by have := xOf_b h; omega) (yOf_b h) (by decide)
theorem sh0_ok : sh0.Ok := ⟨rfl, rfl, by intro c hc; rw [(List.mem_replicate.1 hc).2]; decide, by intro c hc; rw [(List.mem_replicate.1 hc).2]; decide, by decide⟩
theorem parseS_ok {l : List Int} (h : Octs l) : (parseS l).Ok := by
  unfold parseS
  by_cases e : parseE l = 0
  · rw [if_pos e]
    refine shareOf_ok ?_ h
    unfold parseE at e
    by_cases h1 : l.length < 86
    · rw [if_pos h1] at e; omega
    · rw [if_neg h1] at e
      by_cases h2 : l.take 4 = mag ∧ l.length ≤ 86
      · omega
      · rw [if_neg h2] at e; omega
  · rw [if_neg e]; exact sh0_ok
theorem built_sh0 : Try.prog.built 61 [] = some sh0.cs.toArray := by kernel_rfl
theorem or16 (a c : Int) (ha : 0 ≤ a ∧ a ≤ 255) (hc : 0 ≤ c ∧ c ≤ 255) : bits .or .u16 (a * 256) c = 256 * a + c := by
  have key : ∀ x y : Nat, x < 256 → y < 256 → x * 256 ||| y = x * 256 + y := by
    intro x y hx hy
    have h := Nat.two_pow_add_eq_or_of_lt (i := 8) (b := y) (by omega) x
    rw [show x * 256 = 2 ^ 8 * x by omega]
    exact h.symm
  obtain ⟨x, rfl⟩ : ∃ x : Nat, a = x := ⟨a.toNat, by omega⟩
  obtain ⟨y, rfl⟩ : ∃ y : Nat, c = y := ⟨c.toNat, by omega⟩
  have h := key x y (by omega) (by omega)
  have e : (x : Int) * 256 = ((x * 256 : Nat) : Int) := by omega
  rw [e, u16_or_nat _ _ (by omega) (by omega), h]
  omega
theorem run_arrayAtID (w : World) (a : Addr) (n cap : Nat) (hn : 16 ≤ n) : (Instr.arrayAt 57 (.slice (some a) n cap)).run Try.prog w = .ok (.pointer (some a)) w := by
  have h1 : ¬ n < 16 := by omega
  simp [Instr.arrayAt, run_underlying Try.underlying57, Result.andThen, h1]

set_option maxRecDepth 100000 in
set_option maxHeartbeats 1000000 in
theorem Parse_short (ao : Option Addr) (cap n : Nat) (l : List Int) (w : World) (hn : n = l.length) (hl : n < 86) :
    Calls Try.prog 45 #[.slice ao n cap] w fun e w' => e = .returned (parseV l) ∧ Below w.heap.size w w' := by
  obtain ⟨B, HB⟩ : ∃ B, Hid (B = w.heap.size) := ⟨_, rfl⟩
  have hsz : w.heap.size = B := HB.out.symm
  have hz := hid sh0_zero
  have hbt := hid built_sh0
  obtain ⟨Z, HZ⟩ : ∃ Z, Hid (Z = sh0.cs) := ⟨_, rfl⟩
  have hZl : Z.length = 49 := by rw [HZ.out]; exact sh0_len
  have hZ1 : ∀ u ∈ Z, u.oneCell' = true := by rw [HZ.out]; exact cs_one sh0
  rw [← HZ.out] at hz hbt
  have HN := hid hn
  have HV : Hid (parseV l = .tuple #[.agg Z.toArray, .int .i64 1]) := by
    show _ = _
    have e : parseE l = 1 := by unfold parseE; rw [if_pos (by omega)]
    unfold parseV parseS; rw [e, HZ.out]; rfl
  rw [HV.out]
  have hI : (n : Int) < 86 := by omega
  clear hn
  go_enter Try.func45, Try.ntmps45
  go_wp2_with (first | (refine wl_allocV rfl 61 rfl Z hz.out B hsz ?_; intro w1 hR1 hb1 hs1) | (refine wl_build0 rfl 61 rfl Z hbt.out ?_) | (refine wl_storeV rfl 61 _ _ rfl 61 B rfl Z rfl 49 aggS hZl Z hR1 hZl hZ1 ?_; intro w2 hR2 hb2 hs2))
  (try simp only [Exit.inBlock, Exit.then]); refine bodyPost_ret (results_cell2 rfl _ _ _ _ rfl Z (by rw [hZl]; exact aggS) hR2.at0) rfl ?_
  exact ⟨rfl, by rw [← HB.out]; exact hb1.trans hb2⟩

set_option maxRecDepth 100000 in
set_option maxHeartbeats 1000000 in
theorem Parse_form (ao : Option Addr) (cap n : Nat) (l : List Int) (w : World) (hn : n = l.length) (hP : Pt.Ok w ⟨ao, cap, l⟩) (hl : 86 ≤ n) (hf : ¬ (l.take 4 = mag ∧ n ≤ 86)) :
    Calls Try.prog 45 #[.slice ao n cap] w fun e w' => e = .returned (parseV l) ∧ Below w.heap.size w w' := by
  obtain ⟨B, HB⟩ : ∃ B, Hid (B = w.heap.size) := ⟨_, rfl⟩
  have hsz : w.heap.size = B := HB.out.symm
  have hz := hid sh0_zero
  have hbt := hid built_sh0
  obtain ⟨Z, HZ⟩ : ∃ Z, Hid (Z = sh0.cs) := ⟨_, rfl⟩
  have hZl : Z.length = 49 := by rw [HZ.out]; exact sh0_len
  have hZ1 : ∀ u ∈ Z, u.oneCell' = true := by rw [HZ.out]; exact cs_one sh0
  rw [← HZ.out] at hz hbt
  have HN := hid hn
  have HP := hid hP
  have HV : Hid (parseV l = .tuple #[.agg Z.toArray, .int .i64 2]) := by
    show _ = _
    have e : parseE l = 2 := by unfold parseE; rw [if_neg (by omega), if_neg (by rw [← hn]; exact hf)]
    unfold parseV parseS; rw [e, HZ.out]; rfl
  rw [HV.out]
  have hI : ¬ (n : Int) < 86 := by omega
  have hI2 : (86 : Int) ≤ (n : Int) := by omega
  obtain ⟨b, off, rfl, hb, hc⟩ := hP.row.at (i := 0) (by show 0 < l.length; omega)
  have h4 : 4 ≤ n := by omega
  have hcap : n ≤ cap := by rw [hn]; exact hP.len
  have h4c : 4 ≤ cap := by omega
  have h4I : (4 : Int) ≤ (cap : Int) := by omega
  obtain ⟨S, HS⟩ : ∃ S, Hid (S = strOfNums (l.take 4)) := ⟨_, rfl⟩
  have ho4 : Octs (l.take 4) := fun c hc => hP.oct c (List.mem_of_mem_take hc)
  have hlen4 : 4 = (l.take 4).length := by rw [List.length_take]; omega
  have hkS := fun w1 (hb1 : Below B w w1) => hid (run_convStr w1 (some ⟨b, off, none⟩) 4 cap (l.take 4) hlen4 (RowI.takeS (hP.row.below (hsz ▸ hb1)) 4))
  rw [← HS.out] at hkS
  have hor : ¬ (S = magS) ∨ S = magS ∧ 86 < n := by
    by_cases e : S = magS
    · refine Or.inr ⟨e, ?_⟩
      have e2 : l.take 4 = mag := str_inj ho4 mag_octs (by rw [← HS.out]; exact e)
      exact Nat.lt_of_not_le fun h => hf ⟨e2, h⟩
    · exact Or.inl e
  clear hn hP hf hlen4
  rcases hor with hne | ⟨rfl, hgt⟩
  · have hne' : ¬ S.toList = [75, 87, 83, 49] := by
      intro e
      have h1 := str_ne hne
      rw [beq_eq_false_iff_ne] at h1
      exact h1 (e.trans (by rw [toList_eq]; rfl))
    go_enter Try.func45, Try.ntmps45
    go_wp2_with (first | (refine wl_allocV rfl 61 rfl Z hz.out B hsz ?_; intro w1 hR1 hb1 hs1; have kS := (hkS w1 hb1).out) | (refine wl_build0 rfl 61 rfl Z hbt.out ?_) | (refine wl_storeV rfl 61 _ _ rfl 61 B rfl Z rfl 49 aggS hZl Z hR1 hZl hZ1 ?_; intro w2 hR2 hb2 hs2))
    (try simp only [Exit.inBlock, Exit.then]); refine bodyPost_ret (results_cell2 rfl _ _ _ _ rfl Z (by rw [hZl]; exact aggS) hR2.at0) rfl ?_
    exact ⟨rfl, by first | exact hb1.trans hb2 | (rw [hsz]; exact hb1.trans hb2)⟩
  · have hgI : (86 : Int) < (n : Int) := by omega
    have ems : magS = ⟨#[75, 87, 83, 49]⟩ := rfl
    rw [ems] at hkS
    go_enter Try.func45, Try.ntmps45
    go_wp2_with (first | (refine wl_allocV rfl 61 rfl Z hz.out B hsz ?_; intro w1 hR1 hb1 hs1; have kS := (hkS w1 hb1).out) | (refine wl_build0 rfl 61 rfl Z hbt.out ?_) | (refine wl_storeV rfl 61 _ _ rfl 61 B rfl Z rfl 49 aggS hZl Z hR1 hZl hZ1 ?_; intro w2 hR2 hb2 hs2))
    (try simp only [Exit.inBlock, Exit.then]); refine bodyPost_ret (results_cell2 rfl _ _ _ _ rfl Z (by rw [hZl]; exact aggS) hR2.at0) rfl ?_
    exact ⟨rfl, by first | exact hb1.trans hb2 | (rw [hsz]; exact hb1.trans hb2)⟩

set_option maxRecDepth 100000 in
set_option maxHeartbeats 2000000 in
theorem Parse_full (ao : Option Addr) (cap n : Nat) (l : List Int) (w : World) (hn : n = l.length) (hP : Pt.Ok w ⟨ao, cap, l⟩) (hl : n = 86) (hf : l.take 4 = mag) :
    Calls Try.prog 45 #[.slice ao n cap] w fun e w' => e = .returned (parseV l) ∧ Below w.heap.size w w' := by
  obtain ⟨B, HB⟩ : ∃ B, Hid (B = w.heap.size) := ⟨_, rfl⟩
  have hsz : w.heap.size = B := HB.out.symm
  have hz := hid sh0_zero
  have hbt := hid built_sh0
  obtain ⟨Z, HZ⟩ : ∃ Z, Hid (Z = sh0.cs) := ⟨_, rfl⟩
  have hZl : Z.length = 49 := by rw [HZ.out]; exact sh0_len
  have hZ1 : ∀ u ∈ Z, u.oneCell' = true := by rw [HZ.out]; exact cs_one sh0
  rw [← HZ.out] at hz hbt
  have HN := hid hn
  have HP := hid hP
  have hl86 : l.length = 86 := by rw [← hn]; exact hl
  subst hl
  have hE : parseE l = if goodS (shareOf l) = true then 0 else 4 := by unfold parseE; rw [if_neg (by omega), if_pos ⟨hf, by omega⟩]
  have HE := hid hE
  have hok := shareOf_ok hl86 hP.oct
  have HOK := hid hok
  have hxb := xOf_b hP.oct
  have hyb := hid (yOf_b hP.oct)
  obtain ⟨b, off, rfl, hb, hc⟩ := hP.row.at (i := 0) (by show 0 < l.length; omega)
  have hcap : 86 ≤ cap := by rw [hn]; exact hP.len
  have h4c : 4 ≤ cap := by omega
  have h4I : (4 : Int) ≤ (cap : Int) := by omega
  have h20I : (20 : Int) ≤ (cap : Int) := by omega
  have hc4 : ¬ cap = 4 := by omega
  obtain ⟨S, HS⟩ : ∃ S, Hid (S = strOfNums (l.take 4)) := ⟨_, rfl⟩
  have hlen4 : 4 = (l.take 4).length := by rw [List.length_take]; omega
  have hkS := fun w1 (hb1 : Below B w w1) => hid (run_convStr w1 (some ⟨b, off, none⟩) 4 cap (l.take 4) hlen4 (RowI.takeS (hP.row.below (hsz ▸ hb1)) 4))
  have ems : strOfNums (l.take 4) = ⟨#[75, 87, 83, 49]⟩ := by rw [hf]; rfl
  rw [ems] at hkS
  have hbB : b < B := by rw [HB.out]; exact hb
  have hcI : ∀ i, i < 86 → w.cell? ⟨b, off + i, none⟩ = some (.int .u8 (l.getD i 0)) := fun i hi => hc i (by show i < l.length; omega)
  have HCI := hid hcI
  have hob := hid (fun i => hP.oct.getD i)
  obtain ⟨h, HH⟩ : ∃ h : List Int, Hid (h = (l.drop 4).take 16) := ⟨_, rfl⟩
  have hhl : h.length = 16 := by rw [HH.out]; exact holdOf_length hl86
  have hhb : ∀ c ∈ h, 0 ≤ c ∧ c ≤ 255 := by rw [HH.out]; exact holdOf_b hP.oct
  obtain ⟨SH, HSH⟩ : ∃ V, Hid (V = h.map (Value.int .u8)) := ⟨_, rfl⟩
  have HSHL : Hid (SH.length = 16) := by show _ = _; rw [HSH.out, List.length_map]; exact hhl
  obtain ⟨x, HX⟩ : ∃ x : Int, Hid (x = xOf l) := ⟨_, rfl⟩
  rw [← HX.out] at hxb
  have HBT : Hid (Try.prog.built 61 [(0, .agg SH.toArray), (1, .int .i64 x)] = some (shTo h x (yOf l) 0).cs.toArray) := by rw [HSH.out]; exact built_sh hhl x _
  have HTL := hid ((shTo_ok (x := x) (V := yOf l) (k := 0) hhl hhb (by omega) hyb.out (by omega)).csl)
  have hT1 := cs_one (shTo h x (yOf l) 0)
  obtain ⟨y20, H20⟩ : ∃ y, Hid (y = l.getD 20 0) := ⟨_, rfl⟩
  obtain ⟨y21, H21⟩ : ∃ y, Hid (y = l.getD 21 0) := ⟨_, rfl⟩
  have hy20 : 0 ≤ y20 ∧ y20 ≤ 255 := by rw [H20.out]; exact hob.out 20
  have hy21 : 0 ≤ y21 ∧ y21 ≤ 255 := by rw [H21.out]; exact hob.out 21
  have hx2 : x = 256 * y20 + y21 := by rw [HX.out, H20.out, H21.out]; rfl
  have hm1 : IntKind.i64.wrap (256 * y20) = 256 * y20 := IntWalk.i64_in _ (by omega)
  have hm2 : IntKind.i64.wrap (256 * y20 + y21) = x := by rw [IntWalk.i64_in _ (by omega)]; exact hx2.symm
  have hm0 : IntKind.i64.wrap y20 = y20 := IntWalk.i64_in _ (by omega)
  have hm3 : IntKind.i64.wrap y21 = y21 := IntWalk.i64_in _ (by omega)
  have HX2 := hid hx2
  have hu57 := Try.underlying57
  have hi57 : (Try.prog.info? 57).map (·.size) = some SH.length := by rw [HSHL.out]; exact aggID.2
  have hAA := fun w a n cap h => run_arrayAtID w a n cap h
  have hSHc : ∀ (w' : World), (∀ i, i < 86 → w'.cell? ⟨b, off + i, none⟩ = some (.int .u8 (l.getD i 0))) → w'.rangeAt b (off + 4) SH := by
    intro w' hw' j v hv
    have hj : j < 16 := by have := (List.getElem?_eq_some_iff.1 hv).1; rw [HSHL.out] at this; exact this
    rw [Nat.add_assoc, hw' (4 + j) (by omega), ← hv, HSH.out, HH.out, List.getElem?_map, List.getElem?_take, if_pos hj, List.getElem?_drop, List.getElem?_eq_getElem (by omega), getD_lt' l 0 (by omega)]
    rfl
  have HSHC := hid hSHc
  clear hn hP hf hlen4 hx2 hE hok hc hcI hSHc ems
  go_enter Try.func45, Try.ntmps45
  go_wp2_with (first | (refine wl_allocV rfl 61 rfl Z hz.out B hsz ?_; intro w1 hR1 hb1 hs1; have kS := (hkS w1 hb1).out))
  have hC1 : ∀ i, i < 86 → w1.cell? ⟨b, off + i, none⟩ = some (.int .u8 (l.getD i 0)) := fun i hi => (hb1.cell (p := ⟨b, off + i, none⟩) hbB).trans (HCI.out i hi)
  have aH0 : w1.drew.rangeAt b (off + 4) SH := HSHC.out w1.drew hC1
  have c20 : w1.drew.cell? ⟨b, off + 20, none⟩ = some (.int .u8 y20) := by rw [H20.out]; exact hC1 20 (by omega)
  have c21 : w1.drew.cell? ⟨b, off + 21, none⟩ = some (.int .u8 y21) := by rw [H21.out]; exact hC1 21 (by omega)
  clear kS hkS
  refine wp_region_held_drew (S := (fun w' => w'.rangeAt b (off + 4) SH ∧ w'.cell? ⟨b, off + 20, none⟩ = some (.int .u8 y20) ∧ w'.cell? ⟨b, off + 21, none⟩ = some (.int .u8 y21))) (by kernel_rfl) ⟨aH0, c20, c21⟩ (fun hHeld => ?_)
  refine take_l (i := 0) (v := ?v0) rfl (by kernel_rfl) (by kernel_rfl) (by kernel_rfl) (fun _ _ _ h => h) (Or.inl ⟨by rfl, ?hy0⟩) (by assumption) ?rest0
  case hy0 => (intro w hSw; (try dsimp only at hSw); go_simp; (try with_reducible rfl))
  try simp only [Act.put, List.setIfInBounds_toArray, List.set_cons_zero, List.set_cons_succ]
  refine take_l (i := 1) (v := ?v1) rfl (by kernel_rfl) (by kernel_rfl) (by kernel_rfl) (fun _ _ _ h => h) (Or.inl ⟨by rfl, ?hy1⟩) (by assumption) ?rest1
  case hy1 => (intro w hSw; (try dsimp only at hSw); go_simp; (try with_reducible rfl))
  try simp only [Act.put, List.setIfInBounds_toArray, List.set_cons_zero, List.set_cons_succ]
  refine take_l (i := 2) (v := ?v2) rfl (by kernel_rfl) (by kernel_rfl) (by kernel_rfl) (fun _ _ _ h => h) (Or.inl ⟨by rfl, ?hy2⟩) (by assumption) ?rest2
  case hy2 => (intro w hSw; (try dsimp only at hSw); go_simp; (try with_reducible rfl))
  try simp only [Act.put, List.setIfInBounds_toArray, List.set_cons_zero, List.set_cons_succ]
  refine take_l (i := 3) (v := _) rfl (by kernel_rfl) (by kernel_rfl) (by kernel_rfl) (fun _ _ _ h => h) (yieldsIf_load_mid (by rfl) 57 _ rfl b (off + 4) rfl SH _ (fun w hS => hS.1) hu57 rfl hi57) (by assumption) ?_
  try simp only [Act.put, List.setIfInBounds_toArray, List.set_cons_zero, List.set_cons_succ]
  refine take_l (i := 4) (v := ?v4) rfl (by kernel_rfl) (by kernel_rfl) (by kernel_rfl) (fun _ _ _ h => h) (Or.inl ⟨by rfl, ?hy4⟩) (by assumption) ?rest4
  case hy4 => (intro w hSw; (try dsimp only at hSw); go_simp; (try with_reducible rfl))
  try simp only [Act.put, List.setIfInBounds_toArray, List.set_cons_zero, List.set_cons_succ]
  refine take_l (i := 5) (v := ?v5) rfl (by kernel_rfl) (by kernel_rfl) (by kernel_rfl) (fun _ _ _ h => h) (Or.inl ⟨by rfl, ?hy5⟩) (by assumption) ?rest5
  case hy5 => (intro w hSw; (try dsimp only at hSw); go_simp; (try with_reducible rfl))
  try simp only [Act.put, List.setIfInBounds_toArray, List.set_cons_zero, List.set_cons_succ]
  refine take_l (i := 6) (v := ?v6) rfl (by kernel_rfl) (by kernel_rfl) (by kernel_rfl) (fun _ _ _ h => h) (Or.inl ⟨by rfl, ?hy6⟩) (by assumption) ?rest6
  case hy6 => (intro w hSw; (try dsimp only at hSw); go_simp; (try with_reducible rfl))
  try simp only [Act.put, List.setIfInBounds_toArray, List.set_cons_zero, List.set_cons_succ]
  refine take_l (i := 7) (v := ?v7) rfl (by kernel_rfl) (by kernel_rfl) (by kernel_rfl) (fun _ _ _ h => h) (Or.inl ⟨by rfl, ?hy7⟩) (by assumption) ?rest7
  case hy7 => (intro w hSw; (try dsimp only at hSw); go_simp; (try with_reducible rfl))
  try simp only [Act.put, List.setIfInBounds_toArray, List.set_cons_zero, List.set_cons_succ]
  refine take_l (i := 8) (v := ?v8) rfl (by kernel_rfl) (by kernel_rfl) (by kernel_rfl) (fun _ _ _ h => h) (Or.inl ⟨by rfl, ?hy8⟩) (by assumption) ?rest8
  case hy8 => (intro w hSw; (try dsimp only at hSw); go_simp; (try with_reducible rfl))
  try simp only [Act.put, List.setIfInBounds_toArray, List.set_cons_zero, List.set_cons_succ]
  refine take_l (i := 9) (v := ?v9) rfl (by kernel_rfl) (by kernel_rfl) (by kernel_rfl) (fun _ _ _ h => h) (Or.inl ⟨by rfl, ?hy9⟩) (by assumption) ?rest9
  case hy9 => (intro w hSw; (try dsimp only at hSw); go_simp; (try with_reducible rfl))
  try simp only [Act.put, List.setIfInBounds_toArray, List.set_cons_zero, List.set_cons_succ]
  refine take_l (i := 10) (v := ?v10) rfl (by kernel_rfl) (by kernel_rfl) (by kernel_rfl) (fun _ _ _ h => h) (Or.inl ⟨by rfl, ?hy10⟩) (by assumption) ?rest10
  case hy10 => (intro w hSw; (try dsimp only at hSw); go_simp; (try with_reducible rfl))
  try simp only [Act.put, List.setIfInBounds_toArray, List.set_cons_zero, List.set_cons_succ]
  refine take_l (i := 11) (v := ?v11) rfl (by kernel_rfl) (by kernel_rfl) (by kernel_rfl) (fun _ _ _ h => h) (Or.inl ⟨by rfl, ?hy11⟩) (by assumption) ?rest11
  case hy11 => (intro w hSw; (try dsimp only at hSw); go_simp; (try with_reducible rfl))
  try simp only [Act.put, List.setIfInBounds_toArray, List.set_cons_zero, List.set_cons_succ]
  refine take_l (i := 12) (v := ?v12) rfl (by kernel_rfl) (by kernel_rfl) (by kernel_rfl) (fun _ _ _ h => h) (Or.inl ⟨by rfl, ?hy12⟩) (by assumption) ?rest12
  case hy12 => (intro w hSw; (try dsimp only at hSw); go_simp; (try with_reducible rfl))
  try simp only [Act.put, List.setIfInBounds_toArray, List.set_cons_zero, List.set_cons_succ]
  refine take_l (i := 13) (v := ?v13) rfl (by kernel_rfl) (by kernel_rfl) (by kernel_rfl) (fun _ _ _ h => h) (Or.inl ⟨by rfl, ?hy13⟩) (by assumption) ?rest13
  case hy13 => (intro w hSw; (try dsimp only at hSw); go_simp; (try with_reducible rfl))
  try simp only [Act.put, List.setIfInBounds_toArray, List.set_cons_zero, List.set_cons_succ]
  refine take_l (i := 14) (v := _) rfl (by kernel_rfl) (by kernel_rfl) (by kernel_rfl) (fun _ _ _ h => h) (yieldsIf_build2 (by rfl) 61 0 1 _ _ rfl (.agg SH.toArray) (.int .i64 x) rfl rfl (shTo h x (yOf l) 0).cs HBT.out) (by assumption) ?_
  try simp only [Act.put, List.setIfInBounds_toArray, List.set_cons_zero, List.set_cons_succ]
  refine wpAnyH_ready (rs := [15]) (by kernel_rfl) (by simp) (cons_l rfl (fun K hK => ?_) AllReadyH.nil)
  refine step_allocV (by rfl) 61 (by rfl) sh0.cs sh0_zero (B + 1) hs1 ?_
  intro wA hA hbA hsA
  have hbB1 : b < B + 1 := by omega
  have aH1 : wA.rangeAt b (off + 4) SH := (fun j v hv => (hbA.cell (p := ⟨b, off + 4 + j, none⟩) hbB1).trans (aH0 j v hv))
  have c201 := (hbA.cell (p := ⟨b, off + 20, none⟩) hbB1).trans c20
  have c211 := (hbA.cell (p := ⟨b, off + 21, none⟩) hbB1).trans c21
  refine hK.out _ _ ⟨aH1, c201, c211⟩ (fun hHeld => ?_)
  clear hK K
  try simp only [Act.put, List.setIfInBounds_toArray, List.set_cons_zero, List.set_cons_succ]
  refine wpAnyH_ready (rs := [16]) (by kernel_rfl) (by simp) (cons_l rfl (fun K hK => ?_) AllReadyH.nil)
  refine step_storeV (by rfl) 61 _ _ (by rfl) 61 (B + 1) (by rfl) (shTo h x (yOf l) 0).cs (by rfl) 49 aggS HTL.out sh0.cs hA sh0_len hT1 ?_
  intro wE hE hbE hsE
  have aH2 : wE.rangeAt b (off + 4) SH := (fun j v hv => (hbE.cell (p := ⟨b, off + 4 + j, none⟩) hbB1).trans (aH1 j v hv))
  have c202 := (hbE.cell (p := ⟨b, off + 20, none⟩) hbB1).trans c201
  have c212 := (hbE.cell (p := ⟨b, off + 21, none⟩) hbB1).trans c211
  refine hK.out _ _ ⟨aH2, c202, c212⟩ (fun hHeld => ?_)
  clear hK K
  try simp only [Act.put, List.setIfInBounds_toArray, List.set_cons_zero, List.set_cons_succ]
  refine wpAnyH_done (by kernel_rfl) ?_ _
  have hb1E : Below (B + 1) w1 wE := ((Below.refl (B + 1) w1).drew).trans (hbA.trans hbE)
  have hsE' : wE.heap.size = B + 2 := by rw [hsE]; exact hsA
  have hRE := hR1.below hb1E (by omega)
  have bbE : Below B w wE := hb1.trans (hb1E.mono (by omega))
  have hCE : ∀ i, i < 86 → wE.cell? ⟨b, off + i, none⟩ = some (.int .u8 (l.getD i 0)) := fun i hi => (hb1E.cell (p := ⟨b, off + i, none⟩) hbB1).trans (hC1 i hi)
  have HCE := hid hCE
  clear hA hbA hsA hbE hsE aH0 aH1 aH2 c20 c21 c201 c211 c202 c212 hHeld hu57 hi57 hb1E hR1 hb1 hC1 hCE
  go_wp2_with fail
  go_loopw [38] (fun i wx => ∃ j : Nat, j ≤ 32 ∧ i = .int .i64 j ∧ BlkV 61 wx (B + 1) (shTo h x (yOf l) j).cs ∧ Below (B + 1) wE wx) (fun i _ => 32 - (intOf i).toNat)
  case atStart => exact ⟨0, by omega, rfl, hE, Below.refl _ _⟩
  case round =>
    clear hE
    obtain ⟨j, hj, rfl, hT, hbx⟩ := hrel
    by_cases h1 : j < 32
    · have hjI : (j : Int) < 32 := by omega
      have hjI0 : (0 : Int) ≤ (j : Int) := by omega
      obtain ⟨p2, HP2⟩ : ∃ p : Nat, Hid (p = 2 * j) := ⟨_, rfl⟩
      obtain ⟨p, HPP⟩ : ∃ p : Nat, Hid (p = 22 + 2 * j) := ⟨_, rfl⟩
      obtain ⟨q, HQQ⟩ : ∃ p : Nat, Hid (p = 23 + 2 * j) := ⟨_, rfl⟩
      have e1 : (2 : Int) * (j : Int) = (p2 : Int) := by rw [HP2.out]; omega
      have e2 : (22 : Int) + (p2 : Int) = (p : Int) := by rw [HP2.out, HPP.out]; omega
      have e3 : (p : Int) + 1 = (q : Int) := by rw [HPP.out, HQQ.out]; omega
      have hpb : p < 86 := by rw [HPP.out]; omega
      have hqb : q < 86 := by rw [HQQ.out]; omega
      have hp2b : p2 < 86 := by rw [HP2.out]; omega
      have hpI : (p : Int) < 86 := by omega
      have hqI : (q : Int) < 86 := by omega
      have hp0 : (0 : Int) ≤ (p : Int) := by omega
      have hq0 : (0 : Int) ≤ (q : Int) := by omega
      have hw1 : IntKind.i64.wrap (p2 : Int) = (p2 : Int) := IntWalk.i64_in _ (by omega)
      have hw2 : IntKind.i64.wrap (p : Int) = (p : Int) := IntWalk.i64_in _ (by omega)
      have hw3 : IntKind.i64.wrap (q : Int) = (q : Int) := IntWalk.i64_in _ (by omega)
      obtain ⟨a, Ha⟩ : ∃ a, Hid (a = l.getD p 0) := ⟨_, rfl⟩
      obtain ⟨c, Hc⟩ : ∃ c, Hid (c = l.getD q 0) := ⟨_, rfl⟩
      have hab : 0 ≤ a ∧ a ≤ 255 := by rw [Ha.out]; exact hob.out p
      have hcb : 0 ≤ c ∧ c ≤ 255 := by rw [Hc.out]; exact hob.out q
      have cA := (hbx.cell (p := ⟨b, off + p, none⟩) hbB1).trans (HCE.out p hpb)
      have cC := (hbx.cell (p := ⟨b, off + q, none⟩) hbB1).trans (HCE.out q hqb)
      rw [← Ha.out] at cA
      rw [← Hc.out] at cC
      have hw4 : IntKind.u16.wrap a = a := IntWalk.u16_in _ (by omega)
      have hw5 : IntKind.u16.wrap c = c := IntWalk.u16_in _ (by omega)
      have hw6 : IntKind.u16.wrap (a * 256) = a * 256 := IntWalk.u16_in _ (by omega)
      have hor := or16 a c hab hcb
      obtain ⟨y, Hy⟩ : ∃ y, Hid (y = 256 * a + c) := ⟨_, rfl⟩
      have Hyy : Hid (yOf l j = y) := by show _ = _; rw [Hy.out, Ha.out, Hc.out, HPP.out, HQQ.out]; rfl
      rw [← Hy.out] at hor
      have cT := hT.cell (17 + j)
      rw [shTo_get x (yOf l) hhl hj h1] at cT
      have fT := hT.frozen (17 + j)
      go_wp2_with fail
      refine wp_region_still_tail 16 (by kernel_rfl) (by kernel_rfl) ?_
      simp only [List.take_succ_cons, List.take_zero, List.drop_succ_cons, List.drop_zero]
      change wpStill _ _ wr.drew (fun a' => wpList _ _ _ _ a' wr.drew) _ _
      repeat still_step
      refine wpStill_nil ?_
      go_wp2
      go_roundw
      case rel => exact ⟨j + 1, by omega, by go_num, by rw [← shTo_set x (yOf l) hhl h1, Hyy.out]; exact (hT.drew).set (17 + j) _, (hbx.drew).setCell (by simp) _⟩
      case measure => simp [intOf] <;> omega
    · obtain rfl : j = 32 := by omega
      have es : shTo h x (yOf l) 32 = shareOf l := by rw [HH.out, HX.out]; rfl
      rw [es] at hT
      have hCSl : (shareOf l).cs.length = 49 := HOK.out.csl
      have hC1' := cs_one (shareOf l)
      have hpr := fun w => hid (Print_any (shareOf l) HOK.out w)
      obtain ⟨C, HC⟩ : ∃ C, Hid (C = (shareOf l).cs) := ⟨_, rfl⟩
      rw [← HC.out] at hT hCSl hpr hC1'
      have hRr := hRE.below hbx (by omega)
      have bbr : Below B w wr := bbE.trans (hbx.mono (by omega))
      have hsr := hbx.size
      cases hg : goodS (shareOf l)
      · have hv : parseV l = .tuple #[.agg Z.toArray, .int .i64 4] := by
          have e : parseE l = 4 := by rw [HE.out, hg]; rfl
          unfold parseV parseS; rw [e, HZ.out]; rfl
        have HV := hid hv
        have hpr' := fun (w : World) => hid ((hpr w).out.mono fun e w' (h : PrintPost (shareOf l) w e w') => (⟨h.1, by have := h.2; rw [hg] at this; exact this⟩ : Below w.heap.size w w' ∧ e = .returned (.tuple #[.slice none 0 0, .int .i64 4])))
        clear hpr hg hv
        go_wp2_with (first | (refine wl_load rfl 61 _ rfl ⟨B + 1, 0, none⟩ rfl C (by rw [hCSl]; exact aggS) hT.at0 ?_) | (go_at_call 41; refine (hpr' wr).out.mono ?_; rintro e w2 ⟨hb2, rfl⟩; have hR2 := hRr.below hb2 (by omega); have bb2 := bbr.trans (hb2.mono (by omega : B ≤ _)); clear hRr bbr hb2) | (refine wl_build0 rfl 61 rfl Z hbt.out ?_) | (refine wl_storeV rfl 61 _ _ rfl 61 B rfl Z rfl 49 aggS hZl Z hR2 hZl hZ1 ?_; intro w4 hR4 hb4 hs4))
        (try simp only [Exit.inBlock, Exit.then]); refine bodyPost_ret (results_cell2 rfl _ _ _ _ rfl Z (by rw [hZl]; exact aggS) hR4.at0) rfl ?_
        exact ⟨by rw [HV.out]; rfl, by first | exact bb2.trans hb4 | (rw [hsz]; exact bb2.trans hb4)⟩
      · have hv : parseV l = .tuple #[.agg C.toArray, .int .i64 0] := by
          have e : parseE l = 0 := by rw [HE.out, hg]; rfl
          unfold parseV parseS; rw [e, HC.out]; rfl
        have HV := hid hv
        have hpr' := fun (w : World) => hid ((hpr w).out.mono fun e w' (h : PrintPost (shareOf l) w e w') => (⟨h.1, by have := h.2; rw [hg] at this; obtain ⟨ao, c, h1, _⟩ := this; exact ⟨ao, c, h1⟩⟩ : Below w.heap.size w w' ∧ ∃ ao c, e = .returned (.tuple #[.slice ao 86 c, .int .i64 0])))
        clear hpr hg hv
        go_wp2_with (first | (refine wl_load rfl 61 _ rfl ⟨B + 1, 0, none⟩ rfl C (by rw [hCSl]; exact aggS) hT.at0 ?_) | (go_at_call 41; refine (hpr' wr).out.mono ?_; rintro e w2 ⟨hb2, ao2, c2, rfl⟩; have hR2 := hRr.below hb2 (by omega); have hT2 := hT.below hb2 (by omega); have bb2 := bbr.trans (hb2.mono (by omega : B ≤ _)); clear hRr bbr hb2) | (refine wl_load rfl 61 _ rfl ⟨B + 1, 0, none⟩ rfl C (by rw [hCSl]; exact aggS) hT2.at0 ?_) | (refine wl_storeV rfl 61 _ _ rfl 61 B rfl C rfl 49 aggS hCSl Z hR2 hZl hC1' ?_; intro w4 hR4 hb4 hs4))
        (try simp only [Exit.inBlock, Exit.then]); refine bodyPost_ret (results_cell2 rfl _ _ _ _ rfl C (by rw [hCSl]; exact aggS) hR4.at0) rfl ?_
        exact ⟨by rw [HV.out]; rfl, by first | exact bb2.trans hb4 | (rw [hsz]; exact bb2.trans hb4)⟩

theorem Parse_any' (ao : Option Addr) (cap n : Nat) (l : List Int) (w : World) (hn : n = l.length) (hP : 86 ≤ n → Pt.Ok w ⟨ao, cap, l⟩) :
    Calls Try.prog 45 #[.slice ao n cap] w fun e w' => e = .returned (parseV l) ∧ Below w.heap.size w w' := by
  by_cases h1 : n < 86
  · exact Parse_short ao cap n l w hn h1
  · by_cases h2 : l.take 4 = mag ∧ n ≤ 86
    · exact Parse_full ao cap n l w hn (hP (by omega)) (by omega) h2.1
    · exact Parse_form ao cap n l w hn (hP (by omega)) (by omega) h2
theorem Parse_any (ao : Option Addr) (cap n : Nat) (l : List Int) (w : World) (hn : n = l.length) (hP : Pt.Ok w ⟨ao, cap, l⟩) :
    Calls Try.prog 45 #[.slice ao n cap] w fun e w' => e = .returned (parseV l) ∧ Below w.heap.size w w' := by
  by_cases h1 : n < 86
  · exact Parse_short ao cap n l w hn h1
  · by_cases h2 : l.take 4 = mag ∧ n ≤ 86
    · exact Parse_full ao cap n l w hn hP (by omega) h2.1
    · exact Parse_form ao cap n l w hn hP (by omega) h2
end Go.Proofs.Ytbljihhelladbaa.shr

/- Contract of keyref2.ReadShare. Conditions: a slice of octets that lies in memory. -/
namespace Go.Proofs.Ytbljihhelladbaa.shr
open Go.RowKit Go.Proofs.Ytbljihhelladbaa.sh Go.Proofs.Ytbljihhelladbaa.st Go.Proofs.Ytbljihhelladbaa.hs
set_option linter.unusedSimpArgs false
set_option linter.unusedVariables false
set_option pp.maxSteps 6000

theorem addr_add (b off j : Nat) : (⟨b, off, none⟩ : Addr).add j = ⟨b, off + j, none⟩ := by unfold Addr.add; split <;> simp_all
theorem numL_two (a c : Int) : numL [a, c] = 256 * a + c := by
  unfold numL
  simp [List.foldl]
theorem row_two {w : World} {b off k : Nat} {a c : Int} (hb : b < w.heap.size) (h1 : w.cell? ⟨b, off + k, none⟩ = some (.int .u8 a)) (h2 : w.cell? ⟨b, off + (k + 1), none⟩ = some (.int .u8 c)) : RowI .u8 w (some ⟨b, off + k, none⟩) [a, c] := by
  refine Or.inr ⟨b, off + k, rfl, hb, fun i hi => ?_⟩
  have hi2 : i = 0 ∨ i = 1 := by simp at hi; omega
  rcases hi2 with rfl | rfl
  · exact h1
  · rw [Nat.add_assoc]; exact h2
theorem octs_two {a c : Int} (ha : 0 ≤ a ∧ a ≤ 255) (hc : 0 ≤ c ∧ c ≤ 255) : Octs [a, c] := by
  intro x hx
  simp only [List.mem_cons, List.not_mem_nil, or_false] at hx
  rcases hx with rfl | rfl
  · exact ha
  · exact hc
theorem splice_sh0 {h : List Int} (hl : h.length = 16) (V : Nat → Int) : splice sh0.cs 0 (h.map (Value.int .u8)) = (shTo h 0 V 0).cs := by
  unfold splice
  rw [List.take_zero, List.nil_append, List.length_map, hl]
  unfold Sh.cs shTo
  rw [st.fillTo_zero]
  rfl
theorem set_x {h : List Int} (hl : h.length = 16) (x y : Int) (V : Nat → Int) (k : Nat) : (shTo h x V k).cs.set 16 (.int .i64 y) = (shTo h y V k).cs := by
  unfold Sh.cs shTo
  rw [List.set_append_right _ _ (by rw [List.length_map, hl]; exact Nat.le_refl _), List.length_map, hl]; rfl

set_option maxRecDepth 100000 in
set_option maxHeartbeats 1000000 in
theorem Read_short (ao : Option Addr) (cap n : Nat) (l : List Int) (w : World) (hn : n = l.length) (hl : n < 86) :
    Calls Try.prog 49 #[.slice ao n cap] w fun e w' => e = .returned (parseV l) ∧ Below w.heap.size w w' := by
  obtain ⟨B, HB⟩ : ∃ B, Hid (B = w.heap.size) := ⟨_, rfl⟩
  have hsz : w.heap.size = B := HB.out.symm
  have hz := hid sh0_zero
  have hbt := hid built_sh0
  obtain ⟨Z, HZ⟩ : ∃ Z, Hid (Z = sh0.cs) := ⟨_, rfl⟩
  have hZl : Z.length = 49 := by rw [HZ.out]; exact sh0_len
  have hZ1 : ∀ u ∈ Z, u.oneCell' = true := by rw [HZ.out]; exact cs_one sh0
  rw [← HZ.out] at hz hbt
  have HN := hid hn
  have HV : Hid (parseV l = .tuple #[.agg Z.toArray, .int .i64 1]) := by
    show _ = _
    have e : parseE l = 1 := by unfold parseE; rw [if_pos (by omega)]
    unfold parseV parseS; rw [e, HZ.out]; rfl
  rw [HV.out]
  have hI : (n : Int) < 86 := by omega
  clear hn
  go_enter Try.func49, Try.ntmps49
  go_wp2_with (first | (refine wl_allocV rfl 61 rfl Z hz.out B hsz ?_; intro w1 hR1 hb1 hs1) | (refine wl_allocV rfl 61 rfl Z hz.out (B + 1) hs1 ?_; intro w2 hT2 hb2 hs2; have hR2 := hR1.below hb2 (by omega); have bb2 : Below B w w2 := hb1.trans (hb2.mono (by omega)); clear hR1 hb1 hb2) | (refine wl_load rfl 61 _ rfl ⟨B + 1, 0, none⟩ rfl Z (by rw [hZl]; exact aggS) hT2.at0 ?_) | (refine wl_storeV rfl 61 _ _ rfl 61 B rfl Z rfl 49 aggS hZl Z hR2 hZl hZ1 ?_; intro w4 hR4 hb4 hs4))
  (try simp only [Exit.inBlock, Exit.then]); refine bodyPost_ret (results_cell2 rfl _ _ _ _ rfl Z (by rw [hZl]; exact aggS) hR4.at0) rfl ?_
  exact ⟨rfl, by first | exact bb2.trans hb4 | (rw [hsz]; exact bb2.trans hb4)⟩

set_option maxRecDepth 100000 in
set_option maxHeartbeats 1000000 in
theorem Read_form (ao : Option Addr) (cap n : Nat) (l : List Int) (w : World) (hn : n = l.length) (hP : Pt.Ok w ⟨ao, cap, l⟩) (hl : 86 ≤ n) (hf : ¬ (l.take 4 = mag ∧ n ≤ 86)) :
    Calls Try.prog 49 #[.slice ao n cap] w fun e w' => e = .returned (parseV l) ∧ Below w.heap.size w w' := by
  obtain ⟨B, HB⟩ : ∃ B, Hid (B = w.heap.size) := ⟨_, rfl⟩
  have hsz : w.heap.size = B := HB.out.symm
  have hz := hid sh0_zero
  have hbt := hid built_sh0
  obtain ⟨Z, HZ⟩ : ∃ Z, Hid (Z = sh0.cs) := ⟨_, rfl⟩
  have hZl : Z.length = 49 := by rw [HZ.out]; exact sh0_len
  have hZ1 : ∀ u ∈ Z, u.oneCell' = true := by rw [HZ.out]; exact cs_one sh0
  rw [← HZ.out] at hz hbt
  have HN := hid hn
  have HP := hid hP
  have HV : Hid (parseV l = .tuple #[.agg Z.toArray, .int .i64 2]) := by
    show _ = _
    have e : parseE l = 2 := by unfold parseE; rw [if_neg (by omega), if_neg (by rw [← hn]; exact hf)]
    unfold parseV parseS; rw [e, HZ.out]; rfl
  rw [HV.out]
  have hI : ¬ (n : Int) < 86 := by omega
  have hI2 : (86 : Int) ≤ (n : Int) := by omega
  obtain ⟨b, off, rfl, hb, hc⟩ := hP.row.at (i := 0) (by show 0 < l.length; omega)
  have h4 : 4 ≤ n := by omega
  have hcap : n ≤ cap := by rw [hn]; exact hP.len
  have h4c : 4 ≤ cap := by omega
  have h4I : (4 : Int) ≤ (cap : Int) := by omega
  obtain ⟨S, HS⟩ : ∃ S, Hid (S = strOfNums (l.take 4)) := ⟨_, rfl⟩
  have ho4 : Octs (l.take 4) := fun c hc => hP.oct c (List.mem_of_mem_take hc)
  have hlen4 : 4 = (l.take 4).length := by rw [List.length_take]; omega
  have hkS := fun w1 (hb1 : Below B w w1) => hid (run_convStr w1 (some ⟨b, off, none⟩) 4 cap (l.take 4) hlen4 (RowI.takeS (hP.row.below (hsz ▸ hb1)) 4))
  rw [← HS.out] at hkS
  have hor : ¬ (S = magS) ∨ S = magS ∧ 86 < n := by
    by_cases e : S = magS
    · refine Or.inr ⟨e, ?_⟩
      have e2 : l.take 4 = mag := str_inj ho4 mag_octs (by rw [← HS.out]; exact e)
      exact Nat.lt_of_not_le fun h => hf ⟨e2, h⟩
    · exact Or.inl e
  clear hn hP hf hlen4
  rcases hor with hne | ⟨rfl, hgt⟩
  · have hne' : ¬ S.toList = [75, 87, 83, 49] := by
      intro e
      have h1 := str_ne hne
      rw [beq_eq_false_iff_ne] at h1
      exact h1 (e.trans (by rw [toList_eq]; rfl))
    go_enter Try.func49, Try.ntmps49
    go_wp2_with (first | (refine wl_allocV rfl 61 rfl Z hz.out B hsz ?_; intro w1 hR1 hb1 hs1) | (refine wl_allocV rfl 61 rfl Z hz.out (B + 1) hs1 ?_; intro w2 hT2 hb2 hs2; have hR2 := hR1.below hb2 (by omega); have bb2 : Below B w w2 := hb1.trans (hb2.mono (by omega)); have kS := (hkS w2 bb2).out; clear hR1 hb1 hb2) | (refine wl_load rfl 61 _ rfl ⟨B + 1, 0, none⟩ rfl Z (by rw [hZl]; exact aggS) hT2.at0 ?_) | (refine wl_storeV rfl 61 _ _ rfl 61 B rfl Z rfl 49 aggS hZl Z hR2 hZl hZ1 ?_; intro w4 hR4 hb4 hs4))
    (try simp only [Exit.inBlock, Exit.then]); refine bodyPost_ret (results_cell2 rfl _ _ _ _ rfl Z (by rw [hZl]; exact aggS) hR4.at0) rfl ?_
    exact ⟨rfl, by first | exact bb2.trans hb4 | (rw [hsz]; exact bb2.trans hb4)⟩
  · have hgI : (86 : Int) < (n : Int) := by omega
    have ems : magS = ⟨#[75, 87, 83, 49]⟩ := rfl
    rw [ems] at hkS
    go_enter Try.func49, Try.ntmps49
    go_wp2_with (first | (refine wl_allocV rfl 61 rfl Z hz.out B hsz ?_; intro w1 hR1 hb1 hs1) | (refine wl_allocV rfl 61 rfl Z hz.out (B + 1) hs1 ?_; intro w2 hT2 hb2 hs2; have hR2 := hR1.below hb2 (by omega); have bb2 : Below B w w2 := hb1.trans (hb2.mono (by omega)); have kS := (hkS w2 bb2).out; clear hR1 hb1 hb2) | (refine wl_load rfl 61 _ rfl ⟨B + 1, 0, none⟩ rfl Z (by rw [hZl]; exact aggS) hT2.at0 ?_) | (refine wl_storeV rfl 61 _ _ rfl 61 B rfl Z rfl 49 aggS hZl Z hR2 hZl hZ1 ?_; intro w4 hR4 hb4 hs4))
    (try simp only [Exit.inBlock, Exit.then]); refine bodyPost_ret (results_cell2 rfl _ _ _ _ rfl Z (by rw [hZl]; exact aggS) hR4.at0) rfl ?_
    exact ⟨rfl, by first | exact bb2.trans hb4 | (rw [hsz]; exact bb2.trans hb4)⟩

set_option maxRecDepth 100000 in
set_option maxHeartbeats 2000000 in
theorem Read_full (ao : Option Addr) (cap n : Nat) (l : List Int) (w : World) (hn : n = l.length) (hP : Pt.Ok w ⟨ao, cap, l⟩) (hl : n = 86) (hf : l.take 4 = mag) :
    Calls Try.prog 49 #[.slice ao n cap] w fun e w' => e = .returned (parseV l) ∧ Below w.heap.size w w' := by
  obtain ⟨B, HB⟩ : ∃ B, Hid (B = w.heap.size) := ⟨_, rfl⟩
  have hsz : w.heap.size = B := HB.out.symm
  have hz := hid sh0_zero
  have hbt := hid built_sh0
  obtain ⟨Z, HZ⟩ : ∃ Z, Hid (Z = sh0.cs) := ⟨_, rfl⟩
  have hZl : Z.length = 49 := by rw [HZ.out]; exact sh0_len
  have hZ1 : ∀ u ∈ Z, u.oneCell' = true := by rw [HZ.out]; exact cs_one sh0
  rw [← HZ.out] at hz hbt
  have HN := hid hn
  have HP := hid hP
  have hl86 : l.length = 86 := by rw [← hn]; exact hl
  subst hl
  have hE : parseE l = if goodS (shareOf l) = true then 0 else 4 := by unfold parseE; rw [if_neg (by omega), if_pos ⟨hf, by omega⟩]
  have HE := hid hE
  have hok := shareOf_ok hl86 hP.oct
  have HOK := hid hok
  have hxb := xOf_b hP.oct
  have hyb := hid (yOf_b hP.oct)
  obtain ⟨b, off, rfl, hb, hc⟩ := hP.row.at (i := 0) (by show 0 < l.length; omega)
  have hcap : 86 ≤ cap := by rw [hn]; exact hP.len
  have h4c : 4 ≤ cap := by omega
  have h4I : (4 : Int) ≤ (cap : Int) := by omega
  have h20I : (20 : Int) ≤ (cap : Int) := by omega
  have h22I : (22 : Int) ≤ (cap : Int) := by omega
  have hc4 : ¬ cap = 4 := by omega
  have hc20 : ¬ cap = 20 := by omega
  have hlen4 : 4 = (l.take 4).length := by rw [List.length_take]; omega
  have hkS := fun w1 (hb1 : Below B w w1) => hid (run_convStr w1 (some ⟨b, off, none⟩) 4 cap (l.take 4) hlen4 (RowI.takeS (hP.row.below (hsz ▸ hb1)) 4))
  have ems : strOfNums (l.take 4) = ⟨#[75, 87, 83, 49]⟩ := by rw [hf]; rfl
  rw [ems] at hkS
  have hbB : b < B := by rw [HB.out]; exact hb
  have hcI : ∀ i, i < 86 → w.cell? ⟨b, off + i, none⟩ = some (.int .u8 (l.getD i 0)) := fun i hi => hc i (by show i < l.length; omega)
  have HCI := hid hcI
  have hob := hid (fun i => hP.oct.getD i)
  obtain ⟨h, HH⟩ : ∃ h : List Int, Hid (h = (l.drop 4).take 16) := ⟨_, rfl⟩
  have hhl : h.length = 16 := by rw [HH.out]; exact holdOf_length hl86
  obtain ⟨SH, HSH⟩ : ∃ V, Hid (V = h.map (Value.int .u8)) := ⟨_, rfl⟩
  have HSHL : Hid (SH.length = 16) := by show _ = _; rw [HSH.out, List.length_map]; exact hhl
  have hSH1 : ∀ u ∈ SH, u.oneCell' = true := by rw [HSH.out]; exact ints_one _ _
  obtain ⟨x, HX⟩ : ∃ x : Int, Hid (x = xOf l) := ⟨_, rfl⟩
  rw [← HX.out] at hxb
  have hSP := hid (splice_sh0 hhl (yOf l))
  rw [← HZ.out, ← HSH.out] at hSP
  obtain ⟨y20, H20⟩ : ∃ y, Hid (y = l.getD 20 0) := ⟨_, rfl⟩
  obtain ⟨y21, H21⟩ : ∃ y, Hid (y = l.getD 21 0) := ⟨_, rfl⟩
  have hy20 : 0 ≤ y20 ∧ y20 ≤ 255 := by rw [H20.out]; exact hob.out 20
  have hy21 : 0 ≤ y21 ∧ y21 ≤ 255 := by rw [H21.out]; exact hob.out 21
  have hx2 : numL [y20, y21] = x := by rw [numL_two, HX.out, H20.out, H21.out]; rfl
  have HX2 := hid hx2
  have halI : Try.prog.arrayLen 57 = 16 := by kernel_rfl
  have hSHc : ∀ (w' : World), (∀ i, i < 86 → w'.cell? ⟨b, off + i, none⟩ = some (.int .u8 (l.getD i 0))) → At w' ⟨b, off + 4, none⟩ SH := by
    intro w' hw' j v hv
    have hj : j < 16 := by have := (List.getElem?_eq_some_iff.1 hv).1; rw [HSHL.out] at this; exact this
    rw [addr_add b (off + 4) j, Nat.add_assoc, hw' (4 + j) (by omega), ← hv, HSH.out, HH.out, List.getElem?_map, List.getElem?_take, if_pos hj, List.getElem?_drop, List.getElem?_eq_getElem (by omega), getD_lt' l 0 (by omega)]
    rfl
  have HSHC := hid hSHc
  have hs49 := hid (fun x k (hk : k ≤ 32) (hx : -9223372036854775808 ≤ x ∧ x ≤ 9223372036854775807) => (shTo_ok (x := x) (V := yOf l) (k := k) hhl (by rw [HH.out]; exact holdOf_b hP.oct) hx hyb.out hk).csl)
  clear hn hP hf hlen4 hx2 hE hok hc hcI hSHc ems
  go_enter Try.func49, Try.ntmps49
  go_wp2_with (first | (refine wl_allocV rfl 61 rfl Z hz.out B hsz ?_; intro w1 hR1 hb1 hs1) | (refine wl_allocV rfl 61 rfl Z hz.out (B + 1) hs1 ?_; intro w2 hT2 hb2 hs2; have hR2 := hR1.below hb2 (by omega); have bb2 : Below B w w2 := hb1.trans (hb2.mono (by omega)); have kS := (hkS w2 bb2).out; clear hR1 hb1 hb2))
  have hC2 : ∀ i, i < 86 → w2.cell? ⟨b, off + i, none⟩ = some (.int .u8 (l.getD i 0)) := fun i hi => (bb2.cell (p := ⟨b, off + i, none⟩) hbB).trans (HCI.out i hi)
  have HC2 := hid hC2
  have hfit : 0 + SH.length ≤ Z.length := by rw [HSHL.out, hZl]; omega
  have hmin : SH.length = Nat.min 82 16 := by rw [HSHL.out]; rfl
  clear kS hkS hC2
  go_region_law (refine step_copy_splice rfl (.tmp 23) (.tmp 25) 69 69 rfl 5 Try.underlying69 size5 (some ⟨B + 1, 0, none⟩) (some ⟨b, off + 4, none⟩) 16 16 82 (cap - 4) rfl rfl (B + 1) 0 Z 61 hT2 SH hmin (fun _ => ⟨rfl, _, rfl, HSHC.out _ HC2.out⟩) hfit hSH1 (B + 1) w2 ((Below.refl _ _).drew) (Nat.le_refl _) ?_; intro w3 hg3 hb3)
  have hT3 : BlkV 61 w3 (B + 1) (shTo h 0 (yOf l) 0).cs := by
    have h1 := hg3.out
    rw [hSP.out] at h1
    exact h1
  have hR3 := hR2.below hb3 (by omega)
  have bb3 : Below B w w3 := bb2.trans (hb3.mono (by omega))
  have hb23 : b < w3.heap.size := by have := bb3.size; omega
  have hC3 : ∀ i, i < 86 → w3.cell? ⟨b, off + i, none⟩ = some (.int .u8 (l.getD i 0)) := fun i hi => (bb3.cell (p := ⟨b, off + i, none⟩) hbB).trans (HCI.out i hi)
  have hr20 : RowI .u8 w3 (some ⟨b, off + 20, none⟩) [y20, y21] := row_two hb23 (by rw [H20.out]; exact hC3 20 (by omega)) (by rw [H21.out]; exact hC3 21 (by omega))
  have hnum := hid (NumberOf_any (some ⟨b, off + 20, none⟩) (cap - 20) 2 [y20, y21] w3 rfl hr20 (octs_two hy20 hy21) (by omega))
  rw [HX2.out] at hnum
  have hl0 := hs49.out 0 0 (by omega) (by omega)
  have HSX := hid (set_x hhl 0 x (yOf l) 0)
  clear hR2 hT2 bb2 hb3 hg3 hfit hmin hC3 hr20
  go_wp2_with (first | (go_at_call 90; refine hnum.out.mono ?_; rintro e w' ⟨rfl, rfl⟩) | (refine wl_setV rfl 3 _ _ rfl 61 (B + 1) 16 rfl (.int .i64 x) rfl rfl rfl sizeInt _ hT3 (by rw [hl0]; decide) ?_; intro wE hE hgE hsE; rw [HSX.out] at hE; have hRE := hR3.grown hgE (by intro e; have := Option.some.inj e; omega); have bbE : Below B w wE := bb3.trans (below_of_grown hgE (by have := hT3.lt; omega) (by omega)); clear hT3 hR3 bb3))
  have hCE : ∀ i, i < 86 → wE.cell? ⟨b, off + i, none⟩ = some (.int .u8 (l.getD i 0)) := fun i hi => (bbE.cell (p := ⟨b, off + i, none⟩) hbB).trans (HCI.out i hi)
  have HCE := hid hCE
  have hbE : b < wE.heap.size := by have := bbE.size; omega
  have hBE : B + 1 < wE.heap.size := hE.lt
  clear hCE hgE
  go_loopw [31] (fun i wx => ∃ j : Nat, j ≤ 32 ∧ i = .int .i64 j ∧ BlkV 61 wx (B + 1) (shTo h x (yOf l) j).cs ∧ wE.grownBy wx (some (B + 1))) (fun i _ => 32 - (intOf i).toNat)
  case atStart => exact ⟨0, by omega, rfl, hE, World.grownBy.refl _ _⟩
  case round =>
    clear hE
    obtain ⟨j, hj, rfl, hT, hbx⟩ := hrel
    have hbne : some b ≠ some (B + 1) := by intro e; have := Option.some.inj e; omega
    by_cases h1 : j < 32
    · have hjI : (j : Int) < 32 := by omega
      have hjI0 : (0 : Int) ≤ (j : Int) := by omega
      obtain ⟨p2, HP2⟩ : ∃ p : Nat, Hid (p = 2 * j) := ⟨_, rfl⟩
      obtain ⟨p, HPP⟩ : ∃ p : Nat, Hid (p = 22 + 2 * j) := ⟨_, rfl⟩
      obtain ⟨r, HRR⟩ : ∃ p : Nat, Hid (p = 24 + 2 * j) := ⟨_, rfl⟩
      have e1 : (2 : Int) * (j : Int) = (p2 : Int) := by rw [HP2.out]; omega
      have e2 : (22 : Int) + (p2 : Int) = (p : Int) := by rw [HP2.out, HPP.out]; omega
      have e3 : (24 : Int) + (p2 : Int) = (r : Int) := by rw [HP2.out, HRR.out]; omega
      have hpb : p < 86 := by rw [HPP.out]; omega
      have hqb : p + 1 < 86 := by rw [HPP.out]; omega
      have hrb : r < 87 := by rw [HRR.out]; omega
      have hp2b : p2 < 86 := by rw [HP2.out]; omega
      have hrp : r - p = 2 := by rw [HRR.out, HPP.out]; omega
      have hpr : p ≤ r := by omega
      have hprI : (p : Int) ≤ (r : Int) := by omega
      have hrc : r ≤ cap := by omega
      have hrcI : (r : Int) ≤ (cap : Int) := by omega
      have hcp : ¬ cap = p := by omega
      have hp0 : (0 : Int) ≤ (p : Int) := by omega
      have hr0 : (0 : Int) ≤ (r : Int) := by omega
      have hw1 : IntKind.i64.wrap (p2 : Int) = (p2 : Int) := IntWalk.i64_in _ (by omega)
      have hw2 : IntKind.i64.wrap (p : Int) = (p : Int) := IntWalk.i64_in _ (by omega)
      have hw3 : IntKind.i64.wrap (r : Int) = (r : Int) := IntWalk.i64_in _ (by omega)
      obtain ⟨a, Ha⟩ : ∃ a, Hid (a = l.getD p 0) := ⟨_, rfl⟩
      obtain ⟨c, Hc⟩ : ∃ c, Hid (c = l.getD (p + 1) 0) := ⟨_, rfl⟩
      have hab : 0 ≤ a ∧ a ≤ 255 := by rw [Ha.out]; exact hob.out p
      have hcb : 0 ≤ c ∧ c ≤ 255 := by rw [Hc.out]; exact hob.out (p + 1)
      have cA := hbx.cell (HCE.out p hpb) hbne
      have cC := hbx.cell (HCE.out (p + 1) hqb) hbne
      rw [← Ha.out] at cA
      rw [← Hc.out] at cC
      have hrow := row_two (Nat.lt_of_lt_of_le hbE hbx.size) cA cC
      have hnum := hid (NumberOf_any (some ⟨b, off + p, none⟩) (cap - p) 2 [a, c] wr rfl hrow (octs_two hab hcb) (by omega))
      obtain ⟨y, Hy⟩ : ∃ y, Hid (y = 256 * a + c) := ⟨_, rfl⟩
      have Hyy : Hid (yOf l j = y) := by show _ = _; rw [Hy.out, Ha.out, Hc.out, HPP.out]; unfold yOf; rw [show 22 + 2 * j + 1 = 23 + 2 * j by omega]
      rw [numL_two, ← Hy.out] at hnum
      have hyb' : 0 ≤ y ∧ y ≤ 65535 := by rw [Hy.out]; omega
      have hw4 : IntKind.u16.wrap y = y := IntWalk.u16_in _ (by omega)
      have hlj := hs49.out x j hj (by omega)
      have HST := hid (shTo_set x (yOf l) hhl h1)
      rw [Hyy.out] at HST
      go_wp2_with (first | (go_at_call 90; refine hnum.out.mono ?_; rintro e w' ⟨rfl, rfl⟩) | (refine wl_setV rfl 58 _ _ rfl 61 (B + 1) (17 + j) rfl (.int .u16 y) rfl rfl rfl size16 _ hT (by rw [hlj]; omega) ?_; intro wF hF hgF hsF; rw [HST.out] at hF))
      go_roundw
      case rel => exact ⟨j + 1, by omega, by go_num, hF, hbx.trans hgF⟩
      case measure => simp [intOf] <;> omega
    · obtain rfl : j = 32 := by omega
      have es : shTo h x (yOf l) 32 = shareOf l := by rw [HH.out, HX.out]; rfl
      rw [es] at hT
      have hCSl : (shareOf l).cs.length = 49 := HOK.out.csl
      have hC1' := cs_one (shareOf l)
      have hpr := fun w => hid (ShareOctets_any (shareOf l) HOK.out w)
      obtain ⟨C, HC⟩ : ∃ C, Hid (C = (shareOf l).cs) := ⟨_, rfl⟩
      rw [← HC.out] at hT hCSl hpr hC1'
      have hRr := hRE.grown hbx (by intro e; have := Option.some.inj e; omega)
      have bbr : Below B w wr := bbE.trans (below_of_grown hbx (by omega) (by omega))
      have hsr := hbx.size
      cases hg : goodS (shareOf l)
      · have hv : parseV l = .tuple #[.agg Z.toArray, .int .i64 4] := by
          have e : parseE l = 4 := by rw [HE.out, hg]; rfl
          unfold parseV parseS; rw [e, HZ.out]; rfl
        have HV := hid hv
        have hpr' := fun (w : World) => hid ((hpr w).out.mono fun e w' (h : PrintPost (shareOf l) w e w') => (⟨h.1, by have := h.2; rw [hg] at this; exact this⟩ : Below w.heap.size w w' ∧ e = .returned (.tuple #[.slice none 0 0, .int .i64 4])))
        clear hpr hg hv
        go_wp2_with (first | (refine wl_load rfl 61 _ rfl ⟨B + 1, 0, none⟩ rfl C (by rw [hCSl]; exact aggS) hT.at0 ?_) | (go_at_call 42; refine (hpr' wr).out.mono ?_; rintro e w2 ⟨hb2, rfl⟩; have hR2 := hRr.below hb2 (by omega); have bb2 := bbr.trans (hb2.mono (by omega : B ≤ _)); clear hRr bbr hb2) | (refine wl_build0 rfl 61 rfl Z hbt.out ?_) | (refine wl_storeV rfl 61 _ _ rfl 61 B rfl Z rfl 49 aggS hZl Z hR2 hZl hZ1 ?_; intro w4 hR4 hb4 hs4))
        (try simp only [Exit.inBlock, Exit.then]); refine bodyPost_ret (results_cell2 rfl _ _ _ _ rfl Z (by rw [hZl]; exact aggS) hR4.at0) rfl ?_
        exact ⟨by rw [HV.out]; rfl, by first | exact bb2.trans hb4 | (rw [hsz]; exact bb2.trans hb4)⟩
      · have hv : parseV l = .tuple #[.agg C.toArray, .int .i64 0] := by
          have e : parseE l = 0 := by rw [HE.out, hg]; rfl
          unfold parseV parseS; rw [e, HC.out]; rfl
        have HV := hid hv
        have hpr' := fun (w : World) => hid ((hpr w).out.mono fun e w' (h : PrintPost (shareOf l) w e w') => (⟨h.1, by have := h.2; rw [hg] at this; obtain ⟨ao, c, h1, _⟩ := this; exact ⟨ao, c, h1⟩⟩ : Below w.heap.size w w' ∧ ∃ ao c, e = .returned (.tuple #[.slice ao 86 c, .int .i64 0])))
        clear hpr hg hv
        go_wp2_with (first | (refine wl_load rfl 61 _ rfl ⟨B + 1, 0, none⟩ rfl C (by rw [hCSl]; exact aggS) hT.at0 ?_) | (go_at_call 42; refine (hpr' wr).out.mono ?_; rintro e w2 ⟨hb2, ao2, c2, rfl⟩; have hR2 := hRr.below hb2 (by omega); have hT2 := hT.below hb2 (by omega); have bb2 := bbr.trans (hb2.mono (by omega : B ≤ _)); clear hRr bbr hb2) | (refine wl_load rfl 61 _ rfl ⟨B + 1, 0, none⟩ rfl C (by rw [hCSl]; exact aggS) hT2.at0 ?_) | (refine wl_storeV rfl 61 _ _ rfl 61 B rfl C rfl 49 aggS hCSl Z hR2 hZl hC1' ?_; intro w4 hR4 hb4 hs4))
        (try simp only [Exit.inBlock, Exit.then]); refine bodyPost_ret (results_cell2 rfl _ _ _ _ rfl C (by rw [hCSl]; exact aggS) hR4.at0) rfl ?_
        exact ⟨by rw [HV.out]; rfl, by first | exact bb2.trans hb4 | (rw [hsz]; exact bb2.trans hb4)⟩

theorem Read_any' (ao : Option Addr) (cap n : Nat) (l : List Int) (w : World) (hn : n = l.length) (hP : 86 ≤ n → Pt.Ok w ⟨ao, cap, l⟩) :
    Calls Try.prog 49 #[.slice ao n cap] w fun e w' => e = .returned (parseV l) ∧ Below w.heap.size w w' := by
  by_cases h1 : n < 86
  · exact Read_short ao cap n l w hn h1
  · by_cases h2 : l.take 4 = mag ∧ n ≤ 86
    · exact Read_full ao cap n l w hn (hP (by omega)) (by omega) h2.1
    · exact Read_form ao cap n l w hn (hP (by omega)) (by omega) h2
theorem Read_any (ao : Option Addr) (cap n : Nat) (l : List Int) (w : World) (hn : n = l.length) (hP : Pt.Ok w ⟨ao, cap, l⟩) :
    Calls Try.prog 49 #[.slice ao n cap] w fun e w' => e = .returned (parseV l) ∧ Below w.heap.size w w' := by
  by_cases h1 : n < 86
  · exact Read_short ao cap n l w hn h1
  · by_cases h2 : l.take 4 = mag ∧ n ≤ 86
    · exact Read_full ao cap n l w hn hP (by omega) h2.1
    · exact Read_form ao cap n l w hn hP (by omega) h2
end Go.Proofs.Ytbljihhelladbaa.shr
