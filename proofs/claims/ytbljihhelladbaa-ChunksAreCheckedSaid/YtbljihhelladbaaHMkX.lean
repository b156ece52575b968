/-
  Shares as octets: Print, ShareOctets, Mark, MarkOf, strings. Conditions: as each theorem says. A region that draws its order, walked by hand: reading operations are taken first, each by its own law; whole loads, literals, new variables and stores as steps. Conditions: what each names. Shares read: Parse, ReadShare. Conditions: a slice of octets that lies in memory. The law SharesMatch, walked: it returns true. Conditions: shares of the type's form, a secret of octets.
-/
import Derived.Test.YtbljihhelladbaaHHsZ
import Derived.Test.YtbljihhelladbaaHStG
import Derived.Test.YtbljihhelladbaaHShBC
import Derived.Test.YtbljihhelladbaaHBsl
import Derived.Lib.SlBytesConst
import Derived.ArgAppend
import Derived.Laws.BytesArg
import Derived.Deep.RegionHeld3
import Derived.Deep.MidRow
/- Contract of share.Print. Conditions: a share of the type's form. -/
namespace Go.Proofs.Ytbljihhelladbaa.shr
open Go.RowKit Go.Proofs.Ytbljihhelladbaa.sh Go.Proofs.Ytbljihhelladbaa.st Go.Proofs.Ytbljihhelladbaa.hs
set_option linter.unusedSimpArgs false
set_option linter.unusedVariables false
set_option pp.maxSteps 6000
/-- two octets of a number; a share's octets -/
def o2 (n : Int) : List Int := [n / 256 % 256, n % 256]
def o2s (l : List Int) : List Int := (l.map o2).flatten
def pO (s : Sh) : List Int := ([75, 87, 83, 49] ++ s.h) ++ o2 s.x ++ o2s s.y
def goodS (s : Sh) : Bool := inB s.x 1 256 && !badY s
theorem o2_length (n : Int) : (o2 n).length = 2 := rfl
theorem o2s_length (l : List Int) : (o2s l).length = 2 * l.length := by
  induction l with
  | nil => rfl
  | cons a l ih =>
    unfold o2s at *
    rw [List.map_cons, List.flatten_cons, List.length_append, ih, o2_length, List.length_cons]; omega
theorem o2s_snoc (l : List Int) (k : Nat) (h : k < l.length) : o2s (l.take (k + 1)) = o2s (l.take k) ++ o2 (l.getD k 0) := by
  unfold o2s
  rw [List.take_succ_eq_append_getElem h, List.map_append, List.flatten_append, getD_lt' l 0 h]; simp
theorem pO_length {s : Sh} (hs : s.Ok) : (pO s).length = 86 := by
  unfold pO
  simp only [List.length_append, o2_length, o2s_length, hs.hl, hs.yl, List.length_cons, List.length_nil]
theorem o2_octs (n : Int) : Octs (o2 n) := by
  intro c hc
  simp only [o2, List.mem_cons, List.not_mem_nil, or_false] at hc
  rcases hc with rfl | rfl <;> exact ⟨by omega, by omega⟩
theorem pO_octs {s : Sh} (hs : s.Ok) : Octs (pO s) := by
  intro c hc
  unfold pO o2s at hc
  rcases List.mem_append.1 hc with h | h
  · rcases List.mem_append.1 h with h | h
    · rcases List.mem_append.1 h with h | h
      · simp only [List.mem_cons, List.not_mem_nil, or_false] at h
        rcases h with rfl | rfl | rfl | rfl <;> exact ⟨by decide, by decide⟩
      · exact ⟨(hs.hb c h).1, by have := (hs.hb c h).2; omega⟩
    · exact o2_octs _ c h
  · obtain ⟨l, hl, hcl⟩ := List.mem_flatten.1 h
    obtain ⟨y, _, rfl⟩ := List.mem_map.1 hl
    exact o2_octs _ c hcl
theorem wl_boxV {P : Program} {w : World} {ops : Array Oper} {rest : List Oper} {o : Oper} {a : Act} {Q : Exit → Act → World → Prop} (hgd : o.guard = none) (t : TypeId) (x : Operand) (ho : o.op = .box t x)
    (cs : List Value) (hx : a.eval x = .agg cs.toArray) (N : Nat) (hN : w.heap.size = N)
    (h : ∀ w', BlkV t w' N cs → Below N w w' → w'.heap.size = N + 1 → wpList P ops Q rest (a.put o.dst (.pointer (some ⟨N, 0, none⟩))) w') : wpList P ops Q (o :: rest) a w := by
  subst hN
  refine wpList_plain hgd fun K hK' => ?_
  unfold Oper.wp
  simp [execOp, ho, hx, Instr.box, newVar, newRow, Value.cells, Result.andThen]
  exact hK' _ _ (h _ (BlkV.new t w cs rfl) ((Below.refl _ _).alloc (Nat.le_refl _) _) (by simp))
/-- append to a slice that has no room, the world behind it a letter -/
theorem wl_appendArg {w : World} {ops : Array Oper} {rest : List Oper} {o : Oper} {a : Act} {Q : Exit → Act → World → Prop} (hgd : o.guard = none) (s x : Operand)
    (ho : o.op = .call { callee := .builtin .append, args := #[s, x], argTypes := #[69, 69] }) (b : Addr) (n cap : Nat) (hs : a.eval s = .slice (some b) n cap) (olds : List Value) (hlo : olds.length = n * 1) (hat : At w b olds)
    (ad : Addr) (m c : Nat) (hx : a.eval x = .slice (some ad) m c) (news : List Value) (hl : news.length = m * 1) (hnews : At w ad news) (hg : cap < n + m) (hb : n + m ≤ 1099511627776) (base : Nat) (hbase : base ≤ w.heap.size) (N : Nat) (hN : N = n + m)
    (hK : ∀ ao' cap' w', N ≤ cap' → Mine w' base 5 1 (.slice ao' N cap') N (olds ++ news) → w.grownBy w' none → wpList Try.prog ops Q rest (a.put o.dst (.slice ao' N cap')) w') : wpList Try.prog ops Q (o :: rest) a w := by
  subst hN
  obtain ⟨i, hi, hz, hsi, hby⟩ := (info8 : Info Try.prog 5 (.int .u8 0) 1 1).parts
  obtain ⟨v', w', hrun, r1, r2⟩ := run_append_arg_grows (P := Try.prog) w 69 o.type 5 i (.int .u8 0) 1 1 Try.underlying69 hi hz hsi hby rfl (by decide) b n cap olds hlo hat ad m c news hl hnews hg (by unfold maxLen; omega) (by omega)
  have hM := Mine.mono (Or.inl r1) hbase
  obtain ⟨ao', cap', rfl, h2, h3⟩ := hM.row
  exact Lib.wpList_append_run w hgd s x _ _ ho _ _ hs hx _ _ hrun (hK ao' cap' w' h2 hM r2)
theorem at_marked {w : World} {t : TypeId} {fr : Nat × Nat} (cs : List Value) : At (w.alloc (.cells cs.toArray t fr)) ⟨w.heap.size, 0, none⟩ cs := by
  intro j u hu
  have e : (⟨w.heap.size, 0, none⟩ : Addr).add j = ⟨w.heap.size, j, none⟩ := by unfold Addr.add; split <;> simp_all
  rw [e, cell_of_row _ w.heap.size j cs.toArray t fr (by show (w.heap.push _)[w.heap.size]? = _; simp)]
  simpa using hu
set_option maxRecDepth 100000 in
set_option maxHeartbeats 1000000 in
theorem Print_ok (s : Sh) (hs : s.Ok) (w : World) (hx : inB s.x 1 256 = true) (hy : badY s = false) :
    Calls Try.prog 41 #[.agg s.cs.toArray] w fun e w' => ∃ ao c, e = .returned (.tuple #[.slice ao 86 c, .int .i64 0]) ∧ Mine w' w.heap.size 5 1 (.slice ao 86 c) 86 ((pO s).map (Value.int .u8)) ∧ Below w.heap.size w w' := by
  obtain ⟨B, HB⟩ : ∃ B, Hid (B = w.heap.size) := ⟨_, rfl⟩
  have hsz : w.heap.size = B := HB.out.symm
  have hcx := hid (cs_x s hs)
  have hhl : Hid ((s.h.map (Value.int .u8)).length = 16 * 1) := by show _ = _; rw [List.length_map, hs.hl]
  have hch := hid (cs_hi s hs)
  have hout := fun w => hid (outside_any s.x 1 256 w)
  rw [hx] at hout
  have hbad := fun w => hid (badValues_any s hs w)
  rw [hy] at hbad
  have hx1 : 1 ≤ s.x ∧ s.x ≤ 256 := by unfold inB at hx; simp at hx; exact hx
  obtain ⟨P0, HP0⟩ : ∃ P : List Int, Hid (P = (([75, 87, 83, 49] ++ s.h) ++ o2 s.x : List Int)) := ⟨(([75, 87, 83, 49] ++ s.h) ++ o2 s.x : List Int), rfl⟩
  have e0 : ([Value.int .u8 75, .int .u8 87, .int .u8 83, .int .u8 49] ++ s.h.map (Value.int .u8)) ++ [.int .u8 (s.x / 256), .int .u8 (s.x % 256)] = P0.map (Value.int .u8) := by
    have : s.x / 256 % 256 = s.x / 256 := by omega
    rw [HP0.out]; simp [o2, this]
  have HE0 := hid e0
  have hyb0 : ∀ k, k < 32 → 0 ≤ s.y.getD k 0 ∧ s.y.getD k 0 ≤ 256 := by
    intro k hk
    have hm : s.y.getD k 0 ∈ s.y := by rw [getD_lt' s.y 0 (by rw [hs.yl]; exact hk)]; exact List.getElem_mem _
    refine ⟨(hs.yb _ hm).1, ?_⟩
    unfold badY at hy
    rw [List.any_eq_false] at hy
    have h1 := hy _ hm
    rw [decide_eq_true_eq] at h1
    omega
  have HYB := hid hyb0
  obtain ⟨YV, HYV⟩ : ∃ Y, Hid (Y = s.y.map (Value.int .u16)) := ⟨_, rfl⟩
  have HYL : Hid (YV.length = 32) := by show _ = _; rw [HYV.out, List.length_map, hs.yl]
  clear e0 hyb0
  obtain ⟨CS, HCS⟩ : ∃ C, Hid (C = s.cs) := ⟨_, rfl⟩
  have hCSl : CS.length = 49 := by rw [HCS.out]; exact hs.csl
  rw [← HB.out]
  rw [← HCS.out] at hcx hch hbad ⊢
  have hal : Try.prog.arrayLen 57 = 16 := by kernel_rfl
  have hcv := fun (w : World) (C : Array Value) (n c : Nat) => Lib.run_convert_bytes_const (P := Try.prog) w 69 5 C n c Try.underlying69 Try.underlying5
  have HAH := fun w' (h : BlkV 61 w' B s.cs) => hid (at_h hs h)
  have HAY := fun w' (h : BlkV 61 w' B s.cs) => hid (at_y hs h)
  rw [← HCS.out] at HAH HAY
  rw [← HYV.out] at HAY
  go_enter Try.func41, Try.ntmps41
  go_wp2_with (first | (refine wl_boxV rfl 61 _ rfl CS rfl B hsz ?_; intro w0 hB0 hb0 hs0; have c16 := (hB0.cell 16).trans hcx.out) | (go_at_call 86; refine (hout _).out.mono ?_; rintro e w1 ⟨rfl, rfl⟩) | (refine wl_loadG (by rfl) 61 _ rfl ⟨B, 0, none⟩ rfl 49 CS hCSl aggS hB0.at0 ?_) | (go_at_call 111; refine (hbad _).out.mono ?_; rintro e w1 ⟨rfl, hb1⟩; have hB1 := hB0.below hb1 (by omega); have bb1 := hb0.trans (hb1.mono (by omega)); have c161 := (hB1.cell 16).trans hcx.out; have hsz1 := hb1.size; clear hB0 hb0 hb1 c16) | (at_builtin; refine wl_appendArg rfl _ _ rfl ⟨w1.heap.size, 0, none⟩ 4 4 rfl [.int .u8 75, .int .u8 87, .int .u8 83, .int .u8 49] rfl (at_marked _) ⟨B, 0, none⟩ 16 16 rfl (s.h.map (Value.int .u8)) hhl.out ((HAH _ (hB1.alloc _)).out) (by decide) (by decide) (B + 1) (by simp; omega) 20 rfl ?_; intro ao3 cap3 w3 hc3 hM3 hg3; have hB3 := (hB1.alloc _).grown hg3 (by intro e; cases e); have bb3 := (bb1.alloc (by omega) _).grown hg3 (by simp; omega) (fun k hk => by cases hk); have c163 := (hB3.cell 16).trans hcx.out; have hsz3 := hg3.size; simp at hsz3; clear hB1 bb1 hg3) | (at_builtin; refine wl_appendS rfl _ _ 69 rfl 5 (.int .u8 0) 1 1 Try.underlying69 info8 rfl (by decide) (B + 1) _ 20 _ rfl (hM3.belowAll ((Below.refl _ _).alloc (Nat.le_refl _) _)) (some ⟨w3.heap.size, 0, none⟩) 2 2 rfl (fun h => by cases h) [.int .u8 (s.x / 256), .int .u8 (s.x % 256)] rfl (rowV_of (BlkV.new _ _ _ rfl)) (by intro u hu; simp at hu; rcases hu with rfl | rfl <;> rfl) (by decide) (by decide) (by simp; omega) 22 rfl ?_; intro ao4 cap4 w4 row4 hc4 hM4 hv4 hg4 hrow4; rw [HE0.out] at hM4; have hB4 := blk_grown (hB3.alloc _) hg4 (fun k hk => (hrow4 k hk).1) (by omega); have bb4 := (bb3.alloc (by omega) _).grown hg4 (by simp; omega) (fun k hk => by have := (hrow4 k hk).1; omega); have hsz4 := hg4.size; simp at hsz4; clear hB3 bb3 hg4 hM3 hrow4 hv4) | (refine wl_load rfl 59 _ rfl ⟨B, 17, none⟩ rfl YV (by rw [HYL.out]; exact aggY) (HAY _ hB4).out ?_))
  go_loopw [4, 31] (fun v i wr => ∃ (k : Nat) (m : Nat) (ao' : Option Addr) (c' : Nat), k ≤ 32 ∧ i = .int .i64 k ∧ m = 22 + 2 * k ∧ v = .slice ao' m c' ∧ Mine wr (B + 1) 5 1 v m ((P0 ++ o2s (s.y.take k)).map (Value.int .u8)) ∧ Below B w wr ∧ B + 1 ≤ wr.heap.size) (fun _ i _ => 32 - (intOf i).toNat)
  case atStart => exact ⟨0, 22, ao4, cap4, by omega, rfl, rfl, rfl, by simpa [o2s] using hM4, bb4, by omega⟩
  case round =>
    obtain ⟨k, m, ao', c', hk, rfl, hm, rfl, hM, hb, hsz'⟩ := hrel
    by_cases h0 : k < 32
    · have hkI : (k : Int) < 32 := by omega
      have hkI0 : (0 : Int) ≤ (k : Int) := by omega
      obtain ⟨y, Hy⟩ : ∃ y, Hid (y = s.y.getD k 0) := ⟨_, rfl⟩
      have hyb : 0 ≤ y ∧ y ≤ 256 := by rw [Hy.out]; exact HYB.out k h0
      have hIX := fun w => st.run_index1 (P := Try.prog) w 59 58 32 Try.underlying59 .u16 Try.underlying58 size16 YV k h0 (.int .u16 y) (by rw [HYV.out, Hy.out, List.getElem?_map, List.getElem?_eq_getElem (by rw [hs.yl]; exact h0), getD_lt' s.y 0 (by rw [hs.yl]; exact h0)]; rfl)
      have HMM := hid hm
      have hmb : m ≤ 90 := by omega
      have ej : (P0 ++ o2s (s.y.take k)).map (Value.int .u8) ++ [.int .u8 (y / 256), .int .u8 (y % 256)] = (P0 ++ o2s (s.y.take (k + 1))).map (Value.int .u8) := by
        rw [o2s_snoc s.y k (by rw [hs.yl]; exact h0), ← Hy.out]
        have : y / 256 % 256 = y / 256 := by omega
        simp [o2, this]
      have HEJ := hid ej
      clear ej hm
      go_wp2_with (first | (at_builtin; refine wl_appendS rfl _ _ 69 rfl 5 (.int .u8 0) 1 1 Try.underlying69 info8 rfl (by decide) (B + 1) _ m _ rfl (hM.belowAll ((Below.refl _ _).alloc (Nat.le_refl _) _)) (some ⟨wr.heap.size, 0, none⟩) 2 2 rfl (fun h => by cases h) [.int .u8 (y / 256), .int .u8 (y % 256)] rfl (rowV_of (BlkV.new _ _ _ rfl)) (by intro u hu; simp at hu; rcases hu with rfl | rfl <;> rfl) (by unfold maxLen; omega) (by omega) (by simp; omega) (m + 2) rfl ?_; intro ao6 cap6 w6 row6 hc6 hM6 hv6 hg6 hrow6; rw [HEJ.out] at hM6; have bb6 := (hb.alloc (by omega) _).grown hg6 (by simp; omega) (fun k hk => by have := (hrow6 k hk).1; omega); have hsz6 : B + 1 ≤ w6.heap.size := (by have := hg6.size; simp at this; omega); clear hb hM hg6 hrow6 hv6))
      go_roundw
      case rel => exact ⟨k + 1, m + 2, ao6, cap6, by omega, by go_num, by rw [HMM.out]; omega, rfl, hM6, bb6, hsz6⟩
      case measure => simp [intOf] <;> omega
    · obtain rfl : k = 32 := by omega
      have e : P0 ++ o2s (s.y.take 32) = pO s := by rw [HP0.out, List.take_of_length_le (by rw [hs.yl]; exact Nat.le_refl _)]; rfl
      rw [e] at hM
      obtain rfl : m = 86 := by omega
      go_wp2
      go_ret2
      exact ⟨ao', c', rfl, hM.mono (by omega), hb⟩
end Go.Proofs.Ytbljihhelladbaa.shr
/- Contracts of keyref2.Octets and NumberOf. Conditions: at most eight octets written; at most six read. -/
namespace Go.Proofs.Ytbljihhelladbaa.shr
open Go.RowKit Go.Proofs.Ytbljihhelladbaa.sh Go.Proofs.Ytbljihhelladbaa.st Go.Proofs.Ytbljihhelladbaa.hs
set_option linter.unusedSimpArgs false
set_option linter.unusedVariables false
set_option pp.maxSteps 6000
end Go.Proofs.Ytbljihhelladbaa.shr
/- Contracts of share.Print and keyref2.ShareOctets. Conditions: a share of the type's form. -/
namespace Go.Proofs.Ytbljihhelladbaa.shr
open Go.RowKit Go.Proofs.Ytbljihhelladbaa.sh Go.Proofs.Ytbljihhelladbaa.st Go.Proofs.Ytbljihhelladbaa.hs
set_option linter.unusedSimpArgs false
set_option linter.unusedVariables false
set_option pp.maxSteps 6000
set_option maxRecDepth 100000 in
set_option maxHeartbeats 1000000 in
theorem Print_bad1 (s : Sh) (hs : s.Ok) (w : World) (hx : inB s.x 1 256 = false) :
    Calls Try.prog 41 #[.agg s.cs.toArray] w fun e w' => e = .returned (.tuple #[.slice none 0 0, .int .i64 4]) ∧ Below w.heap.size w w' := by
  obtain ⟨B, HB⟩ : ∃ B, Hid (B = w.heap.size) := ⟨_, rfl⟩
  have hsz : w.heap.size = B := HB.out.symm
  have hcx := hid (cs_x s hs)
  have hout := fun w => hid (outside_any s.x 1 256 w)
  rw [hx] at hout
  obtain ⟨CS, HCS⟩ : ∃ C, Hid (C = s.cs) := ⟨_, rfl⟩
  have hCSl : CS.length = 49 := by rw [HCS.out]; exact hs.csl
  rw [← HB.out]
  rw [← HCS.out] at hcx ⊢
  go_enter Try.func41, Try.ntmps41
  go_wp2_with (first | (refine wl_boxV rfl 61 _ rfl CS rfl B hsz ?_; intro w0 hB0 hb0 hs0; have c16 := (hB0.cell 16).trans hcx.out) | (go_at_call 86; refine (hout _).out.mono ?_; rintro e w1 ⟨rfl, rfl⟩))
  go_ret2
  exact ⟨rfl, hb0⟩
set_option maxRecDepth 100000 in
set_option maxHeartbeats 1000000 in
theorem Print_bad2 (s : Sh) (hs : s.Ok) (w : World) (hx : inB s.x 1 256 = true) (hy : badY s = true) :
    Calls Try.prog 41 #[.agg s.cs.toArray] w fun e w' => e = .returned (.tuple #[.slice none 0 0, .int .i64 4]) ∧ Below w.heap.size w w' := by
  obtain ⟨B, HB⟩ : ∃ B, Hid (B = w.heap.size) := ⟨_, rfl⟩
  have hsz : w.heap.size = B := HB.out.symm
  have hcx := hid (cs_x s hs)
  have hout := fun w => hid (outside_any s.x 1 256 w)
  rw [hx] at hout
  have hbad := fun w => hid (badValues_any s hs w)
  rw [hy] at hbad
  obtain ⟨CS, HCS⟩ : ∃ C, Hid (C = s.cs) := ⟨_, rfl⟩
  have hCSl : CS.length = 49 := by rw [HCS.out]; exact hs.csl
  rw [← HB.out]
  rw [← HCS.out] at hcx hbad ⊢
  go_enter Try.func41, Try.ntmps41
  go_wp2_with (first | (refine wl_boxV rfl 61 _ rfl CS rfl B hsz ?_; intro w0 hB0 hb0 hs0; have c16 := (hB0.cell 16).trans hcx.out) | (go_at_call 86; refine (hout _).out.mono ?_; rintro e w1 ⟨rfl, rfl⟩) | (refine wl_loadG (by rfl) 61 _ rfl ⟨B, 0, none⟩ rfl 49 CS hCSl aggS hB0.at0 ?_) | (go_at_call 111; refine (hbad _).out.mono ?_; rintro e w1 ⟨rfl, hb1⟩; have bb1 := hb0.trans (hb1.mono (by omega : B ≤ _))))
  go_ret2
  exact ⟨rfl, bb1⟩
/-- what writing a share gives -/
def PrintPost (s : Sh) (w : World) (e : Ending) (w' : World) : Prop :=
  Below w.heap.size w w' ∧ if goodS s = true then ∃ ao c, e = .returned (.tuple #[.slice ao 86 c, .int .i64 0]) ∧ Mine w' w.heap.size 5 1 (.slice ao 86 c) 86 ((pO s).map (Value.int .u8)) else e = .returned (.tuple #[.slice none 0 0, .int .i64 4])
theorem Print_any (s : Sh) (hs : s.Ok) (w : World) : Calls Try.prog 41 #[.agg s.cs.toArray] w (PrintPost s w) := by
  unfold PrintPost goodS
  cases hx : inB s.x 1 256
  · exact (Print_bad1 s hs w hx).mono fun e w' h => ⟨h.2, by simpa using h.1⟩
  · cases hy : badY s
    · refine (Print_ok s hs w hx hy).mono fun e w' h => ?_
      obtain ⟨ao, c, h1, h2, h3⟩ := h
      exact ⟨h3, by simpa using ⟨ao, c, h1, h2⟩⟩
    · exact (Print_bad2 s hs w hx hy).mono fun e w' h => ⟨h.2, by simpa using h.1⟩
theorem In_b (m lo hi : Int) (w : World) : Calls Try.prog 16 #[.int .i64 m, .int .i64 lo, .int .i64 hi] w fun e w' => e = .returned (.bool (inB m lo hi)) ∧ w = w' := In_any m lo hi w
end Go.Proofs.Ytbljihhelladbaa.shr
/- Contracts of share.Mark and keyref2.MarkOf. Conditions: a share of the type's form. -/
namespace Go.Proofs.Ytbljihhelladbaa.shr
open Go.RowKit Go.Proofs.Ytbljihhelladbaa.sh Go.Proofs.Ytbljihhelladbaa.st Go.Proofs.Ytbljihhelladbaa.hs
set_option linter.unusedSimpArgs false
set_option linter.unusedVariables false
set_option pp.maxSteps 6000
theorem mine_pt {w : World} {base n c : Nat} {ao : Option Addr} {l : List Int} (h : Mine w base 5 1 (.slice ao n c) n (l.map (Value.int .u8))) (hn : n = l.length) (h0 : 0 < n) (ho : Octs l) : Pt.Ok w ⟨ao, c, l⟩ ∧ (ao = none → c = 0 ∧ n = 0) := by
  subst hn
  have h1 := mine_own h h0
  rcases h1 with ⟨_, h | ⟨g, cap, cur, hv, hg, hh, h1, h2, h3, h4⟩⟩
  · have := h.1; omega
  · injection hv with e1 e2 e3
    subst e1 e3
    obtain ⟨ao', c', hv', hc', hr⟩ := h.row
    injection hv' with e4 e5 e6
    subst e4 e6
    exact ⟨⟨hr.i, h1, h2, ho, fun b e => by cases e; exact lt_of_block hh⟩, fun e => by cases e⟩
theorem oct7 : Oct 7 := ⟨by decide, by decide⟩
/-- the mark of a share -/
def markL (s : Sh) : List Int := sumL 7 (pO s)
theorem markL_length (s : Sh) : (markL s).length = 32 := sumL_length _ _
def markV (s : Sh) : Value := if goodS s = true then .tuple #[.agg ((markL s).map (Value.int .u8)).toArray, .int .i64 0] else .tuple #[.agg zSum.toArray, .int .i64 4]
set_option maxRecDepth 100000 in
set_option maxHeartbeats 1000000 in
theorem Mark_any (s : Sh) (hs : s.Ok) (w : World) : Calls Try.prog 43 #[.agg s.cs.toArray] w fun e w' => e = .returned (markV s) ∧ Below w.heap.size w w' := by
  obtain ⟨Y, HY⟩ : ∃ Z, Hid (Z = zSum) := ⟨_, rfl⟩
  have hz32 := hid zeroSumZ
  have hbt := hid built0
  rw [← HY.out] at hz32 hbt
  have hYl : Y.length = 32 := by rw [HY.out]; simp [zSum]
  have hY1 : ∀ u ∈ Y, u.oneCell' = true := by rw [HY.out]; exact ints_one _ _
  obtain ⟨B, HB⟩ : ∃ B, Hid (B = w.heap.size) := ⟨_, rfl⟩
  have hsz : w.heap.size = B := HB.out.symm
  obtain ⟨S, HS⟩ : ∃ S : List Int, Hid (S = markL s) := ⟨_, rfl⟩
  have hS1 : ∀ u ∈ S.map (Value.int .u8), u.oneCell' = true := ints_one _ _
  have hSm : (S.map (Value.int .u8)).length = 32 := by rw [List.length_map, HS.out, markL_length]
  have hpr := fun w => hid (Print_any s hs w)
  have HPL := hid (pO_length hs)
  have HPO := hid (pO_octs hs)
  obtain ⟨CS, HCS⟩ : ∃ C, Hid (C = s.cs) := ⟨_, rfl⟩
  have hCSl : CS.length = 49 := by rw [HCS.out]; exact hs.csl
  rw [← HCS.out] at hpr ⊢
  cases hg : goodS s
  · have HMV : Hid (markV s = .tuple #[.agg Y.toArray, .int .i64 4]) := by show _ = _; unfold markV; rw [hg, HY.out]; rfl
    rw [HMV.out]
    have hpr' := fun (w : World) => hid ((hpr w).out.mono fun e w' (h : PrintPost s w e w') => (⟨h.1, by have := h.2; rw [hg] at this; exact this⟩ : Below w.heap.size w w' ∧ e = .returned (.tuple #[.slice none 0 0, .int .i64 4])))
    clear hpr hg
    go_enter Try.func43, Try.ntmps43
    go_wp2_with (first | (refine wl_boxV rfl 61 _ rfl CS rfl B hsz ?_; intro w0 hB0 hb0 hs0) | (refine wl_allocV rfl 73 rfl Y hz32.out (B + 1) hs0 ?_; intro w1 hR1 hb1 hs1; have hB1 := hB0.below hb1 (by omega); have bb1 := hb0.trans (hb1.mono (by omega : B ≤ _)); clear hz32 hB0 hb0 hb1) | (refine wl_load rfl 61 _ rfl ⟨B, 0, none⟩ rfl CS (by rw [hCSl]; exact aggS) hB1.at0 ?_) | (go_at_call 41; refine (hpr' w1).out.mono ?_; rintro e w2 ⟨hb2, rfl⟩; have hR2 := hR1.below hb2 (by omega); have bb2 := bb1.trans (hb2.mono (by omega : B ≤ _)); clear hR1 bb1 hb2) | (refine wl_build0 rfl 73 rfl Y hbt.out ?_) | (refine wl_storeV rfl 73 _ _ rfl 73 (B + 1) rfl Y rfl 32 aggSumT hYl Y hR2 hYl hY1 ?_; intro w4 hR4 hb4 hs4))
    (try simp only [Exit.inBlock, Exit.then]); refine bodyPost_ret (results_cell2 rfl _ _ _ _ rfl Y (by rw [hYl]; exact aggSumT) hR4.at0) rfl ?_
    exact ⟨rfl, by rw [← HB.out]; exact bb2.trans (hb4.mono (by omega))⟩
  · have HMV : Hid (markV s = .tuple #[.agg (S.map (Value.int .u8)).toArray, .int .i64 0]) := by show _ = _; unfold markV; rw [hg, HS.out]; rfl
    rw [HMV.out]
    have hpr' := fun (w : World) => hid ((hpr w).out.mono fun e w' (h : PrintPost s w e w') => (⟨h.1, by have := h.2; rw [hg] at this; exact this⟩ : Below w.heap.size w w' ∧ ∃ ao c, e = .returned (.tuple #[.slice ao 86 c, .int .i64 0]) ∧ Mine w' w.heap.size 5 1 (.slice ao 86 c) 86 ((pO s).map (Value.int .u8))))
    clear hpr hg
    go_enter Try.func43, Try.ntmps43
    go_wp2_with (first | (refine wl_boxV rfl 61 _ rfl CS rfl B hsz ?_; intro w0 hB0 hb0 hs0) | (refine wl_allocV rfl 73 rfl Y hz32.out (B + 1) hs0 ?_; intro w1 hR1 hb1 hs1; have hB1 := hB0.below hb1 (by omega); have bb1 := hb0.trans (hb1.mono (by omega : B ≤ _)); clear hz32 hB0 hb0 hb1) | (refine wl_load rfl 61 _ rfl ⟨B, 0, none⟩ rfl CS (by rw [hCSl]; exact aggS) hB1.at0 ?_) | (go_at_call 41; refine (hpr' w1).out.mono ?_; rintro e w2 ⟨hb2, ao2, c2, rfl, hM2⟩; obtain ⟨hpt2, hno2⟩ := mine_pt hM2 HPL.out.symm (by decide) HPO.out; have hR2 := hR1.below hb2 (by omega); have bb2 := bb1.trans (hb2.mono (by omega : B ≤ _)); have hsz2 := hb2.size; clear hR1 bb1 hb2 hM2) | (go_at_call 113; refine (sumOf_in 7 oct7 ao2 c2 86 (pO s) w2 HPL.out.symm hpt2 (by decide)).mono ?_; rintro e w3 ⟨rfl, hb3⟩; have e3 : sumL 7 (pO s) = S := HS.out.symm; rw [e3]; have hR3 := hR2.below hb3 (by omega); have bb3 := bb2.trans (hb3.mono (by omega : B ≤ _)); clear hR2 bb2 hb3) | (refine wl_storeV rfl 73 _ _ rfl 73 (B + 1) rfl (S.map (Value.int .u8)) rfl 32 aggSumT hSm Y hR3 hYl hS1 ?_; intro w4 hR4 hb4 hs4))
    (try simp only [Exit.inBlock, Exit.then]); refine bodyPost_ret (results_cell2 rfl _ _ _ _ rfl (S.map (Value.int .u8)) (by rw [hSm]; exact aggSumT) hR4.at0) rfl ?_
    exact ⟨rfl, by rw [← HB.out]; exact bb3.trans (hb4.mono (by omega))⟩
end Go.Proofs.Ytbljihhelladbaa.shr
/- Octets as a string; contract of bytes.Equal. Conditions: slices of octets that lie in memory. -/
namespace Go.Proofs.Ytbljihhelladbaa.shr
open Go.RowKit Go.Proofs.Ytbljihhelladbaa.sh Go.Proofs.Ytbljihhelladbaa.st Go.Proofs.Ytbljihhelladbaa.hs
set_option linter.unusedSimpArgs false
set_option linter.unusedVariables false
set_option pp.maxSteps 6000
end Go.Proofs.Ytbljihhelladbaa.shr
namespace Go.Proofs.Ytbljihhelladbaa
set_option linter.unusedSimpArgs false
set_option linter.unusedVariables false
open Go.RowKit
section
variable {P : Program} {md : Region.Mode} {ops : Array Oper} {Q : Exit → Act → World → Prop} {S : World → Prop}
/-- number i is taken first; its operation is read off the list of operations -/
theorem take_l {i : Nat} {oi : Oper} {v : Value} {fuel : Nat} {listed : Array Bool} {a : Act} {w : World} (hi : ops.toList[i]? = some oi)
    (hs : Region.noSelect ops = true) (hf : Region.free md ops listed i = true) (hr : (Region.ready md ops listed).contains i = true)
    (hQ : ∀ c a w, Q (.panic c) (a.put oi.dst v) w → Q (.panic c) a w) (hy : YieldsIf P ops S oi v a) (hS : S w)
    (h : wpAnyH P md ops Q S fuel (listed.setIfInBounds i true) (a.put oi.dst v) w) : wpAnyH P md ops Q S (fuel + 1) listed a w :=
  wpAnyH_take (by simpa using hi) hs hf hr hQ hy hS h
theorem cons_l {fuel : Nat} {listed : Array Bool} {a : Act} {w : World} {i : Nat} {o : Oper} {rs : List Nat} (ho : ops.toList[i]? = some o)
    (h : ∀ K' : Act → World → Prop, Shut (∀ a w, S w → (S w → wpAnyH P md ops Q S fuel (listed.setIfInBounds i true) a w) → K' a w) → if Region.wanted o (yielded ops a.tmps) = true then Oper.wp P o a w K' Q else K' (a.put o.dst undef) w)
    (hs : AllReadyH P md ops Q S fuel listed a w rs) : AllReadyH P md ops Q S fuel listed a w (i :: rs) :=
  AllReadyH.cons (by simpa using ho) h hs
end
theorem step_allocV {P : Program} {ops : Array Oper} {o : Oper} {a : Act} {w : World} {K : Act → World → Prop} {Q : Exit → Act → World → Prop} {E : Prop} (hgd : o.guard = none) (t : TypeId) (ho : o.op = .alloc t)
    (cs : List Value) (hz : (P.info? t).map (·.zero) = some (some (.agg cs.toArray))) (N : Nat) (hN : w.heap.size = N)
    (h : ∀ w', BlkV t w' N cs → Below N w w' → w'.heap.size = N + 1 → K (a.put o.dst (.pointer (some ⟨N, 0, none⟩))) w') : if Region.wanted o (yielded ops a.tmps) = true then Oper.wp P o a w K Q else E := by
  subst hN
  have hw : Region.wanted o (yielded ops a.tmps) = true := by simp [Region.wanted, hgd]
  rw [if_pos hw]
  obtain ⟨i, hi, hs⟩ := Option.map_eq_some_iff.1 hz
  unfold Oper.wp
  simp [execOp, ho, Instr.alloc, zeroValue, typeInfo, hi, hs, newVar, newRow, Value.cells, Result.andThen]
  exact h _ (BlkV.new t w cs rfl) ((Below.refl _ _).alloc (Nat.le_refl _) _) (by simp)
theorem step_storeV {P : Program} {ops : Array Oper} {o : Oper} {a : Act} {w : World} {K : Act → World → Prop} {Q : Exit → Act → World → Prop} {E : Prop} (hgd : o.guard = none) (ty : TypeId) (x y : Operand) (ho : o.op = .store ty x y)
    (t : TypeId) (g : Nat) (hx : a.eval x = .pointer (some ⟨g, 0, none⟩)) (cs : List Value) (hy : a.eval y = .agg cs.toArray) (n : Nat) (hi : Agg P ty n) (hn : cs.length = n) (cur : List Value) (hg : BlkV t w g cur) (hc : cur.length = n) (h1 : ∀ u ∈ cs, u.oneCell' = true)
    (h : ∀ w', BlkV t w' g cs → Below g w w' → w'.heap.size = w.heap.size → K (a.put o.dst undef) w') : if Region.wanted o (yielded ops a.tmps) = true then Oper.wp P o a w K Q else E := by
  have hw : Region.wanted o (yielded ops a.tmps) = true := by simp [Region.wanted, hgd]
  rw [if_pos hw]
  have hrun := run_store_agg (P := P) w ty t g 0 cur cs (by rw [hi.2, hn]) hg (by omega) h1
  rw [List.take_zero, List.nil_append, Nat.zero_add, List.drop_eq_nil_of_le (by omega), List.append_nil] at hrun
  unfold Oper.wp
  simp [execOp, ho, hx, hy, Instr.storeAt, Instr.sureAddr, hrun, Result.andThen]
  exact h _ (hg.setRow cs) (below_setRow' (Below.refl _ _) (Nat.le_refl _) _) (by simp)
end Go.Proofs.Ytbljihhelladbaa
/- Contract of share.Parse. Conditions: a slice of octets that lies in memory. -/
namespace Go.Proofs.Ytbljihhelladbaa.shr
open Go.RowKit Go.Proofs.Ytbljihhelladbaa.sh Go.Proofs.Ytbljihhelladbaa.st Go.Proofs.Ytbljihhelladbaa.hs
set_option linter.unusedSimpArgs false
set_option linter.unusedVariables false
set_option pp.maxSteps 6000
end Go.Proofs.Ytbljihhelladbaa.shr
/- Contract of keyref2.ReadShare. Conditions: a slice of octets that lies in memory. -/
namespace Go.Proofs.Ytbljihhelladbaa.shr
open Go.RowKit Go.Proofs.Ytbljihhelladbaa.sh Go.Proofs.Ytbljihhelladbaa.st Go.Proofs.Ytbljihhelladbaa.hs
set_option linter.unusedSimpArgs false
set_option linter.unusedVariables false
set_option pp.maxSteps 6000
theorem addr_add (b off j : Nat) : (⟨b, off, none⟩ : Addr).add j = ⟨b, off + j, none⟩ := by unfold Addr.add; split <;> simp_all
end Go.Proofs.Ytbljihhelladbaa.shr
namespace Go.Proofs.Ytbljihhelladbaa.shr
set_option linter.unusedVariables false
open Go.RowKit Go.Proofs.Ytbljihhelladbaa.sh Go.Proofs.Ytbljihhelladbaa.Fld
set_option linter.unusedSimpArgs false
set_option linter.unusedSectionVars false
set_option pp.maxSteps 6000
theorem wl_build0G {P : Program} {w : World} {ops : Array Oper} {rest : List Oper} {o : Oper} {a : Act} {Q : Exit → Act → World → Prop} (hgd : Region.wanted o (yielded ops a.tmps) = true) (t : TypeId) (ho : o.op = .build t #[])
    (cs : List Value) (hb : P.built t [] = some cs.toArray) (h : wpList P ops Q rest (a.put o.dst (.agg cs.toArray)) w) : wpList P ops Q (o :: rest) a w := by
  refine wpList_step fun K hK' => ?_
  rw [if_pos hgd]
  have hb' : P.built t (((#[] : Array (Nat × Operand)).map fun (i, x) => (i, a.eval x)).toList) = some cs.toArray := by simpa using hb
  refine wp_build (P := P) t #[] ho (by rw [hb']; rfl) ?_
  rw [hb']
  exact hK' _ _ h
/-- a load under a guard, told by its slot -/
theorem wl_loadD {P : Program} {w : World} {ops : Array Oper} {rest : List Oper} {o : Oper} {a : Act} {Q : Exit → Act → World → Prop} (d : Nat) (hd : o.dst = some d) (hgd : Region.wanted o (yielded ops a.tmps) = true) (ty : TypeId) (x : Operand) (ho : o.op = .load ty x)
    (p : Addr) (hx : a.eval x = .pointer (some p)) (n : Nat) (cs : List Value) (hn : cs.length = n) (ha : Agg P ty n) (hc : At w p cs) (h : wpList P ops Q rest (a.put o.dst (.agg cs.toArray)) w) : wpList P ops Q (o :: rest) a w :=
  wl_loadG hgd ty x ho p hx n cs hn ha hc h
/-- an operation under a guard that does not hold -/
theorem wl_skip {P : Program} {w : World} {ops : Array Oper} {rest : List Oper} {o : Oper} {a : Act} {Q : Exit → Act → World → Prop} (d : Nat) (hd : o.dst = some d) (hgd : Region.wanted o (yielded ops a.tmps) = false) (h : wpList P ops Q rest (a.put (some d) undef) w) : wpList P ops Q (o :: rest) a w := by
  refine wpList_step fun K hK' => ?_
  rw [if_neg (by rw [hgd]; decide), hd]
  exact hK' _ _ h
section
variable {need : Int} {ao : Option Addr} {cap : Nat} {l : List Sh} {w : World} (hr : RowS w ao l) (hok : ∀ s ∈ l, s.Ok) (hn : l.length ≤ 9223372036854775807) (hcap : l.length ≤ cap) (hmax : cap ≤ maxLen)
include hr hok hn hcap hmax
end
end Go.Proofs.Ytbljihhelladbaa.shr
