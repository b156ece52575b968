/-
  Sums: Sum, NewSummer, summed, SumOf, Sums. Conditions: as each theorem says.
-/
import Derived.Test.YtbljihhelladbaaTHsY
/- Contracts of mix.Summer.Sum and mix.NewSummer. Conditions: a summer that has taken a text; a domain of one octet. -/
namespace Go.Proofs.Ytbljihhelladbaa.hs
open Go.RowKit Go.Proofs.Ytbljihhelladbaa.st Go.Proofs.Ytbljihhelladbaa.shr
set_option linter.unusedSimpArgs false
set_option linter.unusedVariables false
set_option pp.maxSteps 6000
/-- the sum of a text -/
def sumL (d : Int) (T : List Int) : List Int := (endL (start d) T).take 32
theorem endL_length (s0 T : List Int) : (endL s0 T).length = 64 := stirL_length' _
theorem endL_octs (s0 T : List Int) : Octs (endL s0 T) := stirL_octs' _
theorem sumL_length (d : Int) (T : List Int) : (sumL d T).length = 32 := by unfold sumL; rw [List.length_take, endL_length]; decide
theorem sumL_octs (d : Int) (T : List Int) : Octs (sumL d T) := fun c hc => endL_octs _ _ c (List.mem_of_mem_take hc)
theorem aggSumT : Agg Try.prog 73 32 := Agg.arr Try.underlying73 (by kernel_rfl)
theorem zeroSumT : (Try.prog.info? 73).map (·.zero) = some (some (.agg ((List.replicate 32 (0 : Int)).map (Value.int .u8)).toArray)) := by kernel_rfl
theorem run_arrayAtS (w : World) (a : Addr) (n cap : Nat) (hn : 32 ≤ n) : (Instr.arrayAt 73 (.slice (some a) n cap)).run Try.prog w = .ok (.pointer (some a)) w := by
  have h1 : ¬ n < 32 := by omega
  simp [Instr.arrayAt, run_underlying Try.underlying73, Result.andThen, h1]
theorem start_octs {d : Int} (h : Oct d) : Octs (start d) := by
  intro c hc
  rcases List.mem_append.1 hc with h1 | h1
  · exact zeros_octs 63 c h1
  · simp at h1; subst h1; exact h
set_option maxRecDepth 100000 in
set_option maxHeartbeats 1000000 in
theorem sum_ok (p : Nat) (d : Int) (T : List Int) (tl : Nat) (w : World) (hd : Oct d) (htl : tl = T.length) (htm : tl ≤ 1048576) (hP : SumOk w p (start d) T (tl : Int)) :
    Calls Try.prog 163 #[.pointer (some ⟨p, 0, none⟩)] w fun e w' => e = .returned (.agg ((sumL d T).map (Value.int .u8)).toArray) ∧ Below w.heap.size w w' := by
  obtain ⟨Z, HZ⟩ : ∃ Z, Hid (Z = (List.replicate 64 (0 : Int)).map (Value.int .u8)) := ⟨_, rfl⟩
  have hz64 := hid zeroA64
  rw [← HZ.out] at hz64
  obtain ⟨Y, HY⟩ : ∃ Z, Hid (Z = (List.replicate 32 (0 : Int)).map (Value.int .u8)) := ⟨_, rfl⟩
  have hz32 := hid zeroSumT
  rw [← HY.out] at hz32
  obtain ⟨B, HB⟩ : ∃ B, Hid (B = w.heap.size) := ⟨_, rfl⟩
  have hsz : w.heap.size = B := HB.out.symm
  have hpB : p < B := by rw [HB.out]; exact hP.lt
  obtain ⟨E, HE⟩ : ∃ E : List Int, Hid (E = endL (start d) T) := ⟨_, rfl⟩
  have hEl : E.length = 64 := by rw [HE.out]; exact endL_length _ _
  have hE1 : ∀ u ∈ E.map (Value.int .u8), u.oneCell' = true := ints_one _ _
  have hEm : (E.map (Value.int .u8)).length = 64 := by rw [List.length_map, hEl]
  obtain ⟨S, HS⟩ : ∃ S : List Int, Hid (S = sumL d T) := ⟨_, rfl⟩
  have hS1 : ∀ u ∈ S.map (Value.int .u8), u.oneCell' = true := ints_one _ _
  have hSm : (S.map (Value.int .u8)).length = 32 := by rw [List.length_map, HS.out, sumL_length]
  have hYl : Y.length = 32 := by rw [HY.out]; simp
  have hZl : Z.length = 64 := by rw [HZ.out]; simp
  have hal : Try.prog.arrayLen 152 = 64 := by kernel_rfl
  have hAA := fun w a n cap h => run_arrayAtS w a n cap h
  have hend := hid (end_ok p (start d) T tl)
  have HTL := hid htl
  rw [← HE.out] at hend
  rw [← HS.out]
  go_enter Try.func163, Try.ntmps163
  go_wp2_with (first | (refine wl_allocV rfl 73 rfl Y hz32.out B hsz ?_; intro w1 hR1 hb1 hs1; have hP1 := hP.grown hb1 hpB; clear hP hz32) | (go_at_call 202; refine (hend.out w1 (start_length d) (start_octs hd) HTL.out htm hP1).mono ?_; rintro e w2 ⟨rfl, hb2⟩; have hR2 := hR1.below hb2 (by omega); have bb2 : Below B w w2 := hb1.trans (hb2.mono (by omega)); have hsz2 := hb2.size; clear hP1 hR1 hb1 hb2) | (refine wl_allocV rfl 152 rfl Z hz64.out w2.heap.size rfl ?_; intro w3 hE3 hb3 hs3; clear hz64; have hR3 := hR2.below hb3 (by omega); have bb3 : Below B w w3 := bb2.trans (hb3.mono (by omega)); clear hR2 bb2 hb3) | (refine wl_storeV rfl 152 _ _ rfl 152 w2.heap.size rfl (E.map (Value.int .u8)) rfl 64 agg64' hEm Z hE3 hZl hE1 ?_; intro w4 hE4 hb4 hs4; have hR4 := hR3.below hb4 (by omega); have bb4 : Below B w w4 := bb3.trans (hb4.mono (by omega)); clear hR3 bb3 hb4 hE3) | (refine wl_load rfl 73 _ rfl ⟨w2.heap.size, 0, none⟩ rfl (S.map (Value.int .u8)) (by rw [hSm]; exact aggSumT) (hE4.at 0 _ fun j u hu => by rw [Nat.zero_add]; rw [HS.out, sumL, ← HE.out, List.map_take, List.getElem?_take] at hu; split at hu; exact hu; cases hu) ?_) | (refine wl_storeV rfl 73 _ _ rfl 73 B rfl (S.map (Value.int .u8)) rfl 32 aggSumT hSm Y hR4 hYl hS1 ?_; intro w5 hR5 hb5 hs5))
  (try simp only [Exit.inBlock, Exit.then]); refine bodyPost_ret (results_cell rfl _ _ _ _ rfl (S.map (Value.int .u8)) (by rw [hSm]; exact aggSumT) hR5.at0) rfl ?_
  exact ⟨rfl, by rw [← HB.out]; exact bb4.trans hb5⟩
theorem sumOk_start {w : World} {p : Nat} {d : Int} (h : BlkV 244 w p (sumC (start d) (List.replicate 32 0) 0 0)) : SumOk w p (start d) [] 0 :=
  ⟨⟨List.replicate 32 0, by simp, zeros_octs 32, fun i hi => absurd hi (Nat.not_lt_zero _), h⟩⟩
set_option maxRecDepth 100000 in
set_option maxHeartbeats 1000000 in
theorem new_ok (d : Int) (w : World) (hd : Oct d) :
    Calls Try.prog 164 #[.int .i64 d] w fun e w' => e = .returned (.tuple #[.pointer (some ⟨w.heap.size, 0, none⟩), .int .i64 0]) ∧ Below w.heap.size w w' ∧ SumOk w' w.heap.size (start d) [] 0 := by
  have h1 := hd.1
  have h2 : ¬ (255 < d) := by have := hd.2; omega
  have h3 : d < 256 := by have := hd.2; omega
  have hal : Try.prog.arrayLen 152 = 64 := by kernel_rfl
  obtain ⟨Z, HZ⟩ : ∃ Z, Hid (Z = sumC (List.replicate 64 0) (List.replicate 32 0) 0 0) := ⟨_, rfl⟩
  have hb : Hid (Try.prog.built 244 [] = some Z.toArray) := by show _ = _; rw [HZ.out]; kernel_rfl
  have hZl : Z.length = 98 := by rw [HZ.out]; exact sumC_length (by simp) (by simp) _ _
  go_enter Try.func164, Try.ntmps164
  go_wp2_with (first | (refine wl_build0 rfl 244 rfl Z hb.out ?_))
  go_ret2
  have e : Z.set 63 (Value.int .u8 d) = sumC (start d) (List.replicate 32 0) 0 0 := by rw [HZ.out, sumC_set (by simp) 0 0 (by omega)]; rfl
  rw [e]
  exact ⟨rfl, (Below.refl _ _).alloc (Nat.le_refl _) _, sumOk_start (BlkV.new _ w _ rfl)⟩
end Go.Proofs.Ytbljihhelladbaa.hs
/- Contracts of mix.summed and mix.SumOf: a sum of parts. Conditions: a domain of one octet; slices of octets that lie in memory. -/
namespace Go.Proofs.Ytbljihhelladbaa.hs
open Go.RowKit Go.Proofs.Ytbljihhelladbaa.st Go.Proofs.Ytbljihhelladbaa.shr
set_option linter.unusedSimpArgs false
set_option linter.unusedVariables false
set_option pp.maxSteps 6000
/-- a slice of octets, as a part -/
structure Pt where
  a : Option Addr
  c : Nat
  l : List Int
def Pt.v (x : Pt) : Value := .slice x.a x.l.length x.c
structure Pt.Ok (w : World) (x : Pt) : Prop where
  row : RowI .u8 w x.a x.l
  len : x.l.length ≤ x.c
  cap : x.c ≤ maxLen
  oct : Octs x.l
  lt : ∀ b, x.a = some b → b.block < w.heap.size
theorem Pt.Ok.below {w w' : World} {x : Pt} (h : x.Ok w) (hb : Below w.heap.size w w') : x.Ok w' :=
  ⟨h.row.below hb, h.len, h.cap, h.oct, fun b e => Nat.lt_of_lt_of_le (h.lt b e) hb.size⟩
def cat (ps : List Pt) : List Int := (ps.map Pt.l).flatten
theorem cat_snoc (ps : List Pt) (k : Nat) (h : k < ps.length) : cat (ps.take (k + 1)) = cat (ps.take k) ++ ps[k].l := by
  unfold cat
  rw [List.take_succ_eq_append_getElem h, List.map_append, List.flatten_append]; simp
theorem cat_take_le (ps : List Pt) (k : Nat) : (cat (ps.take k)).length ≤ (cat ps).length := by
  conv => rhs; rw [← List.take_append_drop k ps]
  unfold cat
  rw [List.map_append, List.flatten_append, List.length_append]; omega
set_option maxRecDepth 100000 in
set_option maxHeartbeats 1000000 in
theorem summed_ok (d : Int) (hd : Oct d) (po : Option Addr) (cap n : Nat) (ps : List Pt) (w : World) (hn : n = ps.length) (hnm : n ≤ 4611686018427387904) (hrow : RowV w po (ps.map Pt.v)) (hps : ∀ x ∈ ps, x.Ok w) :
    Calls Try.prog 162 #[.int .i64 d, .slice po n cap] w fun e w' => Below w.heap.size w w' ∧ ((cat ps).length ≤ 1048576 ∧ e = .returned (.tuple #[.pointer (some ⟨w.heap.size, 0, none⟩), .int .i64 0]) ∧ SumOk w' w.heap.size (start d) (cat ps) ((cat ps).length : Int) ∨ 1048576 < (cat ps).length ∧ e = .returned (.tuple #[.pointer none, .int .i64 5])) := by
  obtain ⟨B, HB⟩ : ∃ B, Hid (B = w.heap.size) := ⟨_, rfl⟩
  have HN := hid hn
  clear hn
  have hnew := hid (new_ok d w hd)
  have hsd := start_length d
  have hsdo := start_octs hd
  go_enter Try.func162, Try.ntmps162
  go_wp2_with (first | (go_at_call 164; refine hnew.out.mono ?_; rintro e w1 ⟨rfl, hb1, hS1⟩; rw [← HB.out] at hb1 hS1; rw [← HB.out]))
  go_loopw [21] (fun i wr => ∃ k : Nat, k ≤ n ∧ i = .int .i64 k ∧ SumOk wr B (start d) (cat (ps.take k)) ((cat (ps.take k)).length : Int) ∧ (cat (ps.take k)).length ≤ 1048576 ∧ Below B w wr) (fun i _ => n - (intOf i).toNat)
  case atStart => exact ⟨0, by omega, rfl, hS1, by simp [cat], hb1⟩
  case round =>
    obtain ⟨k, hk, rfl, hS, hle, hb⟩ := hrel
    obtain ⟨tl, HTL⟩ : ∃ tl, Hid (tl = (cat (ps.take k)).length) := ⟨_, rfl⟩
    rw [← HTL.out] at hS hle
    by_cases h0 : k < n
    · have hkI : (k : Int) < (n : Int) := by omega
      have hkp : k < ps.length := by have := HN.out; omega
      have hkm : k < (ps.map Pt.v).length := by rw [List.length_map]; exact hkp
      obtain ⟨b, off, rfl, hbw, hcell⟩ := hrow.resolve_left (by intro e; rw [e] at hkm; cases hkm)
      have hx := hps ps[k] (List.getElem_mem hkp)
      have hc := hcell k _ (List.getElem?_eq_getElem hkm)
      rw [List.getElem_map] at hc
      obtain ⟨xa, HXA⟩ : ∃ xa, Hid (xa = (ps[k]'hkp).a) := ⟨_, rfl⟩
      obtain ⟨xc, HXC⟩ : ∃ xc, Hid (xc = (ps[k]'hkp).c) := ⟨_, rfl⟩
      obtain ⟨xl, HXL⟩ : ∃ xl : List Int, Hid (xl = (ps[k]'hkp).l) := ⟨_, rfl⟩
      obtain ⟨m, HM⟩ : ∃ m, Hid (m = xl.length) := ⟨_, rfl⟩
      have hv : Pt.v ps[k] = .slice xa m xc := by rw [HM.out, HXA.out, HXC.out, HXL.out]; rfl
      rw [hv] at hc
      have hcw : wr.cell? ⟨b, off + k, none⟩ = some (.slice xa m xc) := by rw [hb.cell (p := ⟨b, off + k, none⟩) (by rw [HB.out]; exact hbw)]; exact hc
      have hxw := hx.below (by rw [← HB.out]; exact hb)
      have hxr : RowI .u8 wr xa xl := by rw [HXA.out, HXL.out]; exact hxw.row
      have hxl : m ≤ xc := by rw [HM.out, HXL.out, HXC.out]; exact hxw.len
      have hxm : xc ≤ maxLen := by rw [HXC.out]; exact hxw.cap
      have hxo : Octs xl := by rw [HXL.out]; exact hxw.oct
      have hxp : ∀ b, xa = some b → b.block ≠ B := by rw [HXA.out, HB.out]; intro b e; have := hx.lt b e; omega
      have hcat : cat (ps.take (k + 1)) = cat (ps.take k) ++ xl := by rw [HXL.out]; exact cat_snoc ps k hkp
      have hwo := fun h => hid (write_ok B (start d) (cat (ps.take k)) xl xa xc m tl wr HM.out hxl hxm hsd hsdo hxo hxr hxp HTL.out hS h)
      have hwl := fun h => hid (write_large B (start d) (cat (ps.take k)) xa xc m tl wr hxl hxm hsd hle hS h)
      have HCAT := hid hcat
      clear hc hcell hv hx hxw hcat hkm hxm hps
      by_cases h1 : tl + m ≤ 1048576
      · have hw1 := hwo h1
        clear hwo hwl
        go_wp2_with (go_at_call 166; refine hw1.out.mono ?_; rintro e w2 ⟨rfl, hg2, hS2⟩)
        go_roundw
        case rel =>
          have e1 : ((cat (ps.take (k + 1))).length : Int) = ((tl + m : Nat) : Int) := by rw [HCAT.out, List.length_append, HTL.out, HM.out]
          refine ⟨k + 1, by omega, by go_num, ?_, ?_, hb.trans (below_of_grown hg2 (by rw [HB.out]; exact hb.size) (Nat.le_refl _))⟩
          · rw [e1, HCAT.out]; exact hS2
          · rw [HCAT.out, List.length_append, ← HTL.out, ← HM.out]; exact h1
        case measure => simp [intOf] <;> omega
      · have hw1 := hwl (by omega)
        clear hwo hwl
        go_wp2_with (go_at_call 166; refine hw1.out.mono ?_; rintro e w2 ⟨rfl, rfl⟩)
        go_ret2
        refine ⟨by rw [← HB.out]; exact hb, Or.inr ⟨?_, rfl⟩⟩
        have h2 := cat_take_le ps (k + 1)
        rw [HCAT.out, List.length_append, ← HTL.out, ← HM.out] at h2
        omega
    · obtain rfl : k = n := by omega
      have e : ps.take k = ps := List.take_of_length_le (by rw [← HN.out]; exact Nat.le_refl _)
      rw [e] at hS HTL
      go_wp2
      go_ret2
      rw [← HB.out, ← HTL.out]
      exact ⟨hb, Or.inl ⟨hle, rfl, hS⟩⟩
end Go.Proofs.Ytbljihhelladbaa.hs
/- Contracts of mix.SumOf and mix.Sums. Conditions: a domain of one octet; slices of octets that lie in memory. -/
namespace Go.Proofs.Ytbljihhelladbaa.hs
open Go.RowKit Go.Proofs.Ytbljihhelladbaa.st Go.Proofs.Ytbljihhelladbaa.shr
set_option linter.unusedSimpArgs false
set_option linter.unusedVariables false
set_option pp.maxSteps 6000
/-- the zero sum; what SumOf gives -/
def zSum : List Value := (List.replicate 32 (0 : Int)).map (Value.int .u8)
theorem zeroSumZ : (Try.prog.info? 73).map (·.zero) = some (some (.agg zSum.toArray)) := by kernel_rfl
theorem summed_in (d : Int) (hd : Oct d) (po : Option Addr) (cap n : Nat) (ps : List Pt) (w : World) (hn : n = ps.length) (hnm : n ≤ 4611686018427387904) (hrow : RowV w po (ps.map Pt.v)) (hps : ∀ x ∈ ps, x.Ok w) (h : (cat ps).length ≤ 1048576) :
    Calls Try.prog 162 #[.int .i64 d, .slice po n cap] w fun e w' => Below w.heap.size w w' ∧ e = .returned (.tuple #[.pointer (some ⟨w.heap.size, 0, none⟩), .int .i64 0]) ∧ SumOk w' w.heap.size (start d) (cat ps) ((cat ps).length : Int) :=
  (summed_ok d hd po cap n ps w hn hnm hrow hps).mono fun _ _ hh => ⟨hh.1, (hh.2.resolve_right fun x => absurd x.1 (Nat.not_lt.2 h)).2⟩
/-- one part, in a fresh slice -/
theorem one_part {w w0' : World} {B n cap : Nat} {ao : Option Addr} {l : List Int} (hn : n = l.length) (hb : Below B w w0') (hsz : B ≤ w0'.heap.size) (hw : w.heap.size = B) (HP : Pt.Ok w ⟨ao, cap, l⟩) {w0 : World} (h0 : w0 = w0'.alloc (.cells #[.slice ao n cap] 69)) :
    RowV w0 (some ⟨w0'.heap.size, 0, none⟩) ([(⟨ao, cap, l⟩ : Pt)].map Pt.v) ∧ ∀ x ∈ [(⟨ao, cap, l⟩ : Pt)], x.Ok w0 := by
  subst h0 hn
  refine ⟨Or.inr ⟨w0'.heap.size, 0, rfl, by simp, fun j u hu => ?_⟩, fun x hx => ?_⟩
  · have hc := (BlkV.new 69 w0' [.slice ao l.length cap] rfl).cell j
    have e : [(⟨ao, cap, l⟩ : Pt)].map Pt.v = [.slice ao l.length cap] := rfl
    rw [e] at hu
    rw [Nat.zero_add, hc]
    exact hu
  · rw [List.mem_singleton] at hx
    rw [hx]
    exact HP.below (by rw [hw]; exact hb.alloc hsz _)
end Go.Proofs.Ytbljihhelladbaa.hs
/- Contract of mix.Sums: a sum of framed parts. Conditions: a domain of one octet; slices of octets that lie in memory; together, with their lengths, at most 2^20 octets. -/
namespace Go.Proofs.Ytbljihhelladbaa.hs
open Go.RowKit Go.Proofs.Ytbljihhelladbaa.st Go.Proofs.Ytbljihhelladbaa.shr
set_option linter.unusedSimpArgs false
set_option linter.unusedVariables false
set_option pp.maxSteps 6000
def framed (ps : List Pt) : List Int := (ps.map fun x => o4 (x.l.length : Int) ++ x.l).flatten
theorem o4_length (n : Int) : (o4 n).length = 4 := rfl
theorem framed_snoc (ps : List Pt) (k : Nat) (h : k < ps.length) : framed (ps.take (k + 1)) = (framed (ps.take k) ++ o4 ((ps[k].l.length : Nat) : Int)) ++ ps[k].l := by
  unfold framed
  rw [List.take_succ_eq_append_getElem h, List.map_append, List.flatten_append]; simp
theorem framed_take_le (ps : List Pt) (k : Nat) : (framed (ps.take k)).length ≤ (framed ps).length := by
  conv => rhs; rw [← List.take_append_drop k ps]
  unfold framed
  rw [List.map_append, List.flatten_append, List.length_append]; omega
theorem octets4 (n : Int) (w : World) : Calls Try.prog 165 #[.int .u32 n] w fun e w' => e = .returned (.agg ((o4 n).map (Value.int .u8)).toArray) ∧ Below w.heap.size w w' := octets' n w
theorem rowI_belowB {k : IntKind} {w w' : World} {ao : Option Addr} {l : List Int} {B : Nat} (h : RowI k w ao l) (hb : Below B w w') (hlt : ∀ b, ao = some b → b.block < B) : RowI k w' ao l := by
  rcases h with h | ⟨g, off, rfl, hl, hc⟩
  · exact Or.inl h
  · exact Or.inr ⟨g, off, rfl, Nat.lt_of_lt_of_le hl hb.size, fun i hi => by rw [hb.cell (p := ⟨g, off + i, none⟩) (show g < B from hlt ⟨g, off, none⟩ rfl)]; exact hc i hi⟩
theorem agg4 : Agg Try.prog 204 4 := Agg.arr Try.underlying204 (by kernel_rfl)
theorem zeroA4 : (Try.prog.info? 204).map (·.zero) = some (some (.agg ((List.replicate 4 (0 : Int)).map (Value.int .u8)).toArray)) := by kernel_rfl
set_option maxRecDepth 100000 in
set_option maxHeartbeats 1000000 in
theorem sums_in (d : Int) (hd : Oct d) (po : Option Addr) (cap n : Nat) (ps : List Pt) (w : World) (hn : n = ps.length) (hnm : n ≤ 4611686018427387904) (hrow : RowV w po (ps.map Pt.v)) (hps : ∀ x ∈ ps, x.Ok w) (hle : (framed ps).length ≤ 1048576) :
    Calls Try.prog 114 #[.int .i64 d, .slice po n cap] w fun e w' => e = .returned (.tuple #[.agg ((sumL d (framed ps)).map (Value.int .u8)).toArray, .int .i64 0]) ∧ Below w.heap.size w w' := by
  obtain ⟨Y, HY⟩ : ∃ Z, Hid (Z = zSum) := ⟨_, rfl⟩
  have hz32 := hid zeroSumZ
  rw [← HY.out] at hz32
  have hYl : Y.length = 32 := by rw [HY.out]; simp [zSum]
  obtain ⟨Z4, HZ4⟩ : ∃ Z, Hid (Z = (List.replicate 4 (0 : Int)).map (Value.int .u8)) := ⟨_, rfl⟩
  have hz4 := hid zeroA4
  rw [← HZ4.out] at hz4
  have hZ4l : Z4.length = 4 := by rw [HZ4.out]; rfl
  obtain ⟨B, HB⟩ : ∃ B, Hid (B = w.heap.size) := ⟨_, rfl⟩
  have hsz : w.heap.size = B := HB.out.symm
  obtain ⟨S, HS⟩ : ∃ S : List Int, Hid (S = sumL d (framed ps)) := ⟨_, rfl⟩
  have hS1 : ∀ u ∈ S.map (Value.int .u8), u.oneCell' = true := ints_one _ _
  have hSm : (S.map (Value.int .u8)).length = 32 := by rw [List.length_map, HS.out, sumL_length]
  have hsd := start_length d
  have hsdo := start_octs hd
  have hal4 : Try.prog.arrayLen 204 = 4 := by kernel_rfl
  have hnew := fun w => hid (new_ok d w hd)
  obtain ⟨tt, HTT⟩ : ∃ tt, Hid (tt = (framed ps).length) := ⟨_, rfl⟩
  have hend := fun p w => hid (sum_ok p d (framed ps) tt w hd HTT.out (by rw [HTT.out]; exact hle))
  rw [← HS.out] at hend
  rw [← HS.out]
  have HN := hid hn
  have HLE := hid hle
  clear hn hle
  go_enter Try.func114, Try.ntmps114
  go_wp2_with (first | (refine wl_allocV rfl 73 rfl Y hz32.out B hsz ?_; intro w1 hR1 hb1 hs1; clear hz32) | (go_at_call 164; refine (hnew w1).out.mono ?_; rintro e w2 ⟨rfl, hb2, hS2⟩; rw [hs1] at hb2 hS2; rw [hs1]; have hR2 := hR1.below hb2 (by omega); have bb2 : Below B w w2 := hb1.trans (hb2.mono (by omega)); clear hb2 hR1 hb1))
  go_loopw [22] (fun i wr => ∃ k : Nat, k ≤ n ∧ i = .int .i64 k ∧ SumOk wr (B + 1) (start d) (framed (ps.take k)) ((framed (ps.take k)).length : Int) ∧ BlkV 73 wr B Y ∧ Below B w wr) (fun i _ => n - (intOf i).toNat)
  case atStart => exact ⟨0, by omega, rfl, hS2, hR2, bb2⟩
  case round =>
    obtain ⟨k, hk, rfl, hS, hR, hb⟩ := hrel
    obtain ⟨tl, HTL⟩ : ∃ tl, Hid (tl = (framed (ps.take k)).length) := ⟨_, rfl⟩
    rw [← HTL.out] at hS
    by_cases h0 : k < n
    · have hkI : (k : Int) < (n : Int) := by omega
      have hkp : k < ps.length := by have := HN.out; omega
      have hkm : k < (ps.map Pt.v).length := by rw [List.length_map]; exact hkp
      obtain ⟨b, off, rfl, hbw, hcell⟩ := hrow.resolve_left (by intro e; rw [e] at hkm; cases hkm)
      have hx := hps ps[k] (List.getElem_mem hkp)
      have hc := hcell k _ (List.getElem?_eq_getElem hkm)
      rw [List.getElem_map] at hc
      obtain ⟨xa, HXA⟩ : ∃ xa, Hid (xa = (ps[k]'hkp).a) := ⟨_, rfl⟩
      obtain ⟨xc, HXC⟩ : ∃ xc, Hid (xc = (ps[k]'hkp).c) := ⟨_, rfl⟩
      obtain ⟨xl, HXL⟩ : ∃ xl : List Int, Hid (xl = (ps[k]'hkp).l) := ⟨_, rfl⟩
      obtain ⟨m, HM⟩ : ∃ m, Hid (m = xl.length) := ⟨_, rfl⟩
      have hv : Pt.v ps[k] = .slice xa m xc := by rw [HM.out, HXA.out, HXC.out, HXL.out]; rfl
      rw [hv] at hc
      have hcw : wr.cell? ⟨b, off + k, none⟩ = some (.slice xa m xc) := by rw [hb.cell (p := ⟨b, off + k, none⟩) (by rw [HB.out]; exact hbw)]; exact hc
      have hxw := hx.below (by rw [← HB.out]; exact hb)
      have hxr : RowI .u8 wr xa xl := by rw [HXA.out, HXL.out]; exact hxw.row
      have hxl : m ≤ xc := by rw [HM.out, HXL.out, HXC.out]; exact hxw.len
      have hxm := hid hxw.cap
      rw [← HXC.out] at hxm
      have hxo : Octs xl := by rw [HXL.out]; exact hxw.oct
      have hxB : ∀ b, xa = some b → b.block < B := by rw [HXA.out, HB.out]; intro b e; exact hx.lt b e
      have hxp : ∀ b, xa = some b → b.block ≠ B + 1 := fun b e => by have := hxB b e; omega
      obtain ⟨F, HF⟩ : ∃ F : List Int, Hid (F = framed (ps.take k)) := ⟨_, rfl⟩
      rw [← HF.out] at hS
      have hcat : framed (ps.take (k + 1)) = (F ++ o4 (m : Int)) ++ xl := by rw [HF.out, HM.out, HXL.out]; exact framed_snoc ps k hkp
      have hlen : tl + 4 + m ≤ 1048576 := by
        have h1 := framed_take_le ps (k + 1)
        have h2 := HLE.out
        rw [hcat, List.length_append, List.length_append, o4_length, HF.out, ← HTL.out, ← HM.out] at h1
        omega
      have HCAT := hid hcat
      have e1 : IntKind.u32.wrap (m : Int) = (m : Int) := IntWalk.u32_in _ (by omega)
      obtain ⟨O, HO⟩ : ∃ O, Hid (O = (o4 (m : Int)).map (Value.int .u8)) := ⟨_, rfl⟩
      have hOl : O.length = 4 := by rw [HO.out]; rfl
      have hO1 : ∀ u ∈ O, u.oneCell' = true := by rw [HO.out]; exact ints_one _ _
      have hoc := fun w => hid (octets4 (m : Int) w)
      rw [← HO.out] at hoc
      have hTF : tl = F.length := by rw [HF.out]; exact HTL.out
      have HTF := hid hTF
      have hsB := hS.lt
      clear hc hcell hv hx hxw hcat hkm hps hTF
      go_wp2_with (first | (go_at_call 165; refine (hoc wr).out.mono ?_; rintro e w3 ⟨rfl, hb3⟩; have hR3 := hR.below hb3 (by omega); have hS3 := hS.grown hb3 hsB; have hx3 := hxr.below hb3; have bb3 := hb.trans (hb3.mono (by omega : B ≤ _)); have hs3 := hb3.size; clear hR hS hxr hb hb3) | (refine wl_allocV rfl 204 rfl Z4 hz4.out w3.heap.size rfl ?_; intro w4 hO4 hb4 hs4; have hR4 := hR3.below hb4 (by omega); have hS4 := hS3.grown hb4 (by omega); have hx4 := hx3.below hb4; have bb4 := bb3.trans (hb4.mono (by omega : B ≤ _)); clear hR3 hS3 hx3 bb3 hb4) | (refine wl_storeV rfl 204 _ _ rfl 204 w3.heap.size rfl O rfl 4 agg4 hOl Z4 hO4 hZ4l hO1 ?_; intro w5 hO5 hb5 hs5; have hR5 := hR4.below hb5 (by omega); have hS5 := hS4.grown hb5 (by omega); have bb5 := bb4.trans (hb5.mono (by omega : B ≤ _)); have hrO : RowI .u8 w5 (some ⟨w3.heap.size, 0, none⟩) (o4 (m : Int)) := (by rw [HO.out] at hO5; exact BlkI.row hO5); clear hR4 hS4 bb4 hO4) | (go_at_call 166; refine (write_ok (B + 1) (start d) F (o4 (m : Int)) (some ⟨w3.heap.size, 0, none⟩) 4 4 tl w5 rfl (Nat.le_refl _) (by decide) hsd hsdo (o4_octs _) hrO (fun b e => by cases e; simp; omega) HTF.out hS5 (by omega)).mono ?_; rintro e w6 ⟨rfl, hg6, hS6⟩; have hb6 := below_of_grown (B := B + 1) hg6 (by omega) (Nat.le_refl _); have hR6 := hR5.below hb6 (by omega); have hx6 := rowI_grown (rowI_belowB hx4 hb5 (fun b e => by have := hxB b e; omega)) hg6 hxp; have bb6 := bb5.trans (hb6.mono (by omega : B ≤ _)); clear hR5 hS5 bb5 hrO hb6 hb5 hx4) | (go_at_call 166; refine (write_ok (B + 1) (start d) (F ++ o4 (m : Int)) xl xa xc m (tl + 4) w6 HM.out hxl hxm.out hsd hsdo hxo hx6 hxp (by rw [List.length_append, o4_length, HTF.out]) hS6 (by omega)).mono ?_; rintro e w7 ⟨rfl, hg7, hS7⟩; have hb7 := below_of_grown (B := B + 1) hg7 (by have := hS6.lt; omega) (Nat.le_refl _); have hR7 := hR6.below hb7 (by omega); have bb7 := bb6.trans (hb7.mono (by omega : B ≤ _)); clear hR6 hS6 bb6 hb7 hx6))
      go_roundw
      case rel =>
        refine ⟨k + 1, by omega, by go_num, ?_, hR7, bb7⟩
        have e2 : ((framed (ps.take (k + 1))).length : Int) = ((tl + 4 + m : Nat) : Int) := by rw [HCAT.out, List.length_append, List.length_append, o4_length, HTF.out, HM.out]
        rw [e2, HCAT.out]; exact hS7
      case measure => simp [intOf] <;> omega
    · obtain rfl : k = n := by omega
      have e : ps.take k = ps := List.take_of_length_le (by rw [← HN.out]; exact Nat.le_refl _)
      rw [e] at hS HTL
      have e2 : tl = tt := by rw [HTL.out, HTT.out]
      rw [e2] at hS
      have hsB := hS.lt
      go_wp2_with (first | (go_at_call 163; refine ((hend _ wr).out hS).mono ?_; rintro e w3 ⟨rfl, hb3⟩; have hR3 := hR.below hb3 (by omega); have bb3 := hb.trans (hb3.mono (by omega : B ≤ _)); clear hR hS hb hb3) | (refine wl_storeV rfl 73 _ _ rfl 73 B rfl (S.map (Value.int .u8)) rfl 32 aggSumT hSm Y hR3 hYl hS1 ?_; intro w4 hR4 hb4 hs4))
      (try simp only [Exit.inBlock, Exit.then]); refine bodyPost_ret (results_cell2 rfl _ _ _ _ rfl (S.map (Value.int .u8)) (by rw [hSm]; exact aggSumT) hR4.at0) rfl ?_
      exact ⟨rfl, by rw [← HB.out]; exact bb3.trans hb4⟩
end Go.Proofs.Ytbljihhelladbaa.hs
