/-
  Contracts of keyref2.TextHead; what a text in blocks is. Conditions: keys and nonces of octets; texts that lie in memory. Contracts of mix.Long at place 24, of the number of a text's blocks and of wrap.look. Conditions: octets that lie in memory.
-/
import Derived.Test.YtbljihhelladbaaTTsB
import Derived.Test.YtbljihhelladbaaTWsV
namespace Go.Proofs.Ytbljihhelladbaa.wr
open Go.RowKit Go.Proofs.Ytbljihhelladbaa.st Go.Proofs.Ytbljihhelladbaa.hs Go.Proofs.Ytbljihhelladbaa.shr Go.Proofs.Ytbljihhelladbaa.sh
set_option linter.unusedSimpArgs false
set_option linter.unusedVariables false
set_option pp.maxSteps 6000
def kwt : List Int := [75, 87, 84, 49]
/-- a text's head -/
def headT (n : List Int) (bs len : Nat) : List Int := kwt ++ n ++ o4 (bs : Int) ++ o8 (len : Int)
/-- the part of a text that lies in a block -/
def partT (t : List Int) (bs j : Nat) : List Int := (t.drop (j * bs)).take (min t.length ((j + 1) * bs) - j * bs)
def covB (k n t : List Int) (bs j : Nat) : List Int := coverL k (nonB n (j : Int)) (partT t bs j)
def blkB (k n h f t : List Int) (bs j : Nat) : List Int := covB k n t bs j ++ tagB k h f (j : Int) (covB k n t bs j)
def bodyB (k n h f t : List Int) (bs m : Nat) : List Int := (List.range m).flatMap (blkB k n h f t bs)
def manyT (len bs : Nat) : Nat := (len + bs - 1) / bs
/-- a text in blocks -/
def sealT (k n h t : List Int) (bs : Nat) : List Int := headT n bs t.length ++ bodyB k n h (headT n bs t.length) t bs (manyT t.length bs)
def sealE (bs : Int) (hn tn : Nat) : Int := if bs < 16 ∨ 65536 < bs then 4 else if 4096 < hn ∨ 262144 < tn then 5 else 0
theorem kwt_octs : Octs kwt := by
  intro c hc
  unfold kwt at hc
  simp only [List.mem_cons, List.not_mem_nil, or_false] at hc
  rcases hc with rfl | rfl | rfl | rfl <;> exact ⟨by decide, by decide⟩
theorem headT_length {n : List Int} (hn : n.length = 16) (bs len : Nat) : (headT n bs len).length = 32 := by unfold headT kwt; simp [hn, o4_length, o8_length]
theorem headT_octs {n : List Int} (on : Octs n) (bs len : Nat) : Octs (headT n bs len) := octs_app (octs_app (octs_app kwt_octs on) (o4_octs _)) (o8_octs _)
theorem bodyB_succ (k n h f t : List Int) (bs m : Nat) : bodyB k n h f t bs (m + 1) = bodyB k n h f t bs m ++ blkB k n h f t bs m := by unfold bodyB; rw [List.range_succ, List.flatMap_append]; simp
theorem partT_length {t : List Int} {bs j : Nat} : (partT t bs j).length = min t.length ((j + 1) * bs) - j * bs := by unfold partT; rw [List.length_take, List.length_drop]; omega
theorem partT_octs {t : List Int} (ht : Octs t) (bs j : Nat) : Octs (partT t bs j) := fun c hc => ht c (List.mem_of_mem_drop (List.mem_of_mem_take hc))
theorem covB_length (k n t : List Int) (bs j : Nat) : (covB k n t bs j).length = (partT t bs j).length := coverL_length _ _ _
theorem covB_octs (k n : List Int) {t : List Int} (ht : Octs t) (bs j : Nat) : Octs (covB k n t bs j) := coverL_octs _ _ (partT_octs ht bs j)
theorem tagB_octs (k h f : List Int) (i : Int) (c : List Int) : Octs (tagB k h f i c) := by unfold tagB tagL; exact fun x hx => sumL_octs _ _ x (List.mem_of_mem_take hx)
theorem many_of {len bs j : Nat} (hb : 0 < bs) (h1 : len ≤ j * bs) (h2 : j = 0 ∨ j * bs < len + bs) : manyT len bs = j := by
  unfold manyT
  rcases h2 with h2 | h2
  · subst h2
    have : len = 0 := by omega
    subst this
    exact Nat.div_eq_of_lt (by omega)
  · refine Nat.div_eq_of_lt_le (by omega) ?_
    rw [Nat.succ_mul]
    omega
theorem many_le {len bs : Nat} (hb : 16 ≤ bs) (hl : len ≤ 262144) : manyT len bs ≤ 16385 := by
  unfold manyT
  refine Nat.le_of_lt_succ ((Nat.div_lt_iff_lt_mul (by omega)).2 ?_)
  have : (16385 + 1) * bs = 16384 * bs + 2 * bs := by omega
  omega
theorem bodyB_octs (k n h f : List Int) {t : List Int} (ht : Octs t) (bs m : Nat) : Octs (bodyB k n h f t bs m) := by
  intro c hc
  unfold bodyB at hc
  obtain ⟨j, _, hj⟩ := List.mem_flatMap.1 hc
  exact octs_app (covB_octs k n ht bs j) (tagB_octs _ _ _ _ _) c hj
theorem sealT_octs (k h : List Int) {n t : List Int} (on : Octs n) (ht : Octs t) (bs : Nat) : Octs (sealT k n h t bs) := octs_app (headT_octs on _ _) (bodyB_octs _ _ _ _ ht _ _)
theorem wrap_mul {j bs q : Nat} {i b : Int} (hi : i = (j : Int)) (hb : b = (bs : Int)) (h : q = j * bs) (hq : q ≤ 1000000) : RowKit.wrap64 (i * b) = (q : Int) := by
  have e : i * b = (q : Int) := by rw [hi, hb, h]; simp
  rw [e]; unfold RowKit.wrap64; omega
theorem wrap_mul1 {j bs r : Nat} {i b : Int} (hi : i = (j : Int)) (hb : b = (bs : Int)) (h : r = (j + 1) * bs) (hr : r ≤ 1000000) : RowKit.wrap64 ((i + 1) * b) = (r : Int) := by
  have e : (i + 1) * b = (r : Int) := by rw [hi, hb, h]; simp
  rw [e]; unfold RowKit.wrap64; omega
theorem wrapI_mul {j bs q : Nat} {i b : Int} (hi : i = (j : Int)) (hb : b = (bs : Int)) (h : q = j * bs) (hq : q ≤ 1000000) : IntKind.i64.wrap (i * b) = (q : Int) := by
  have e : i * b = (q : Int) := by rw [hi, hb, h]; simp
  rw [e]; exact IntWalk.i64_in _ (by omega)
theorem wrapI_mul1 {j bs r : Nat} {i b : Int} (hi : i = (j : Int)) (hb : b = (bs : Int)) (h : r = (j + 1) * bs) (hr : r ≤ 1000000) : IntKind.i64.wrap ((i + 1) * b) = (r : Int) := by
  have e : (i + 1) * b = (r : Int) := by rw [hi, hb, h]; simp
  rw [e]; exact IntWalk.i64_in _ (by omega)
theorem wrapI_one {j : Nat} {i : Int} (hi : i = (j : Int)) (hj : j ≤ 1000000) : IntKind.i64.wrap (i + 1) = i + 1 := by rw [hi]; exact IntWalk.i64_in _ (by omega)
theorem min_cast {m r z : Nat} (h : z = min m r) : min (m : Int) (r : Int) = (z : Int) := by rw [h]; omega
/-- what is written so far: an own row, or the head itself, which has no room -/
def OutR (w : World) (base gf : Nat) (vo : Option Addr) (m vc : Nat) (xs : List Value) : Prop :=
  Mine w base 5 1 (.slice vo m vc) m xs ∨ (vo = some ⟨gf, 0, none⟩ ∧ vc = m ∧ xs.length = m * 1 ∧ At w ⟨gf, 0, none⟩ xs)
theorem OutR.below {w w' : World} {base gf m vc : Nat} {vo : Option Addr} {xs : List Value} (h : OutR w base gf vo m vc xs) (hb : Below w.heap.size w w') (hg : gf < w.heap.size) : OutR w' base gf vo m vc xs := by
  rcases h with h | ⟨h1, h2, h3, h4⟩
  · exact Or.inl (Mine.belowAll h hb)
  · exact Or.inr ⟨h1, h2, h3, at_below h4 hb hg⟩
theorem step_appendO {ops : Array Oper} {o : Oper} {a : Act} {w : World} {K : Act → World → Prop} {Q : Exit → Act → World → Prop} {E : Prop} (hgd : o.guard = none) (s x : Operand)
    (ho : o.op = .call { callee := .builtin .append, args := #[s, x], argTypes := #[69, 69] }) (base gf : Nat) (vo : Option Addr) (n vc : Nat) (xs : List Value) (hs : a.eval s = .slice vo n vc) (hO : OutR w base gf vo n vc xs)
    (ad : Addr) (m c : Nat) (hx : a.eval x = .slice (some ad) m c) (news : List Value) (hl : news.length = m * 1) (hrow : RowV w (some ad) news) (hnews : At w ad news) (h1 : ∀ u ∈ news, u.oneCell' = true) (hm : 0 < m)
    (hb : n + m ≤ 1099511627776) (hbase : base ≤ w.heap.size) (N : Nat) (hN : N = n + m)
    (hK : ∀ ao' cap' w' row, N ≤ cap' → Mine w' base 5 1 (.slice ao' N cap') N (xs ++ news) → w.grownBy w' row → (∀ k, row = some k → base ≤ k ∧ (Value.slice vo n vc).ownBlock = some k) → K (a.put o.dst (.slice ao' N cap')) w') : if Region.wanted o (yielded ops a.tmps) = true then Oper.wp Try.prog o a w K Q else E := by
  rcases hO with hO | ⟨rfl, rfl, h3, h4⟩
  · exact step_appendS hgd s x 69 ho 5 (.int .u8 0) 1 1 Try.underlying69 info8 rfl (by decide) base _ n xs hs hO (some ad) m c hx (fun h => by cases h) news hl hrow h1 (by unfold maxLen; omega) (by omega) hbase N hN
      (fun ao' cap' w' row q1 q2 _ q4 q5 => hK ao' cap' w' row q1 q2 q4 q5)
  · exact step_appendArg hgd s x ho ⟨gf, 0, none⟩ _ _ hs xs h3 h4 ad m c hx news hl hnews (by omega) hb base hbase N hN
      (fun ao' cap' w' q1 q2 q3 => hK ao' cap' w' none q1 q2 q3 (fun k hk => by cases hk))
theorem ptBelowC {w w' : World} {x : Pt} {C : Nat} (h : x.Ok w) (hb : Below C w w') (hlt : ∀ b, x.a = some b → b.block < C) : x.Ok w' :=
  ⟨rowI_belowB h.row hb hlt, h.len, h.cap, h.oct, fun b e => Nat.lt_of_lt_of_le (h.lt b e) hb.size⟩
theorem ptDrew {w : World} {x : Pt} (h : x.Ok w) : x.Ok w.drew := ⟨h.row, h.len, h.cap, h.oct, h.lt⟩
theorem ptAt {w : World} {g c : Nat} {l : List Int} (h : Pt.Ok w ⟨some ⟨g, 0, none⟩, c, l⟩) : At w ⟨g, 0, none⟩ (l.map (Value.int .u8)) := by
  rcases h.row.v with h1 | ⟨b, off, e, _, h3⟩
  · intro j u hu; rw [h1] at hu; cases hu
  · cases e
    intro j u hu
    have := h3 j u hu
    have e2 : (⟨g, 0, none⟩ : Addr).add j = ⟨g, 0 + j, none⟩ := by unfold Addr.add; split <;> simp_all
    rw [e2]; exact this
theorem OutR.belowC {w w' : World} {base gf m vc : Nat} {vo : Option Addr} {xs : List Value} (h : OutR w base gf vo m vc xs) (hb : Below w.heap.size w w') (hg : gf < w.heap.size) : OutR w' base gf vo m vc xs := h.below hb hg
theorem OutR.lt {w : World} {base gf m vc : Nat} {vo : Option Addr} {xs : List Value} (h : OutR w base gf vo m vc xs) (hm : 0 < m) (hg : gf < w.heap.size) (k : Nat) (hk : (Value.slice vo m vc).ownBlock = some k) : k < w.heap.size := by
  rcases h with h | ⟨rfl, _, _, _⟩
  · exact ((mine_own h hm).lt k hk).2
  · simp only [Value.ownBlock] at hk
    first | (have := Option.some.inj hk; omega) | (simp at hk; omega)
theorem yieldsIf_cutLH {ops : Array Oper} {S : World → Prop} {op : Oper} {a : Act} (hw : Region.wanted op (yielded ops a.tmps) = true) (x y z : Operand) (ho : op.op = .slice 69 x (some y) (some z) none)
    (ao : Option Addr) (n c : Nat) (hx : a.eval x = .slice ao n c) (l h : Nat) (li hi : Int) (hy : a.eval y = .int .i64 li) (hli : li = (l : Int)) (hz : a.eval z = .int .i64 hi) (hhi : hi = (h : Int)) (hl : l ≤ h) (hh : h ≤ c) (N C : Nat) (hN : N = h - l) (hC : C = c - l) (ax : Option Addr) (hax : ax = if c = l then ao else ao.map (·.add (l * 1))) : YieldsIf Try.prog ops S op (.slice ax N C) a :=
  .inl ⟨hw, fun w _ => by
    subst hN hC hli hhi hax
    have hrun := run_slice_lh (P := Try.prog) w 69 ao n c elem8 .i64 .i64 (l : Int) (h : Int) (by omega) (by omega) (by omega)
    rw [size8e] at hrun
    simp only [Result.andThen_ok, Int.toNat_natCast, sliced] at hrun
    unfold execOp
    simp only [ho, hx, Option.map_some, Option.map_none, hy, hz, run_sliceAt_slice (P := Try.prog) w _ _ _ _ _ elem8, hrun, Sem.run_bind, Result.andThen_ok, Sem.run_pure]⟩
set_option maxRecDepth 100000 in
set_option maxHeartbeats 8000000 in
theorem TextHead_any (n : List Int) (bs len : Nat) (w : World) (hn : n.length = 16) (on : Octs n) :
    Calls Try.prog 137 #[.agg (n.map (Value.int .u8)).toArray, .int .i64 bs, .int .i64 len] w fun e w' => ∃ g c, e = .returned (.slice (some ⟨g, 0, none⟩) 32 c) ∧ Own8 w.heap.size w' g c 32 (headT n bs len) ∧ Below w.heap.size w w' := by
  obtain ⟨B, HB⟩ : ∃ B, Hid (B = w.heap.size) := ⟨_, rfl⟩
  have hsz : w.heap.size = B := HB.out.symm
  obtain ⟨K, HK⟩ : ∃ K, Hid (K = n.map (Value.int .u8)) := ⟨_, rfl⟩
  have hKl : K.length = 16 * 1 := by rw [HK.out, List.length_map, hn]
  have hK1 : ∀ u ∈ K, u.oneCell' = true := by rw [HK.out]; exact ints_one _ _
  have hal : Try.prog.arrayLen 25 = 16 := by kernel_rfl
  have h4 := fun y => hid (Octets_any (bs : Int) 4 y (by decide))
  have h8 := fun y => hid (Octets_any (len : Int) 8 y (by decide))
  simp only [octN_eight, octN_four] at h4 h8
  have HE : Hid ((headT n bs len).map (Value.int .u8) = ((([.int .u8 75, .int .u8 87, .int .u8 84, .int .u8 49] ++ K) ++ (o4 (bs : Int)).map (Value.int .u8)) ++ (o8 (len : Int)).map (Value.int .u8))) := hid (by unfold headT kwt; simp only [List.map_append, HK.out]; rfl)
  rw [← HK.out]
  clear hn
  go_enter Try.func137, Try.ntmps137
  go_wp2_with (first | (at_builtin; refine wl_appendS rfl _ _ 69 rfl 5 (.int .u8 0) 1 1 Try.underlying69 info8 rfl (by decide) (B + 1) _ 24 _ rfl (Mine.belowAll hM5 b6) (some ⟨w5.heap.size, 0, none⟩) 8 8 rfl (fun h => by cases h) ((o8 (len : Int)).map (Value.int .u8)) (by rw [List.length_map, o8_length]) (at_row hI6.v.lt hI6.v.at0) (ints_one _ _) (by decide) (by decide) (by have := b6.size; omega) 32 rfl ?_; intro ao7 c7 w7 row7 hc7 hM7 hv7 hg7 hr7; have bb7 : Below B w w7 := (bb5.trans (b6.mono (by omega : B ≤ _))).grown hg7 (by have := b6.size; omega) (fun k hk => by have := (hr7 k hk).1; omega)) | (go_at_call 112; refine (h8 w5).out.mono ?_; rintro e w6 ⟨rfl, hI6, b6⟩) | (at_builtin; refine wl_appendS rfl _ _ 69 rfl 5 (.int .u8 0) 1 1 Try.underlying69 info8 rfl (by decide) (B + 1) _ 20 _ rfl (Mine.belowAll hM3 b4) (some ⟨w3.heap.size, 0, none⟩) 4 4 rfl (fun h => by cases h) ((o4 (bs : Int)).map (Value.int .u8)) (by rw [List.length_map, o4_length]) (at_row hI4.v.lt hI4.v.at0) (ints_one _ _) (by decide) (by decide) (by have := b4.size; omega) 24 rfl ?_; intro ao5 c5 w5 row5 hc5 hM5 hv5 hg5 hr5; have hs5 := hg5.size; have bb5 : Below B w w5 := (bb3.trans (b4.mono (by omega : B ≤ _))).grown hg5 (by have := b4.size; omega) (fun k hk => by have := (hr5 k hk).1; omega); have hs5' : B + 1 ≤ w5.heap.size := (by have := b4.size; omega); clear hs5) | (go_at_call 112; refine (h4 w3).out.mono ?_; rintro e w4 ⟨rfl, hI4, b4⟩) | (at_builtin; refine wl_appendArg rfl _ _ rfl ⟨B + 1, 0, none⟩ 4 4 rfl [.int .u8 75, .int .u8 87, .int .u8 84, .int .u8 49] rfl hAc ⟨B, 0, none⟩ 16 16 rfl K hKl (hBc.at0) (by decide) (by decide) (B + 1) (by omega) 20 rfl ?_; intro ao3 c3 w3 hc3 hM3 hg3; have hs3 : B + 1 ≤ w3.heap.size := (by have := hg3.size; omega); have bb3 : Below B w w3 := (hba.trans (hbc.mono (by omega : B ≤ _))).grown hg3 (by omega) (fun k hk => by cases hk)) | (refine wl_convC rfl _ rfl [.int .u8 75, .int .u8 87, .int .u8 84, .int .u8 49] 4 4 rfl (B + 1) HSA.out ?_; intro wc hAc hbc hsc; have hBc := hBa.below hbc (by omega)) | (refine wl_boxV rfl 25 _ rfl K rfl B hsz ?_; intro wa hBa hba hsa; have HSA := hid hsa; clear hsa))
  go_ret
  rw [← HE.out] at hM7
  obtain ⟨g, rfl, _, _, hO⟩ := Own8.of (hM7.mono (by omega : B ≤ B + 1)) (by decide)
  exact ⟨g, _, rfl, by rw [hsz]; exact hO, by first | exact bb7 | (rw [hsz]; exact bb7)⟩
end Go.Proofs.Ytbljihhelladbaa.wr
namespace Go.Proofs.Ytbljihhelladbaa.wr
open Go.RowKit Go.Proofs.Ytbljihhelladbaa.st Go.Proofs.Ytbljihhelladbaa.hs Go.Proofs.Ytbljihhelladbaa.shr Go.Proofs.Ytbljihhelladbaa.sh
set_option linter.unusedSimpArgs false
set_option linter.unusedVariables false
set_option pp.maxSteps 6000
theorem or_sum64 (a b : Int) (ha : 0 ≤ a ∧ a < 4294967296) (hb : 0 ≤ b ∧ b < 4294967296) : bits .or .u64 (a * 4294967296) b = a * 4294967296 + b := by
  obtain ⟨m, rfl⟩ := Int.eq_ofNat_of_zero_le ha.1
  obtain ⟨n, rfl⟩ := Int.eq_ofNat_of_zero_le hb.1
  have e : (m : Int) * 4294967296 = ((m * 2 ^ 32 : Nat) : Int) := by omega
  rw [e, u64_or_nat _ _ (by omega) (by omega)]
  have h := Nat.two_pow_add_eq_or_of_lt (i := 32) (by omega : n < 2 ^ 32) m
  rw [Nat.mul_comm] at h
  rw [← h, Int.natCast_add]
/-- the parts of a text's head -/
def blkN (b : List Int) : Int := numL (seg b 20 4)
def highN (b : List Int) : Int := numL (seg b 24 4)
def sizN (b : List Int) : Int := numL (seg b 28 4)
def longN (b : List Int) : Int := highN b * 4294967296 + sizN b
def longE (b : List Int) : Int := if 4611686018427387904 < longN b then 4 else 0
/-- how many octets there must be -/
def wholeN (b : List Int) : Nat := 32 + (sizN b).toNat + 16 * manyT (sizN b).toNat (blkN b).toNat
/-- what is wrong with a text in blocks -/
def lookE (b : List Int) : Int :=
  if b.length < 32 then 1 else if ¬ b.take 4 = kwt then 2 else if blkN b < 16 ∨ 65536 < blkN b then 4 else if highN b ≠ 0 ∨ 262144 < sizN b then 5 else if b.length < wholeN b then 1 else if wholeN b < b.length then 2 else 0
theorem longE_eq {b : List Int} (hb : Octs b) : (longE b ≠ 0 ∨ 262144 < longN b) ↔ (highN b ≠ 0 ∨ 262144 < sizN b) := by
  have h1 := numL4_b hb 24
  have h2 := numL4_b hb 28
  unfold longE longN highN sizN
  constructor
  · intro h
    by_cases h0 : numL (seg b 24 4) = 0
    · right
      rw [h0] at h
      rcases h with h | h
      · rw [if_neg (by omega)] at h; exact absurd rfl h
      · omega
    · exact Or.inl h0
  · intro h
    right
    rcases h with h | h <;> omega
set_option maxRecDepth 100000 in
set_option maxHeartbeats 2000000 in
theorem word_list (l : List Int) (h : l.length = 4) (ho : Octs l) (w : World) : Calls Try.prog 179 #[.agg (l.map (Value.int .u8)).toArray] w fun e w' => e = .returned (.int .u32 (numL l)) ∧ Below w.heap.size w w' := by
  match l, h with
  | [a, b, c, d], _ =>
    have hW : numL [a, b, c, d] = w4 a b c d := by unfold w4; simp [numL]; omega
    rw [hW]
    have q := fun i => ho.getD i
    exact word a b c d w (q 0) (q 1) (q 2) (q 3)
set_option maxRecDepth 100000 in
set_option maxHeartbeats 4000000 in
theorem Long_24 (b off cap n : Nat) (l : List Int) (w : World) (hn : n = l.length) (HP : Pt.Ok w ⟨some ⟨b, off, none⟩, cap, l⟩) (hk : 32 ≤ n) :
    Calls Try.prog 215 #[.slice (some ⟨b, off, none⟩) n cap, .int .i64 24] w fun e w' => e = .returned (.tuple #[.int .i64 (if longE l = 0 then longN l else 0), .int .i64 (longE l)]) ∧ Below w.heap.size w w' := by
  obtain ⟨B, HB⟩ : ∃ B, Hid (B = w.heap.size) := ⟨_, rfl⟩
  have hsz : w.heap.size = B := HB.out.symm
  have hcap : n ≤ cap := by rw [hn]; exact HP.len
  have hmax : cap ≤ maxLen := HP.cap
  unfold maxLen at hmax
  have hro := fun y => hid (room_ok (some ⟨b, off, none⟩) n cap 24 8 y (by omega) (by unfold maxLen; omega))
  obtain ⟨b', off', hao, hb, hc⟩ := HP.row.at (i := 0) (by show 0 < l.length; omega)
  cases hao
  have hatH := seg_at (l := l) hc (k := 24) (n := 4) (by omega)
  have hatL := seg_at (l := l) hc (k := 28) (n := 4) (by omega)
  obtain ⟨H, HH⟩ : ∃ H, Hid (H = seg l 24 4) := ⟨_, rfl⟩
  obtain ⟨L, HL⟩ : ∃ H, Hid (H = seg l 28 4) := ⟨_, rfl⟩
  rw [← HH.out] at hatH
  rw [← HL.out] at hatL
  have hHl : H.length = 4 := by rw [HH.out]; exact seg_length (by omega)
  have hLl : L.length = 4 := by rw [HL.out]; exact seg_length (by omega)
  have hHo : Octs H := by rw [HH.out]; exact seg_octs HP.oct _ _
  have hLo : Octs L := by rw [HL.out]; exact seg_octs HP.oct _ _
  have hHb : 0 ≤ numL H ∧ numL H ≤ 4294967295 := by rw [HH.out]; exact numL4_b HP.oct 24
  have hLb : 0 ≤ numL L ∧ numL L ≤ 4294967295 := by rw [HL.out]; exact numL4_b HP.oct 28
  have HLN : Hid (longN l = numL H * 4294967296 + numL L) := hid (by unfold longN highN sizN; rw [HH.out, HL.out])
  obtain ⟨p, Hp⟩ : ∃ p, Hid (p = numL H) := ⟨_, rfl⟩
  obtain ⟨q, Hq⟩ : ∃ p, Hid (p = numL L) := ⟨_, rfl⟩
  have hwo := fun l hl ho y => hid (word_list l hl ho y)
  rw [← Hp.out] at hHb HLN
  rw [← Hq.out] at hLb HLN
  obtain ⟨V, HV⟩ : ∃ V, Hid (V = p * 4294967296 + q) := ⟨_, rfl⟩
  have hor : bits .or .u64 (p * 4294967296) q = V := by rw [HV.out]; exact or_sum64 p q (by omega) (by omega)
  have hVb : 0 ≤ V ∧ V ≤ 18446744073709551615 := by rw [HV.out]; omega
  rw [← HV.out] at HLN
  have HLE : Hid (longE l = if 4611686018427387904 < V then 4 else 0) := hid (by unfold longE; rw [HLN.out])
  have hu4 := Try.underlying204
  have hiH : (Try.prog.info? 204).map (·.size) = some (H.map (Value.int .u8)).length := by rw [List.length_map, hHl]; exact aggA4.2
  have hiL : (Try.prog.info? 204).map (·.size) = some (L.map (Value.int .u8)).length := by rw [List.length_map, hLl]; exact aggA4.2
  have hAA := run_arrayAt4
  have hw28 : IntKind.i64.wrap 28 = 28 := by decide
  have hw32 : IntKind.i64.wrap 32 = 32 := by decide
  have hcn1 : ¬ cap = 24 := by omega
  have hcn2 : ¬ cap = 28 := by omega
  have hc28 : (28 : Int) ≤ (cap : Int) := by omega
  have hc32 : (32 : Int) ≤ (cap : Int) := by omega
  rw [HLN.out, HLE.out]
  clear hn HP hc
  go_enter Try.func215, Try.ntmps215
  go_wp2_with (go_at_call 178; refine (hro w).out.mono ?_; rintro e w1 ⟨rfl, hw1⟩; subst hw1)
  refine wp_region_held_drew (S := (fun w' => w'.rangeAt b (off + 24) (H.map (Value.int .u8)) ∧ w'.rangeAt b (off + 28) (L.map (Value.int .u8)))) (by kernel_rfl) ⟨at_range hatH, at_range hatL⟩ (fun hHeld => ?_)
  obtain ⟨x0, HX0⟩ : ∃ x, Hid (x = w.drew) := ⟨_, rfl⟩
  rw [← HX0.out] at hHeld ⊢
  have hatH0 : At x0 ⟨b, off + 24, none⟩ (H.map (Value.int .u8)) := by rw [HX0.out]; exact hatH
  have hatL0 : At x0 ⟨b, off + 28, none⟩ (L.map (Value.int .u8)) := by rw [HX0.out]; exact hatL
  have bb0 : Below B w x0 := by rw [HX0.out]; exact (Below.refl _ _).drew
  have hlt0 : b < x0.heap.size := by rw [HX0.out]; exact hb
  have hsz0 : B ≤ x0.heap.size := by rw [HX0.out]; show B ≤ w.heap.size; omega
  refine tkP 0 rfl (by assumption) ⟨?_, ?_, ?_⟩
  rotate_left
  · intro w hSw; (try dsimp only at hSw); go_simp; (try with_reducible rfl)
  try simp only [Act.put, sArr, sZ, sS]
  refine tkP 1 rfl (by assumption) ⟨?_, ?_, ?_⟩
  rotate_left
  · intro w hSw; (try dsimp only at hSw); go_simp; (try with_reducible rfl)
  try simp only [Act.put, sArr, sZ, sS]
  refine tkP 2 rfl (by assumption) ⟨?_, ?_, ?_⟩
  rotate_left
  · intro w hSw; (try dsimp only at hSw); go_simp; (try with_reducible rfl)
  try simp only [Act.put, sArr, sZ, sS]
  refine tkP 3 rfl (by assumption) ⟨?_, ?_, ?_⟩
  rotate_left
  · intro w hSw; (try dsimp only at hSw); go_simp; (try with_reducible rfl)
  try simp only [Act.put, sArr, sZ, sS]
  refine tkP 4 rfl (by assumption) ⟨?_, ?_, ?_⟩
  rotate_left
  · intro w hSw; (try dsimp only at hSw); go_simp; (try with_reducible rfl)
  try simp only [Act.put, sArr, sZ, sS]
  refine tkP 5 rfl (by assumption) ⟨?_, ?_, ?_⟩
  rotate_left
  · intro w hSw; (try dsimp only at hSw); go_simp; (try with_reducible rfl)
  try simp only [Act.put, sArr, sZ, sS]
  refine tkR 6 rfl (yieldsIf_load_mid (by rfl) 204 _ rfl b (off + 24) rfl (H.map (Value.int .u8)) _ (fun w hS => hS.1) hu4 rfl hiH) (by assumption) ?_
  try simp only [Act.put, sArr, sZ, sS]
  refine tkP 10 rfl (by assumption) ⟨?_, ?_, ?_⟩
  rotate_left
  · intro w hSw; (try dsimp only at hSw); go_simp; (try with_reducible rfl)
  try simp only [Act.put, sArr, sZ, sS]
  refine tkP 11 rfl (by assumption) ⟨?_, ?_, ?_⟩
  rotate_left
  · intro w hSw; (try dsimp only at hSw); go_simp; (try with_reducible rfl)
  try simp only [Act.put, sArr, sZ, sS]
  refine tkP 12 rfl (by assumption) ⟨?_, ?_, ?_⟩
  rotate_left
  · intro w hSw; (try dsimp only at hSw); go_simp; (try with_reducible rfl)
  try simp only [Act.put, sArr, sZ, sS]
  refine tkP 13 rfl (by assumption) ⟨?_, ?_, ?_⟩
  rotate_left
  · intro w hSw; (try dsimp only at hSw); go_simp; (try with_reducible rfl)
  try simp only [Act.put, sArr, sZ, sS]
  refine tkP 14 rfl (by assumption) ⟨?_, ?_, ?_⟩
  rotate_left
  · intro w hSw; (try dsimp only at hSw); go_simp; (try with_reducible rfl)
  try simp only [Act.put, sArr, sZ, sS]
  refine tkP 15 rfl (by assumption) ⟨?_, ?_, ?_⟩
  rotate_left
  · intro w hSw; (try dsimp only at hSw); go_simp; (try with_reducible rfl)
  try simp only [Act.put, sArr, sZ, sS]
  refine tkP 16 rfl (by assumption) ⟨?_, ?_, ?_⟩
  rotate_left
  · intro w hSw; (try dsimp only at hSw); go_simp; (try with_reducible rfl)
  try simp only [Act.put, sArr, sZ, sS]
  refine tkR 17 rfl (yieldsIf_load_mid (by rfl) 204 _ rfl b (off + 28) rfl (L.map (Value.int .u8)) _ (fun w hS => hS.2) hu4 rfl hiL) (by assumption) ?_
  try simp only [Act.put, sArr, sZ, sS]
  refine wpAnyH_ready (rs := [7]) (by kernel_rfl) (by simp) (cons_l rfl (fun K' hK' => ?_) AllReadyH.nil)
  rw [if_pos (by rfl)]
  go_simp
  go_at_call 179
  refine ((hwo H hHl hHo x0).out).mono ?_
  rintro e x1 ⟨rfl, hbx1⟩
  have hat1a := at_below hatH0 hbx1 hlt0
  have hat1b := at_below hatL0 hbx1 hlt0
  have bb1 := bb0.trans (hbx1.mono hsz0)
  refine hK'.out _ _ ⟨at_range hat1a, at_range hat1b⟩ (fun hHeld => ?_)
  clear hK' K'
  try simp only [Act.put, sArr, sZ, sS]
  refine tkP 8 rfl (by assumption) ⟨?_, ?_, ?_⟩
  rotate_left
  · intro w hSw; (try dsimp only at hSw); go_simp; (try with_reducible rfl)
  try simp only [Act.put, sArr, sZ, sS]
  refine tkP 9 rfl (by assumption) ⟨?_, ?_, ?_⟩
  rotate_left
  · intro w hSw; (try dsimp only at hSw); go_simp; (try with_reducible rfl)
  try simp only [Act.put, sArr, sZ, sS]
  refine wpAnyH_ready (rs := [18]) (by kernel_rfl) (by simp) (cons_l rfl (fun K' hK' => ?_) AllReadyH.nil)
  rw [if_pos (by rfl)]
  go_simp
  go_at_call 179
  refine ((hwo L hLl hLo x1).out).mono ?_
  rintro e x2 ⟨rfl, hbx2⟩
  have hat2a := at_below hat1a hbx2 (Nat.lt_of_lt_of_le hlt0 hbx1.size)
  have hat2b := at_below hat1b hbx2 (Nat.lt_of_lt_of_le hlt0 hbx1.size)
  have bb2 := bb1.trans (hbx2.mono (Nat.le_trans hsz0 hbx1.size))
  refine hK'.out _ _ ⟨at_range hat2a, at_range hat2b⟩ (fun hHeld => ?_)
  clear hK' K'
  try simp only [Act.put, sArr, sZ, sS]
  refine tkP 19 rfl (by assumption) ⟨?_, ?_, ?_⟩
  rotate_left
  · intro w hSw; (try dsimp only at hSw); go_simp; (try with_reducible rfl)
  try simp only [Act.put, sArr, sZ, sS]
  refine tkP 20 rfl (by assumption) ⟨?_, ?_, ?_⟩
  rotate_left
  · intro w hSw; (try dsimp only at hSw); go_simp; (try with_reducible rfl)
  try simp only [Act.put, sArr, sZ, sS]
  refine tkP 21 rfl (by assumption) ⟨?_, ?_, ?_⟩
  rotate_left
  · intro w hSw; (try dsimp only at hSw); go_simp; (try with_reducible rfl)
  try simp only [Act.put, sArr, sZ, sS]
  refine wpAnyH_done (by kernel_rfl) ?_ _
  clear hHeld
  rw [← Hp.out, ← Hq.out]
  by_cases hv : 4611686018427387904 < V
  · go_wp2
    go_ret2
    exact ⟨by simp [hv], by first | exact bb2 | (rw [hsz]; exact bb2)⟩
  · have hwv : IntKind.i64.wrap V = V := IntWalk.i64_in _ (by omega)
    go_wp2
    go_ret2
    exact ⟨by simp [hv], by first | exact bb2 | (rw [hsz]; exact bb2)⟩
set_option maxRecDepth 100000 in
set_option maxHeartbeats 4000000 in
theorem many_any (bo : Option Addr) (n bc s k : Nat) (w : World) (h1 : 1 ≤ k) (h2 : k ≤ 1000000) (h3 : s ≤ 1000000) :
    Calls Try.prog 188 #[.agg [.slice bo n bc, .int .i64 k, .int .i64 s].toArray] w fun e w' => e = .returned (.int .i64 (manyT s k)) ∧ Below w.heap.size w w' := by
  obtain ⟨B, HB⟩ : ∃ B, Hid (B = w.heap.size) := ⟨_, rfl⟩
  have hsz : w.heap.size = B := HB.out.symm
  obtain ⟨CS, HCS⟩ : ∃ C : List Value, Hid (C = [.slice bo n bc, .int .i64 k, .int .i64 s]) := ⟨_, rfl⟩
  have hc1 : Hid (CS[1]? = some (.int .i64 (k : Int))) := hid (by rw [HCS.out]; rfl)
  have hc2 : Hid (CS[2]? = some (.int .i64 (s : Int))) := hid (by rw [HCS.out]; rfl)
  obtain ⟨d, Hd⟩ : ∃ d : Nat, Hid (d = s + k - 1) := ⟨_, rfl⟩
  have hd : (s : Int) + (k : Int) - 1 = (d : Int) := by rw [Hd.out]; omega
  have hk0 : ¬ (k : Int) = 0 := by omega
  have hdb : d ≤ 2000000 := by rw [Hd.out]; omega
  obtain ⟨m, Hm⟩ : ∃ m, Hid (m = manyT s k) := ⟨_, rfl⟩
  have hq : (d : Int).tdiv (k : Int) = (m : Int) := by rw [Hm.out]; unfold manyT; rw [← Hd.out, Int.natCast_ediv, Int.tdiv_eq_ediv_of_nonneg (by omega)]
  have hq2 : (d : Int) / (k : Int) = (m : Int) := by rw [Hm.out]; unfold manyT; rw [← Hd.out, Int.natCast_ediv]
  have hmb : m ≤ 2000000 := by rw [Hm.out]; unfold manyT; rw [← Hd.out]; exact Nat.le_trans (Nat.div_le_self _ _) hdb
  rw [← HCS.out, ← Hm.out]
  go_enter Try.func188, Try.ntmps188
  go_wp2_with (refine wl_boxV rfl 227 _ rfl CS rfl B hsz ?_; intro w1 hB1 hb1 hs1; have c1 := (hB1.cell 1).trans hc1.out; have c2 := (hB1.cell 2).trans hc2.out)
  go_ret
  exact ⟨rfl, by first | exact hb1 | (rw [hsz]; exact hb1)⟩
end Go.Proofs.Ytbljihhelladbaa.wr
