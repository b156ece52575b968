/-
  Contracts of wrap.Unpack and keyref2.Unpacked. Conditions: a text of at most 2^40 octets that lies in memory.
-/
import Derived.Test.YtbljihhelladbaaPWsQ
namespace Go.Proofs.Ytbljihhelladbaa.wr
open Go.RowKit Go.Proofs.Ytbljihhelladbaa.st Go.Proofs.Ytbljihhelladbaa.hs Go.Proofs.Ytbljihhelladbaa.shr Go.Proofs.Ytbljihhelladbaa.sh
set_option linter.unusedSimpArgs false
set_option linter.unusedVariables false
set_option pp.maxSteps 6000
/-- the parts of a pack's body: so many, and what is left -/
def unGo : Nat → List Int → List (List Int) → Option (List (List Int) × List Int)
  | 0, r, acc => some (acc, r)
  | k + 1, r, acc => if r.length < 4 then none else if (r.length : Int) - 4 < numL (r.take 4) then none else unGo k (r.drop (4 + (numL (r.take 4)).toNat)) (acc ++ [(r.drop 4).take (numL (r.take 4)).toNat])
def unR (l : List Int) : Option (List (List Int) × List Int) := unGo (l.getD 4 0).toNat (l.drop 5) []
def unF : Option (List (List Int) × List Int) → Int
  | none => 1
  | some (ls, r) => if r ≠ [] then 2 else packE ls
def unQ : Option (List (List Int) × List Int) → List (List Int)
  | none => []
  | some (ls, r) => ls
/-- what Unpack answers: the error, the parts -/
def unE (l : List Int) : Int := if l.length < 5 then 1 else if ¬ l.take 4 = kwp then 2 else unF (unR l)
def unP (l : List Int) : List (List Int) := if unE l = 0 then unQ (unR l) else []
theorem unGo_short {k : Nat} {r : List Int} {acc : List (List Int)} (h : r.length < 4) : unGo (k + 1) r acc = none := by rw [unGo, if_pos h]
theorem unGo_few {k : Nat} {r : List Int} {acc : List (List Int)} (h : ¬ r.length < 4) (h2 : (r.length : Int) - 4 < numL (r.take 4)) : unGo (k + 1) r acc = none := by rw [unGo, if_neg h, if_pos h2]
theorem unGo_next {k q : Nat} {r : List Int} {acc : List (List Int)} (h : ¬ r.length < 4) (hq : numL (r.take 4) = (q : Int)) (h2 : 4 + q ≤ r.length) : unGo (k + 1) r acc = unGo k (r.drop (4 + q)) (acc ++ [(r.drop 4).take q]) := by
  rw [unGo, if_neg h, if_neg (by rw [hq]; omega), hq]; rfl
theorem kwp_octs : Octs kwp := by
  intro c hc
  unfold kwp at hc
  simp only [List.mem_cons, List.not_mem_nil, or_false] at hc
  rcases hc with rfl | rfl | rfl | rfl <;> exact ⟨by decide, by decide⟩
/-- a slice that holds parts -/
structure PartsB (w : World) (base : Nat) (v : Value) (ps : List Pt) : Prop where
  own : w.ownsRow base 69 1 v ps.length (ps.map Pt.v)
  ok : ∀ x ∈ ps, x.Ok w ∧ ∀ b, x.a = some b → v.ownBlock ≠ some b.block
theorem PartsB.nil (w : World) (base : Nat) : PartsB w base (.slice none 0 0) [] := ⟨World.ownsRow_nil w base 69 1, fun x hx => by cases hx⟩
theorem PartsB.push {w w6 w7 : World} {base : Nat} {v v' : Value} {ps : List Pt} {y : Pt} (h : PartsB w base v ps) (hb : Below w.heap.size w w6) (hy : y.Ok w6) (hyb : ∀ b, y.a = some b → w.heap.size ≤ b.block)
    (hbase : base ≤ w.heap.size) (hgr : w6.grownBy w7 v.ownBlock) (hv' : v'.ownBlock = v.ownBlock ∨ v'.ownBlock = some w6.heap.size)
    (hown : w7.ownsRow base 69 1 v' (ps.length + 1) (ps.map Pt.v ++ [y.v])) : PartsB w7 base v' (ps ++ [y]) := by
  have hvw : ∀ k, v.ownBlock = some k → base ≤ k ∧ k < w.heap.size := fun k hk => h.own.lt k hk
  have hyv : ∀ b, y.a = some b → v.ownBlock ≠ some b.block := fun b e g => by
    have h1 := hvw _ g
    have h2 := hyb b e
    omega
  refine ⟨by rw [List.length_append, List.map_append]; exact hown, fun x hx => ?_⟩
  rcases List.mem_append.1 hx with hx | hx
  · obtain ⟨h1, h2⟩ := h.ok x hx
    refine ⟨ptGrown (h1.below hb) hgr (fun b e => h2 b e), fun b e => ?_⟩
    rcases hv' with g | g
    · rw [g]; exact h2 b e
    · rw [g]; intro g2; have g3 := Option.some.inj g2; have := h1.lt b e; have := hb.size; omega
  · rw [List.mem_singleton] at hx
    subst hx
    refine ⟨ptGrown hy hgr (fun b e => hyv b e), fun b e => ?_⟩
    rcases hv' with g | g
    · rw [g]; exact hyv b e
    · rw [g]; intro g2; have g3 := Option.some.inj g2; have := hy.lt b e; omega
theorem PartsB.below {w w' : World} {base : Nat} {v : Value} {ps : List Pt} (h : PartsB w base v ps) (hb : Below w.heap.size w w') : PartsB w' base v ps :=
  ⟨owns_up h.own hb, fun x hx => ⟨(h.ok x hx).1.below hb, (h.ok x hx).2⟩⟩
theorem PartsB.row {w : World} {base n c : Nat} {ao : Option Addr} {ps : List Pt} (h : PartsB w base (.slice ao n c) ps) : RowV w ao (ps.map Pt.v) := rowV_of_owns' h.own
set_option maxRecDepth 100000 in
set_option maxHeartbeats 1000000 in
/-- a clone of octets, as a part -/
theorem cloneP (ad : Addr) (cap n : Nat) (l : List Int) (w : World) (hn : n = l.length) (HP : Pt.Ok w ⟨some ad, cap, l⟩) (hm : n ≤ 140737488355328) :
    Calls Try.prog 77 #[.slice (some ad) n cap] w fun e w' => ∃ a' c', e = .returned (.slice a' n c') ∧ Pt.Ok w' ⟨a', c', l⟩ ∧ (∀ d, a' = some d → w.heap.size ≤ d.block) ∧ Below w.heap.size w w' := by
  by_cases h0 : n = 0
  · subst h0
    have hl : l = [] := List.eq_nil_of_length_eq_zero hn.symm
    have hq := fun w => Lib.run_eql_slice_nil (P := Try.prog) w 69 5 (some ad) 0 cap 0 0 Try.underlying69
    have hlt := HP.lt ad rfl
    subst hl
    clear HP hn
    go_enter Try.func77, Try.ntmps77
    go_wp2
    go_ret
    exact ⟨_, _, rfl, ⟨Or.inl rfl, Nat.le_refl _, Nat.zero_le _, (fun c hc => by cases hc), fun d e => by cases e; first | exact hlt | simp⟩, fun d e => by cases e; exact Nat.le_refl _, by first | exact Below.refl _ _ | exact (Below.refl _ _).alloc (Nat.le_refl _) _⟩
  · refine (cloneB (some ad) n cap (l.map (Value.int .u8)) w HP.row.v (by rw [List.length_map, hn]; simp) (ints_one _ _) (fun h => by cases h) hm).mono ?_
    rintro e w' ⟨v, rfl, hM, hb⟩
    have h1 := mine_own hM (by omega)
    obtain ⟨ao', c', rfl, hc', hr⟩ := Mine.row (Or.inl h1)
    obtain ⟨g, cur, rfl, hg, hG, hnc, hcm, hcl, _⟩ := own_blk h1 (by omega)
    exact ⟨_, _, rfl, ⟨hr.i, by show l.length ≤ c'; omega, hcm, HP.oct, fun d e => by cases e; exact hG.lt⟩, fun d e => by cases e; exact hg, hb⟩
theorem cloneQ {ad0 : Nat} (ax : Option Addr) (cap n : Nat) (l : List Int) (w : World) (hs : ∃ d, ax = some d ∧ d.block = ad0) (hn : n = l.length) (HP : Pt.Ok w ⟨ax, cap, l⟩) (hm : n ≤ 140737488355328) :
    Calls Try.prog 77 #[.slice ax n cap] w fun e w' => ∃ a' c', e = .returned (.slice a' n c') ∧ Pt.Ok w' ⟨a', c', l⟩ ∧ (∀ d, a' = some d → w.heap.size ≤ d.block) ∧ Below w.heap.size w w' := by
  cases ax with
  | none => obtain ⟨d, h, _⟩ := hs; cases h
  | some ad => exact cloneP ad cap n l w hn HP hm
/-- what the two functions answer -/
def UnPost (l : List Int) (w : World) (e : Ending) (w' : World) : Prop := Below w.heap.size w w' ∧ ∃ (ps : List Pt) (po : Option Addr) (n c : Nat), e = .returned (.tuple #[.slice po n c, .int .i64 (unE l)]) ∧ Hid (n = ps.length) ∧ Hid (ps.map Pt.l = unP l) ∧ RowV w' po (ps.map Pt.v) ∧ ∀ p ∈ ps, p.Ok w'
theorem unPost_bad {l : List Int} {w w' : World} {e : Int} (hb : Below w.heap.size w w') (h : unE l = e) (h0 : e ≠ 0) : UnPost l w (.returned (.tuple #[.slice none 0 0, .int .i64 e])) w' :=
  ⟨hb, [], none, 0, 0, by rw [h], rfl, by show [] = _; unfold unP; rw [if_neg (by rw [h]; exact h0)], Or.inl rfl, fun p hp => by cases hp⟩
theorem unE_of {l : List Int} (h1 : ¬ l.length < 5) (h2 : l.take 4 = kwp) {G : Option (List (List Int) × List Int)} (hG : unR l = G) : unE l = unF G := by
  unfold unE; rw [if_neg h1, if_neg (fun h => h h2), hG]
theorem unPost_ok {l : List Int} {w w' : World} {ps : List Pt} {po : Option Addr} {n c : Nat} (hb : Below w.heap.size w w') (hE : unE l = 0) (hQ : unQ (unR l) = ps.map Pt.l) (hn : n = ps.length) (hr : RowV w' po (ps.map Pt.v)) (hok : ∀ p ∈ ps, p.Ok w') : UnPost l w (.returned (.tuple #[.slice po n c, .int .i64 0])) w' :=
  ⟨hb, ps, po, n, c, by rw [hE], hn, by show _ = _; unfold unP; rw [if_pos hE, hQ], hr, hok⟩
set_option maxRecDepth 100000 in
set_option maxHeartbeats 4000000 in
theorem Unpack_short (bo : Option Addr) (bc n : Nat) (l : List Int) (w : World) (hn : n = l.length) (hl : n < 5) :
    Calls Try.prog 82 #[.slice bo n bc] w (UnPost l w) := by
  have hE : unE l = 1 := by unfold unE; rw [if_pos (by omega)]
  have hI : (n : Int) < 5 := by omega
  have HE := hid hE
  clear hn hE
  go_enter Try.func82, Try.ntmps82
  go_wp2
  go_ret2
  exact unPost_bad (Below.refl _ _) HE.out (by decide)
set_option maxRecDepth 100000 in
set_option maxHeartbeats 4000000 in
theorem Unpack_form (bo : Option Addr) (bc n : Nat) (l : List Int) (w : World) (hn : n = l.length) (hl : 5 ≤ n) (HP : Pt.Ok w ⟨bo, bc, l⟩) (hf : ¬ l.take 4 = kwp) :
    Calls Try.prog 82 #[.slice bo n bc] w (UnPost l w) := by
  have hE : unE l = 2 := by unfold unE; rw [if_neg (by omega), if_pos hf]
  have HE := hid hE
  obtain ⟨b, off, rfl, hbw, hc⟩ := HP.row.at (i := 0) (by show 0 < l.length; omega)
  have hI : ¬ (n : Int) < 5 := by omega
  have hcap : n ≤ bc := by rw [hn]; exact HP.len
  have h4I : (4 : Int) ≤ (bc : Int) := by omega
  obtain ⟨S, HS⟩ : ∃ S, Hid (S = strOfNums (l.take 4)) := ⟨_, rfl⟩
  have ho4 : Octs (l.take 4) := fun c hc => HP.oct c (List.mem_of_mem_take hc)
  have hkS := run_convStr w (some ⟨b, off, none⟩) 4 bc (l.take 4) (by rw [List.length_take]; omega) (RowI.takeS HP.row 4)
  rw [← HS.out] at hkS
  have hne : ¬ S = strOfNums kwp := fun e => hf (str_inj ho4 kwp_octs (by rw [← HS.out]; exact e))
  have hne' : ¬ S.toList = [75, 87, 80, 49] := by
    intro e
    have h1 := str_ne hne
    rw [beq_eq_false_iff_ne] at h1
    exact h1 (e.trans (by rw [toList_eq]; rfl))
  have hne2 : (S.toList == [75, 87, 80, 49]) = false := by simpa using hne'
  clear hne' hne hn HP hf hE ho4 hc
  go_enter Try.func82, Try.ntmps82
  go_wp2
  go_ret2
  exact unPost_bad (Below.refl _ _) HE.out (by decide)
set_option maxRecDepth 100000 in
set_option maxHeartbeats 4000000 in
theorem Unpack_main (bo : Option Addr) (bc n : Nat) (l : List Int) (w : World) (hn : n = l.length) (hl : 5 ≤ n) (HP : Pt.Ok w ⟨bo, bc, l⟩) (hf : l.take 4 = kwp) (hmx : n ≤ 9223372036854775807) :
    Calls Try.prog 82 #[.slice bo n bc] w (UnPost l w) := by
  obtain ⟨B, HB⟩ : ∃ B, Hid (B = w.heap.size) := ⟨_, rfl⟩
  have hBs : B ≤ w.heap.size := by rw [HB.out]; exact Nat.le_refl _
  obtain ⟨b, off, rfl, hbw, hc⟩ := HP.row.at (i := 0) (by show 0 < l.length; omega)
  have hI : ¬ (n : Int) < 5 := by omega
  have hcap : n ≤ bc := by rw [hn]; exact HP.len
  have h4I : (4 : Int) ≤ (bc : Int) := by omega
  obtain ⟨S, HS⟩ : ∃ S, Hid (S = strOfNums (l.take 4)) := ⟨_, rfl⟩
  have ho4 : Octs (l.take 4) := fun c hc => HP.oct c (List.mem_of_mem_take hc)
  have hkS := run_convStr w (some ⟨b, off, none⟩) 4 bc (l.take 4) (by rw [List.length_take]; omega) (RowI.takeS HP.row 4)
  rw [← HS.out] at hkS
  have heq : S.toList = [75, 87, 80, 49] := by rw [HS.out, hf, toList_eq]; rfl
  have heq2 : (S.toList == [75, 87, 80, 49]) = true := by simpa using heq
  have HU := hid (fun (G : Option (List (List Int) × List Int)) (hG : unR l = G) => unE_of (l := l) (by omega) hf hG)
  obtain ⟨N, HN⟩ : ∃ N : Nat, Hid ((N : Int) = l.getD 4 0) := ⟨(l.getD 4 0).toNat, by show _ = _; have h9 : Oct (l.getD 4 0) := HP.oct.getD 4; unfold Oct at h9; omega⟩
  have hN : N ≤ 255 := by have h9 : Oct (l.getD 4 0) := HP.oct.getD 4; have := HN.out; unfold Oct at h9; omega
  have hc4 := hc 4 (by show 4 < l.length; omega)
  dsimp only at hc4
  rw [← HN.out] at hc4
  have HUR : Hid (unR l = unGo N (l.drop 5) []) := hid (by unfold unR; rw [← HN.out]; rfl)
  have h4n : (4 : Int) < (n : Int) := by omega
  have HPL := hid HP
  have HNL := hid hn
  have hbB : b < B := by rw [HB.out]; exact hbw
  have hcut := @wl_cutL w
  clear heq hf ho4 hc hn HP
  go_enter Try.func82, Try.ntmps82
  go_wp2_with (first | (refine wl_cutL rfl _ _ rfl (some ⟨b, off, none⟩) n bc l rfl 5 5 rfl rfl HNL.out HPL.out hl (n - 5) (bc - 5) rfl rfl ?_; intro ra0 hra0 HR0))
  go_loopw [4, 5, 22] (fun out rest i wr => ∃ (j rn rc pc : Nat) (rl : List Int) (ra pa : Option Addr) (ps : List Pt), j ≤ N ∧ i = .int .u8 j ∧ rest = .slice ra rn rc ∧ Hid (rn = rl.length) ∧ rn ≤ n ∧ Pt.Ok wr ⟨ra, rc, rl⟩ ∧ (∀ d, ra = some d → d.block < B) ∧ out = .slice pa j pc ∧ Hid (ps.length = j) ∧ PartsB wr B (.slice pa j pc) ps ∧ Hid (unR l = unGo (N - j) rl (ps.map Pt.l)) ∧ Below B w wr) (fun _ _ i _ => N - (intOf i).toNat)
  case atStart => exact ⟨0, n - 5, bc - 5, 0, l.drop 5, ra0, none, [], by omega, rfl, rfl, by show _ = _; rw [List.length_drop, HNL.out], by omega, HR0, (fun d e => by obtain ⟨d1, h1, h2⟩ := hra0 _ rfl; rw [h1] at e; cases e; dsimp only at h2; omega), rfl, rfl, PartsB.nil _ _, HUR.out, Below.refl _ _⟩
  case round =>
    obtain ⟨j, rn, rc, pc, rl, ra, pa, ps, hj, rfl, rfl, HRN, hrn, HR, hrB, rfl, HPS, hP, HG, hb⟩ := hrel
    have hs0 : B ≤ wr.heap.size := Nat.le_trans hBs hb.size
    by_cases hjN : j < N
    · have hjI : (j : Int) < (N : Int) := by omega
      obtain ⟨k, hk⟩ : ∃ k, N - j = k + 1 := ⟨N - j - 1, by omega⟩
      have HG' := HG.out
      rw [hk] at HG'
      clear HG
      by_cases h4 : rn < 4
      · have h4I' : (rn : Int) < 4 := by omega
        have HE : Hid (unE l = 1) := hid (by rw [HU.out _ HG', unGo_short (by rw [← HRN.out]; exact h4)]; rfl)
        have hnum := hid (Number_short ra rc rn wr h4)
        go_wp2_with (go_at_call 128; refine hnum.out.mono ?_; rintro e w5 ⟨rfl, hb5⟩)
        go_ret2
        exact unPost_bad (by rw [← HB.out]; exact hb.trans (hb5.mono hs0)) HE.out (by decide)
      · have h4I' : ¬ (rn : Int) < 4 := by omega
        obtain ⟨rb, roff, rfl, hrb, _⟩ := HR.row.at (i := 0) (by show 0 < rl.length; have := HRN.out; omega)
        have hrbB : rb < B := hrB _ rfl
        have hqb := numL4_b HR.oct 0
        have hsg : seg rl 0 4 = rl.take 4 := by unfold seg; rw [List.drop_zero]
        dsimp only at hqb
        rw [hsg] at hqb
        obtain ⟨q, Hq⟩ : ∃ q : Nat, Hid (numL (rl.take 4) = (q : Int)) := ⟨(numL (rl.take 4)).toNat, by show _ = _; omega⟩
        rw [Hq.out] at hqb
        have hwq : IntKind.i64.wrap (q : Int) = (q : Int) := IntWalk.i64_in _ (by omega)
        have hnum := Number_ok rb roff rc rn 0 rl wr HRN.out HR (by omega)
        rw [hsg, Hq.out] at hnum
        have hnum := hid hnum
        by_cases hq : (rn : Int) - 4 < (q : Int)
        · have HE : Hid (unE l = 1) := hid (by rw [HU.out _ HG', unGo_few (by rw [← HRN.out]; exact h4) (by rw [← HRN.out, Hq.out]; exact hq)]; rfl)
          go_wp2_with (go_at_call 128; refine hnum.out.mono ?_; rintro e w5 ⟨rfl, hb5⟩)
          go_ret2
          exact unPost_bad (by rw [← HB.out]; exact hb.trans (hb5.mono hs0)) HE.out (by decide)
        · have HGN : Hid (unR l = unGo k (rl.drop (4 + q)) (ps.map Pt.l ++ [(rl.drop 4).take q])) := hid (by rw [HG', unGo_next (by rw [← HRN.out]; exact h4) Hq.out (by rw [← HRN.out]; omega)])
          have hk2 : N - (j + 1) = k := by omega
          have HK2 := hid hk2
          have hrc : rn ≤ rc := by rw [HRN.out]; exact HR.len
          have hmaxl : rc ≤ maxLen := HR.cap
          have hO0 := hP.own
          rw [HPS.out] at hO0
          have HPSL := hid (show ps.length = j from HPS.out)
          have Hlen : Hid (((rl.drop 4).take q).length = q) := hid (by rw [List.length_take, List.length_drop, ← HRN.out]; omega)
          clear hk hk2 HG'
          go_wp2_with (first | (refine wl_cutL rfl _ _ rfl (some ⟨rb, roff, none⟩) rn rc rl rfl (4 + q) _ rfl (by omega) HRN.out HR99 (by omega) (rn - (4 + q)) (rc - (4 + q)) rfl rfl ?_; intro ra9 hra9 HR9) | (at_builtin; go_loud (refine wl_push rfl _ _ 82 rfl 69 (.slice none 0 0) 1 24 Try.underlying82 infoB rfl (by decide) B _ j _ rfl hO7 ⟨w6.heap.size, 0, none⟩ 1 1 rfl [.slice ac q cc] rfl hG7.at0 (by intro u hu; simp at hu; subst hu; rfl) (by unfold maxLen; omega) (by omega) (by have := b07.size; omega) (j + 1) rfl ?_); intro a9 c9 w9 hc9 hO9 hg9 hv9; go_loud (have hP9 := hP.push b07 HC7 (fun d e => Nat.le_trans hb5.size (hac d e)) hs0 hg9 (by first | exact hv9 | (rw [hs7]; exact hv9)) (by rw [HPSL.out, Pt.v, Hlen.out]; exact hO9); have bb9 : Below B w w9 := (hb.trans (b07.mono hs0)).grown hg9 (by have := b07.size; omega) (fun d e => (hO0.lt d e).1); have HR8 := HR.below b07; have HR99 := ptGrown HR8 hg9 (fun d e h => by have h1 := (hO0.lt _ h).1; cases e; dsimp only at h1; omega))) | (refine wl_lit rfl 82 69 1 _ rfl Try.underlying82 (.slice none 0 0) 1 24 infoB (by decide) (by decide) [.slice ac q cc] (by kernel_rfl) w6.heap.size rfl ?_; intro w7 hG7 hb7 hs7; have b07 : Below wr.heap.size wr w7 := b06.trans (hb7.mono b06.size); have HC7 := HC6.below hb7; have hO7 := owns_up hO0 b07) | (go_at_call 77; refine (cloneQ ax q q ((rl.drop 4).take q) w5 (hax _ rfl) Hlen.out.symm HX5 (by omega)).mono ?_; rintro e w6 ⟨ac, cc, rfl, HC6, hac, hb6⟩; have b06 : Below wr.heap.size wr w6 := hb5.trans (hb6.mono hb5.size)) | (refine wl_cutLHM rfl _ _ _ _ rfl (some ⟨rb, roff, none⟩) rn rc rl rfl 4 (4 + q) (4 + q) _ _ _ rfl rfl rfl (by omega) rfl (by omega) HRN.out HR5 (by omega) (by omega) (Nat.le_refl _) (by omega) q q (by omega) (by omega) ?_; intro ax hax HX5) | (go_at_call 128; refine hnum.out.mono ?_; rintro e w5 ⟨rfl, hb5⟩; have HR5 := HR.below hb5))
          go_roundw
          case rel =>
            refine ⟨j + 1, rn - (4 + q), rc - (4 + q), c9, rl.drop (4 + q), ra9, a9, ps ++ [⟨ac, cc, (rl.drop 4).take q⟩], by omega, by go_num, rfl, by show _ = _; rw [List.length_drop, ← HRN.out], by omega, HR9, (fun d e => by obtain ⟨d1, h1, h2⟩ := hra9 _ rfl; rw [h1] at e; cases e; dsimp only at h2; omega), rfl, by show _ = _; rw [List.length_append, HPSL.out]; rfl, hP9, ?_, bb9⟩
            show _ = _
            rw [HGN.out, HK2.out, List.map_append]; rfl
          case measure => simp [intOf] <;> omega
    · obtain rfl : j = N := by omega
      have HGN : Hid (unR l = some (ps.map Pt.l, rl)) := hid (by rw [HG.out, Nat.sub_self]; rfl)
      clear HG
      by_cases hr0 : rn = 0
      · have hr0I : ¬ (0 : Int) < (rn : Int) := by omega
        have hrl : rl = [] := List.eq_nil_of_length_eq_zero (by rw [← HRN.out]; exact hr0)
        have HE : Hid (unE l = packE (ps.map Pt.l)) := hid (by rw [HU.out _ HGN.out, hrl]; rfl)
        have hpf := hid (packFault_any pa pc j ps wr HPS.out.symm hP.row (fun x hx _ => (hP.ok x hx).1))
        by_cases hp0 : packE (ps.map Pt.l) = 0
        · rw [hp0] at hpf
          have HE0 : Hid (unE l = 0) := hid (by rw [HE.out]; exact hp0)
          clear hrl hp0
          subst hr0
          go_wp2_with (go_at_call 146; refine hpf.out.mono ?_; rintro e w5 ⟨rfl, hb5⟩)
          go_ret2
          have hP5 := hP.below hb5
          exact unPost_ok (by rw [← HB.out]; exact hb.trans (hb5.mono hs0)) HE0.out (by rw [HGN.out]; rfl) HPS.out.symm hP5.row (fun x hx => (hP5.ok x hx).1)
        · obtain ⟨E, HEE⟩ : ∃ E, Hid (E = packE (ps.map Pt.l)) := ⟨_, rfl⟩
          rw [← HEE.out] at hpf hp0
          clear hrl
          subst hr0
          go_wp2_with (go_at_call 146; refine hpf.out.mono ?_; rintro e w5 ⟨rfl, hb5⟩)
          go_ret2
          exact unPost_bad (by rw [← HB.out]; exact hb.trans (hb5.mono hs0)) (by rw [HE.out, HEE.out]) hp0
      · have hr0I : (0 : Int) < (rn : Int) := by omega
        have HE : Hid (unE l = 2) := hid (by rw [HU.out _ HGN.out]; unfold unF; dsimp only; rw [if_pos (fun e => hr0 (by rw [HRN.out, e]; rfl))])
        go_wp2
        go_ret2
        exact unPost_bad (by rw [← HB.out]; exact hb) HE.out (by decide)
set_option maxRecDepth 100000 in
set_option maxHeartbeats 4000000 in
theorem Unpacked_short (bo : Option Addr) (bc n : Nat) (l : List Int) (w : World) (hn : n = l.length) (hl : n < 5) :
    Calls Try.prog 85 #[.slice bo n bc] w (UnPost l w) := by
  have hE : unE l = 1 := by unfold unE; rw [if_pos (by omega)]
  have hI : (n : Int) < 5 := by omega
  have HE := hid hE
  clear hn hE
  go_enter Try.func85, Try.ntmps85
  go_wp2
  go_ret2
  exact unPost_bad (Below.refl _ _) HE.out (by decide)
set_option maxRecDepth 100000 in
set_option maxHeartbeats 4000000 in
theorem Unpacked_form (bo : Option Addr) (bc n : Nat) (l : List Int) (w : World) (hn : n = l.length) (hl : 5 ≤ n) (HP : Pt.Ok w ⟨bo, bc, l⟩) (hf : ¬ l.take 4 = kwp) :
    Calls Try.prog 85 #[.slice bo n bc] w (UnPost l w) := by
  have hE : unE l = 2 := by unfold unE; rw [if_neg (by omega), if_pos hf]
  have HE := hid hE
  obtain ⟨b, off, rfl, hbw, hc⟩ := HP.row.at (i := 0) (by show 0 < l.length; omega)
  have hI : ¬ (n : Int) < 5 := by omega
  have hcap : n ≤ bc := by rw [hn]; exact HP.len
  have h4I : (4 : Int) ≤ (bc : Int) := by omega
  obtain ⟨S, HS⟩ : ∃ S, Hid (S = strOfNums (l.take 4)) := ⟨_, rfl⟩
  have ho4 : Octs (l.take 4) := fun c hc => HP.oct c (List.mem_of_mem_take hc)
  have hkS := run_convStr w (some ⟨b, off, none⟩) 4 bc (l.take 4) (by rw [List.length_take]; omega) (RowI.takeS HP.row 4)
  rw [← HS.out] at hkS
  have hne : ¬ S = strOfNums kwp := fun e => hf (str_inj ho4 kwp_octs (by rw [← HS.out]; exact e))
  have hne' : ¬ S.toList = [75, 87, 80, 49] := by
    intro e
    have h1 := str_ne hne
    rw [beq_eq_false_iff_ne] at h1
    exact h1 (e.trans (by rw [toList_eq]; rfl))
  have hne2 : (S.toList == [75, 87, 80, 49]) = false := by simpa using hne'
  clear hne' hne hn HP hf hE ho4 hc
  go_enter Try.func85, Try.ntmps85
  go_wp2
  go_ret2
  exact unPost_bad (Below.refl _ _) HE.out (by decide)
set_option maxRecDepth 100000 in
set_option maxHeartbeats 4000000 in
theorem Unpacked_main (bo : Option Addr) (bc n : Nat) (l : List Int) (w : World) (hn : n = l.length) (hl : 5 ≤ n) (HP : Pt.Ok w ⟨bo, bc, l⟩) (hf : l.take 4 = kwp) (hmx : n ≤ 9223372036854775807) :
    Calls Try.prog 85 #[.slice bo n bc] w (UnPost l w) := by
  obtain ⟨B, HB⟩ : ∃ B, Hid (B = w.heap.size) := ⟨_, rfl⟩
  have hBs : B ≤ w.heap.size := by rw [HB.out]; exact Nat.le_refl _
  obtain ⟨b, off, rfl, hbw, hc⟩ := HP.row.at (i := 0) (by show 0 < l.length; omega)
  have hI : ¬ (n : Int) < 5 := by omega
  have hcap : n ≤ bc := by rw [hn]; exact HP.len
  have h4I : (4 : Int) ≤ (bc : Int) := by omega
  obtain ⟨S, HS⟩ : ∃ S, Hid (S = strOfNums (l.take 4)) := ⟨_, rfl⟩
  have ho4 : Octs (l.take 4) := fun c hc => HP.oct c (List.mem_of_mem_take hc)
  have hkS := run_convStr w (some ⟨b, off, none⟩) 4 bc (l.take 4) (by rw [List.length_take]; omega) (RowI.takeS HP.row 4)
  rw [← HS.out] at hkS
  have heq : S.toList = [75, 87, 80, 49] := by rw [HS.out, hf, toList_eq]; rfl
  have heq2 : (S.toList == [75, 87, 80, 49]) = true := by simpa using heq
  have HU := hid (fun (G : Option (List (List Int) × List Int)) (hG : unR l = G) => unE_of (l := l) (by omega) hf hG)
  obtain ⟨N, HN⟩ : ∃ N : Nat, Hid ((N : Int) = l.getD 4 0) := ⟨(l.getD 4 0).toNat, by show _ = _; have h9 : Oct (l.getD 4 0) := HP.oct.getD 4; unfold Oct at h9; omega⟩
  have hN : N ≤ 255 := by have h9 : Oct (l.getD 4 0) := HP.oct.getD 4; have := HN.out; unfold Oct at h9; omega
  have hc4 := hc 4 (by show 4 < l.length; omega)
  dsimp only at hc4
  rw [← HN.out] at hc4
  have HUR : Hid (unR l = unGo N (l.drop 5) []) := hid (by unfold unR; rw [← HN.out]; rfl)
  have h4n : (4 : Int) < (n : Int) := by omega
  have HPL := hid HP
  have HNL := hid hn
  have hbB : b < B := by rw [HB.out]; exact hbw
  clear heq hf ho4 hc hn HP
  go_enter Try.func85, Try.ntmps85
  go_wp2_with (first | (refine wl_cutL rfl _ _ rfl (some ⟨b, off, none⟩) n bc l rfl 5 5 rfl rfl HNL.out HPL.out hl (n - 5) (bc - 5) rfl rfl ?_; intro ra0 hra0 HR0))
  go_loopw [0, 5, 22] (fun rest out i wr => ∃ (j rn rc pc : Nat) (rl : List Int) (ra pa : Option Addr) (ps : List Pt), j ≤ N ∧ i = .int .i64 j ∧ rest = .slice ra rn rc ∧ Hid (rn = rl.length) ∧ rn ≤ n ∧ Pt.Ok wr ⟨ra, rc, rl⟩ ∧ (∀ d, ra = some d → d.block < B) ∧ out = .slice pa j pc ∧ Hid (ps.length = j) ∧ PartsB wr B (.slice pa j pc) ps ∧ Hid (unR l = unGo (N - j) rl (ps.map Pt.l)) ∧ Below B w wr) (fun _ _ i _ => N - (intOf i).toNat)
  case atStart => exact ⟨0, n - 5, bc - 5, 0, l.drop 5, ra0, none, [], by omega, rfl, rfl, by show _ = _; rw [List.length_drop, HNL.out], by omega, HR0, (fun d e => by obtain ⟨d1, h1, h2⟩ := hra0 _ rfl; rw [h1] at e; cases e; dsimp only at h2; omega), rfl, rfl, PartsB.nil _ _, HUR.out, Below.refl _ _⟩
  case round =>
    obtain ⟨j, rn, rc, pc, rl, ra, pa, ps, hj, rfl, rfl, HRN, hrn, HR, hrB, rfl, HPS, hP, HG, hb⟩ := hrel
    have hs0 : B ≤ wr.heap.size := Nat.le_trans hBs hb.size
    by_cases hjN : j < N
    · have hjI : (j : Int) < (N : Int) := by omega
      obtain ⟨k, hk⟩ : ∃ k, N - j = k + 1 := ⟨N - j - 1, by omega⟩
      have HG' := HG.out
      rw [hk] at HG'
      clear HG
      by_cases h4 : rn < 4
      · have h4I' : (rn : Int) < 4 := by omega
        have HE : Hid (unE l = 1) := hid (by rw [HU.out _ HG', unGo_short (by rw [← HRN.out]; exact h4)]; rfl)
        go_wp2
        go_ret2
        exact unPost_bad (by rw [← HB.out]; exact hb) HE.out (by decide)
      · have h4I' : ¬ (rn : Int) < 4 := by omega
        obtain ⟨rb, roff, rfl, hrb, _⟩ := HR.row.at (i := 0) (by show 0 < rl.length; have := HRN.out; omega)
        have hrbB : rb < B := hrB _ rfl
        have hqb := numL4_b HR.oct 0
        have hsg : seg rl 0 4 = rl.take 4 := by unfold seg; rw [List.drop_zero]
        dsimp only at hqb
        rw [hsg] at hqb
        obtain ⟨q, Hq⟩ : ∃ q : Nat, Hid (numL (rl.take 4) = (q : Int)) := ⟨(numL (rl.take 4)).toNat, by show _ = _; omega⟩
        rw [Hq.out] at hqb
        have hno := fun (HT : Pt.Ok wr ⟨some ⟨rb, roff, none⟩, rc, rl.take 4⟩) => hid (NumberOf_any (some ⟨rb, roff, none⟩) rc 4 (rl.take 4) wr (by rw [List.length_take, ← HRN.out]; omega) HT.row HT.oct (by omega))
        rw [Hq.out] at hno
        by_cases hq : (rn : Int) - 4 < (q : Int)
        · have HE : Hid (unE l = 1) := hid (by rw [HU.out _ HG', unGo_few (by rw [← HRN.out]; exact h4) (by rw [← HRN.out, Hq.out]; exact hq)]; rfl)
          go_wp2_with (first | (go_at_call 90; refine (hno HT4).out.mono ?_; rintro e w5 ⟨rfl, rfl⟩) | (refine wl_cutH (by rfl) _ _ rfl (some ⟨rb, roff, none⟩) rn rc rl rfl 4 4 rfl rfl HRN.out HR (by omega) (by omega) ?_; intro HT4))
          go_ret2
          exact unPost_bad (by rw [← HB.out]; exact hb) HE.out (by decide)
        · have HGN : Hid (unR l = unGo k (rl.drop (4 + q)) (ps.map Pt.l ++ [(rl.drop 4).take q])) := hid (by rw [HG', unGo_next (by rw [← HRN.out]; exact h4) Hq.out (by rw [← HRN.out]; omega)])
          have hk2 : N - (j + 1) = k := by omega
          have HK2 := hid hk2
          have hrc : rn ≤ rc := by rw [HRN.out]; exact HR.len
          have hmaxl : rc ≤ maxLen := HR.cap
          have hO0 := hP.own
          rw [HPS.out] at hO0
          have HPSL := hid (show ps.length = j from HPS.out)
          have Hlen : Hid (((rl.drop 4).take q).length = q) := hid (by rw [List.length_take, List.length_drop, ← HRN.out]; omega)
          clear hk hk2 HG'
          go_wp2_with (first | (refine wl_cutL rfl _ _ rfl (some ⟨rb, roff, none⟩) rn rc rl rfl (4 + q) _ rfl (by omega) HRN.out HR99 (by omega) (rn - (4 + q)) (rc - (4 + q)) rfl rfl ?_; intro ra9 hra9 HR9) | (at_builtin; go_loud (refine wl_push rfl _ _ 82 rfl 69 (.slice none 0 0) 1 24 Try.underlying82 infoB rfl (by decide) B _ j _ rfl hO7 ⟨w6.heap.size, 0, none⟩ 1 1 rfl [.slice ac q cc] rfl hG7.at0 (by intro u hu; simp at hu; subst hu; rfl) (by unfold maxLen; omega) (by omega) (by have := b07.size; omega) (j + 1) rfl ?_); intro a9 c9 w9 hc9 hO9 hg9 hv9; go_loud (have hP9 := hP.push b07 HC7 (fun d e => Nat.le_trans (Nat.le_refl _) (hac d e)) hs0 hg9 (by first | exact hv9 | (rw [hs7]; exact hv9)) (by rw [HPSL.out, Pt.v, Hlen.out]; exact hO9); have bb9 : Below B w w9 := (hb.trans (b07.mono hs0)).grown hg9 (by have := b07.size; omega) (fun d e => (hO0.lt d e).1); have HR8 := HR.below b07; have HR99 := ptGrown HR8 hg9 (fun d e h => by have h1 := (hO0.lt _ h).1; cases e; dsimp only at h1; omega))) | (refine wl_lit rfl 82 69 1 _ rfl Try.underlying82 (.slice none 0 0) 1 24 infoB (by decide) (by decide) [.slice ac q cc] (by kernel_rfl) w6.heap.size rfl ?_; intro w7 hG7 hb7 hs7; have b07 : Below wr.heap.size wr w7 := b06.trans (hb7.mono b06.size); have HC7 := HC6.below hb7; have hO7 := owns_up hO0 b07) | (go_at_call 77; refine (cloneQ ax (rc - 4) q ((rl.drop 4).take q) wr (hax _ rfl) Hlen.out.symm HX5 (by omega)).mono ?_; rintro e w6 ⟨ac, cc, rfl, HC6, hac, hb6⟩; have b06 : Below wr.heap.size wr w6 := hb6) | (refine wl_cutLH rfl _ _ _ rfl (some ⟨rb, roff, none⟩) rn rc rl rfl 4 (4 + q) _ _ rfl rfl rfl (by omega) HRN.out HR (by omega) (by omega) q (rc - 4) (by omega) rfl ?_; intro ax hax HX5) | (refine wl_cutH (by rfl) _ _ rfl (some ⟨rb, roff, none⟩) rn rc rl rfl 4 4 rfl rfl HRN.out HR (by omega) (by omega) ?_; intro HT4) | (go_at_call 90; refine (hno HT4).out.mono ?_; rintro e w5 ⟨rfl, rfl⟩))
          go_roundw
          case rel =>
            refine ⟨j + 1, rn - (4 + q), rc - (4 + q), c9, rl.drop (4 + q), ra9, a9, ps ++ [⟨ac, cc, (rl.drop 4).take q⟩], by omega, by go_num, rfl, by show _ = _; rw [List.length_drop, ← HRN.out], by omega, HR9, (fun d e => by obtain ⟨d1, h1, h2⟩ := hra9 _ rfl; rw [h1] at e; cases e; dsimp only at h2; omega), rfl, by show _ = _; rw [List.length_append, HPSL.out]; rfl, hP9, ?_, bb9⟩
            show _ = _
            rw [HGN.out, HK2.out, List.map_append]; rfl
          case measure => simp [intOf] <;> omega
    · obtain rfl : j = N := by omega
      have HGN : Hid (unR l = some (ps.map Pt.l, rl)) := hid (by rw [HG.out, Nat.sub_self]; rfl)
      clear HG
      by_cases hr0 : rn = 0
      · have hr0I : ¬ (0 : Int) < (rn : Int) := by omega
        have hrl : rl = [] := List.eq_nil_of_length_eq_zero (by rw [← HRN.out]; exact hr0)
        have HE : Hid (unE l = packE (ps.map Pt.l)) := hid (by rw [HU.out _ HGN.out, hrl]; rfl)
        have hpf := hid (PackError_any pa pc j ps wr HPS.out.symm hP.row (fun x hx _ => (hP.ok x hx).1))
        by_cases hp0 : packE (ps.map Pt.l) = 0
        · rw [hp0] at hpf
          have HE0 : Hid (unE l = 0) := hid (by rw [HE.out]; exact hp0)
          clear hrl hp0
          subst hr0
          go_wp2_with (go_at_call 80; refine hpf.out.mono ?_; rintro e w5 ⟨rfl, hb5⟩)
          go_ret2
          have hP5 := hP.below hb5
          exact unPost_ok (by rw [← HB.out]; exact hb.trans (hb5.mono hs0)) HE0.out (by rw [HGN.out]; rfl) HPS.out.symm hP5.row (fun x hx => (hP5.ok x hx).1)
        · obtain ⟨E, HEE⟩ : ∃ E, Hid (E = packE (ps.map Pt.l)) := ⟨_, rfl⟩
          rw [← HEE.out] at hpf hp0
          clear hrl
          subst hr0
          go_wp2_with (go_at_call 80; refine hpf.out.mono ?_; rintro e w5 ⟨rfl, hb5⟩)
          go_ret2
          exact unPost_bad (by rw [← HB.out]; exact hb.trans (hb5.mono hs0)) (by rw [HE.out, HEE.out]) hp0
      · have hr0I : (0 : Int) < (rn : Int) := by omega
        have HE : Hid (unE l = 2) := hid (by rw [HU.out _ HGN.out]; unfold unF; dsimp only; rw [if_pos (fun e => hr0 (by rw [HRN.out, e]; rfl))])
        go_wp2
        go_ret2
        exact unPost_bad (by rw [← HB.out]; exact hb) HE.out (by decide)
theorem Unpack_any (bo : Option Addr) (bc n : Nat) (l : List Int) (w : World) (hn : n = l.length) (HP : Pt.Ok w ⟨bo, bc, l⟩) (hm : n ≤ 9223372036854775807) :
    Calls Try.prog 82 #[.slice bo n bc] w (UnPost l w) := by
  by_cases h1 : n < 5
  · exact Unpack_short bo bc n l w hn h1
  · by_cases h2 : l.take 4 = kwp
    · exact Unpack_main bo bc n l w hn (by omega) HP h2 hm
    · exact Unpack_form bo bc n l w hn (by omega) HP h2
theorem Unpacked_any (bo : Option Addr) (bc n : Nat) (l : List Int) (w : World) (hn : n = l.length) (HP : Pt.Ok w ⟨bo, bc, l⟩) (hm : n ≤ 9223372036854775807) :
    Calls Try.prog 85 #[.slice bo n bc] w (UnPost l w) := by
  by_cases h1 : n < 5
  · exact Unpacked_short bo bc n l w hn h1
  · by_cases h2 : l.take 4 = kwp
    · exact Unpacked_main bo bc n l w hn (by omega) HP h2 hm
    · exact Unpacked_form bo bc n l w hn (by omega) HP h2
end Go.Proofs.Ytbljihhelladbaa.wr
