/-
  What Print writes Read reads; the walk of the law EnvelopesMatch. Conditions: an envelope of the type's form, a slice of octets that lies in memory. What a law's walk owes the row's form: a call that returns true and leaves all that was there as it was meets the law's 'post'. Conditions: none but the parameters' types being readable, which is asked as a closed fact.
-/
import Derived.Test.YtbljihhelladbaaEWrM
import Derived.Test.YtbljihhelladbaaEWrP
import Derived.Test.YtbljihhelladbaaEMkX
import Derived.Test.YtbljihhelladbaaEMem
import Derived.ProofKit
import Derived.OpenShut
import Derived.JoinedCond
namespace Go.Proofs.Ytbljihhelladbaa.wr
open Go.RowKit Go.Proofs.Ytbljihhelladbaa.st Go.Proofs.Ytbljihhelladbaa.hs Go.Proofs.Ytbljihhelladbaa.shr Go.Proofs.Ytbljihhelladbaa.sh
set_option linter.unusedSimpArgs false
set_option linter.unusedVariables false
set_option pp.maxSteps 6000
theorem seg_mid (p m q : List Int) (K n : Nat) (hp : p.length = K) (hm : m.length = n) : seg (p ++ m ++ q) K n = m := by
  unfold seg
  rw [List.append_assoc, List.drop_append_of_le_length (by omega), List.drop_of_length_le (by omega), List.nil_append, List.take_append_of_le_length (by omega), List.take_of_length_le (by omega)]
theorem numL_o4 {e : Int} (h : 0 ≤ e ∧ e ≤ 4294967295) : numL (o4 e) = e := by
  show 256 * (256 * (256 * (256 * 0 + e / 16777216 % 256) + e / 65536 % 256) + e / 256 % 256) + e % 256 = e
  omega
theorem errV_zero {x : Env} (h : errV x = 0) : (x.v = 1 ∨ x.v = 2) ∧ (0 ≤ x.e ∧ x.e ≤ 4294967295) ∧ (x.v = 1 → x.o = List.replicate 16 0 ∧ x.c = List.replicate 32 0) := by
  unfold errV at h
  by_cases h1 : x.v = 1 ∨ x.v = 2
  · rw [if_neg (fun k => k h1)] at h
    by_cases h2 : 0 ≤ x.e ∧ x.e ≤ 4294967295
    · rw [if_neg (fun k => k h2)] at h
      refine ⟨h1, h2, fun h3 => ?_⟩
      by_cases h4 : x.o = List.replicate 16 0 ∧ x.c = List.replicate 32 0
      · exact h4
      · rw [if_pos ⟨h3, h4⟩] at h; cases h
    · rw [if_pos h2] at h; cases h
  · rw [if_pos h1] at h; cases h
theorem read_print1 {x : Env} (hx : x.Ok) (hv : x.v = 1) (he : 0 ≤ x.e ∧ x.e ≤ 4294967295) (ho : x.o = List.replicate 16 0) (hc : x.c = List.replicate 32 0) : readE (envL x) = 0 ∧ readX (envL x) = x := by
  have hL : envL x = [75, 87, 87] ++ [1] ++ o4 x.e ++ x.b ++ x.n ++ x.g ++ x.t := by unfold envL aheadL twoL; rw [hv]; simp
  have hl : (envL x).length = 88 := by rw [envL_length hx]; unfold sizeV; rw [if_neg (by omega)]
  have h3 : (envL x).getD 3 0 = 1 := by rw [hL]; simp [List.getD_eq_getElem?_getD]
  have ht : (envL x).take 3 = kww := by rw [hL]; simp [kww]
  have hs : szR (envL x) = 88 := by unfold szR; rw [if_neg (by omega)]
  have s_e : seg (envL x) 4 4 = o4 x.e := by
    rw [show envL x = ([75, 87, 87] ++ [1]) ++ o4 x.e ++ (x.b ++ x.n ++ x.g ++ x.t) by rw [hL] <;> simp]
    exact seg_mid _ _ _ 4 4 (by simp [o4_length, hx.bl, hx.nl, hx.gl, hx.tl]) (by simp [o4_length, hx.bl, hx.nl, hx.gl, hx.tl])
  have s_b : seg (envL x) 8 16 = x.b := by
    rw [show envL x = ([75, 87, 87] ++ [1] ++ o4 x.e) ++ x.b ++ (x.n ++ x.g ++ x.t) by rw [hL] <;> simp]
    exact seg_mid _ _ _ 8 16 (by simp [o4_length, hx.bl, hx.nl, hx.gl, hx.tl]) (by simp [o4_length, hx.bl, hx.nl, hx.gl, hx.tl])
  have s_n : seg (envL x) 24 16 = x.n := by
    rw [show envL x = ([75, 87, 87] ++ [1] ++ o4 x.e ++ x.b) ++ x.n ++ (x.g ++ x.t) by rw [hL] <;> simp]
    exact seg_mid _ _ _ 24 16 (by simp [o4_length, hx.bl, hx.nl, hx.gl, hx.tl]) (by simp [o4_length, hx.bl, hx.nl, hx.gl, hx.tl])
  have s_g : seg (envL x) 40 32 = x.g := by
    rw [show envL x = ([75, 87, 87] ++ [1] ++ o4 x.e ++ x.b ++ x.n) ++ x.g ++ (x.t) by rw [hL] <;> simp]
    exact seg_mid _ _ _ 40 32 (by simp [o4_length, hx.bl, hx.nl, hx.gl, hx.tl]) (by simp [o4_length, hx.bl, hx.nl, hx.gl, hx.tl])
  have s_t : seg (envL x) 72 16 = x.t := by
    rw [show envL x = ([75, 87, 87] ++ [1] ++ o4 x.e ++ x.b ++ x.n ++ x.g) ++ x.t ++ ([]) by rw [hL] <;> simp]
    exact seg_mid _ _ _ 72 16 (by simp [o4_length, hx.bl, hx.nl, hx.gl, hx.tl]) (by simp [o4_length, hx.bl, hx.nl, hx.gl, hx.tl])
  constructor
  · unfold readE
    rw [if_neg (by omega), if_neg (fun h => h ht), if_neg (by omega), hs, if_neg (by omega), if_neg (by omega)]
  · unfold readX
    rw [if_neg (by omega), s_e, s_b, s_n, s_g, s_t, numL_o4 he]
    cases x
    simp_all
theorem read_print2 {x : Env} (hx : x.Ok) (hv : x.v = 2) (he : 0 ≤ x.e ∧ x.e ≤ 4294967295) : readE (envL x) = 0 ∧ readX (envL x) = x := by
  have hL : envL x = [75, 87, 87] ++ [2] ++ o4 x.e ++ x.b ++ x.o ++ x.n ++ x.c ++ x.g ++ x.t := by unfold envL aheadL twoL; rw [hv]; simp
  have hl : (envL x).length = 136 := by rw [envL_length hx]; unfold sizeV; rw [if_pos hv]
  have h3 : (envL x).getD 3 0 = 2 := by rw [hL]; simp [List.getD_eq_getElem?_getD]
  have ht : (envL x).take 3 = kww := by rw [hL]; simp [kww]
  have hs : szR (envL x) = 136 := by unfold szR; rw [if_pos h3]
  have s_e : seg (envL x) 4 4 = o4 x.e := by
    rw [show envL x = ([75, 87, 87] ++ [2]) ++ o4 x.e ++ (x.b ++ x.o ++ x.n ++ x.c ++ x.g ++ x.t) by rw [hL] <;> simp]
    exact seg_mid _ _ _ 4 4 (by simp [o4_length, hx.bl, hx.ol, hx.nl, hx.cl, hx.gl, hx.tl]) (by simp [o4_length, hx.bl, hx.ol, hx.nl, hx.cl, hx.gl, hx.tl])
  have s_b : seg (envL x) 8 16 = x.b := by
    rw [show envL x = ([75, 87, 87] ++ [2] ++ o4 x.e) ++ x.b ++ (x.o ++ x.n ++ x.c ++ x.g ++ x.t) by rw [hL] <;> simp]
    exact seg_mid _ _ _ 8 16 (by simp [o4_length, hx.bl, hx.ol, hx.nl, hx.cl, hx.gl, hx.tl]) (by simp [o4_length, hx.bl, hx.ol, hx.nl, hx.cl, hx.gl, hx.tl])
  have s_o : seg (envL x) 24 16 = x.o := by
    rw [show envL x = ([75, 87, 87] ++ [2] ++ o4 x.e ++ x.b) ++ x.o ++ (x.n ++ x.c ++ x.g ++ x.t) by rw [hL] <;> simp]
    exact seg_mid _ _ _ 24 16 (by simp [o4_length, hx.bl, hx.ol, hx.nl, hx.cl, hx.gl, hx.tl]) (by simp [o4_length, hx.bl, hx.ol, hx.nl, hx.cl, hx.gl, hx.tl])
  have s_n : seg (envL x) 40 16 = x.n := by
    rw [show envL x = ([75, 87, 87] ++ [2] ++ o4 x.e ++ x.b ++ x.o) ++ x.n ++ (x.c ++ x.g ++ x.t) by rw [hL] <;> simp]
    exact seg_mid _ _ _ 40 16 (by simp [o4_length, hx.bl, hx.ol, hx.nl, hx.cl, hx.gl, hx.tl]) (by simp [o4_length, hx.bl, hx.ol, hx.nl, hx.cl, hx.gl, hx.tl])
  have s_c : seg (envL x) 56 32 = x.c := by
    rw [show envL x = ([75, 87, 87] ++ [2] ++ o4 x.e ++ x.b ++ x.o ++ x.n) ++ x.c ++ (x.g ++ x.t) by rw [hL] <;> simp]
    exact seg_mid _ _ _ 56 32 (by simp [o4_length, hx.bl, hx.ol, hx.nl, hx.cl, hx.gl, hx.tl]) (by simp [o4_length, hx.bl, hx.ol, hx.nl, hx.cl, hx.gl, hx.tl])
  have s_g : seg (envL x) 88 32 = x.g := by
    rw [show envL x = ([75, 87, 87] ++ [2] ++ o4 x.e ++ x.b ++ x.o ++ x.n ++ x.c) ++ x.g ++ (x.t) by rw [hL] <;> simp]
    exact seg_mid _ _ _ 88 32 (by simp [o4_length, hx.bl, hx.ol, hx.nl, hx.cl, hx.gl, hx.tl]) (by simp [o4_length, hx.bl, hx.ol, hx.nl, hx.cl, hx.gl, hx.tl])
  have s_t : seg (envL x) 120 16 = x.t := by
    rw [show envL x = ([75, 87, 87] ++ [2] ++ o4 x.e ++ x.b ++ x.o ++ x.n ++ x.c ++ x.g) ++ x.t ++ ([]) by rw [hL] <;> simp]
    exact seg_mid _ _ _ 120 16 (by simp [o4_length, hx.bl, hx.ol, hx.nl, hx.cl, hx.gl, hx.tl]) (by simp [o4_length, hx.bl, hx.ol, hx.nl, hx.cl, hx.gl, hx.tl])
  constructor
  · unfold readE
    rw [if_neg (by omega), if_neg (fun h => h ht), if_neg (by omega), hs, if_neg (by omega), if_neg (by omega)]
  · unfold readX
    rw [if_pos h3, s_e, s_b, s_o, s_n, s_c, s_g, s_t, numL_o4 he]
    cases x
    simp_all
theorem read_print {x : Env} (hx : x.Ok) (h : errV x = 0) : readV (envL x) = .tuple #[.agg x.cs.toArray, .int .i64 0] := by
  obtain ⟨h1, h2, h3⟩ := errV_zero h
  have key : readE (envL x) = 0 ∧ readX (envL x) = x := by
    rcases h1 with hv | hv
    · exact read_print1 hx hv h2 (h3 hv).1 (h3 hv).2
    · exact read_print2 hx hv h2
  rw [readV_ok key.1, key.2]
theorem ext_mid (p m q : List Value) (K n : Nat) (hp : p.length = K) (hm : m.length = n) : (p ++ m ++ q).toArray.extract K (K + n) = m.toArray := by
  apply Array.ext'
  rw [Array.toList_extract]
  simp only [List.extract_eq_take_drop]
  rw [List.append_assoc, List.drop_append_of_le_length (by omega), List.drop_of_length_le (by omega), List.nil_append, show K + n - K = n by omega, List.take_append_of_le_length (by omega), List.take_of_length_le (by omega)]
theorem part_arr {P : Program} (w : World) (t : TypeId) (n K : Nat) (ha : Agg P t n) (cs : Array Value) (ds : List Value) (he : cs.extract K (K + n) = ds.toArray) : (part t cs K).run P w = .ok (.agg ds.toArray) w := by
  obtain ⟨⟨d, hu, hd⟩, hi⟩ := ha
  obtain ⟨i, hi, hsz⟩ := Option.map_eq_some_iff.1 hi
  cases d <;> simp_all [part, isAgg, run_underlying hu, sizeOf, typeInfo, Result.andThen]
theorem ext_b {x : Env} (h : x.Ok) : x.cs.toArray.extract 2 (2 + 16) = (x.b.map (Value.int .u8)).toArray := by
  rw [show x.cs = ([.int .i64 x.v, .int .i64 x.e]) ++ x.b.map (Value.int .u8) ++ (x.o.map (Value.int .u8) ++ x.n.map (Value.int .u8) ++ x.c.map (Value.int .u8) ++ x.g.map (Value.int .u8) ++ x.t.map (Value.int .u8)) by rw [Env.cs_split] <;> simp]
  exact ext_mid _ _ _ 2 16 (by simp [h.bl, h.ol, h.nl, h.cl, h.gl, h.tl]) (by simp [h.bl, h.ol, h.nl, h.cl, h.gl, h.tl])
theorem ext_o {x : Env} (h : x.Ok) : x.cs.toArray.extract 18 (18 + 16) = (x.o.map (Value.int .u8)).toArray := by
  rw [show x.cs = ([.int .i64 x.v, .int .i64 x.e] ++ x.b.map (Value.int .u8)) ++ x.o.map (Value.int .u8) ++ (x.n.map (Value.int .u8) ++ x.c.map (Value.int .u8) ++ x.g.map (Value.int .u8) ++ x.t.map (Value.int .u8)) by rw [Env.cs_split] <;> simp]
  exact ext_mid _ _ _ 18 16 (by simp [h.bl, h.ol, h.nl, h.cl, h.gl, h.tl]) (by simp [h.bl, h.ol, h.nl, h.cl, h.gl, h.tl])
theorem ext_n {x : Env} (h : x.Ok) : x.cs.toArray.extract 34 (34 + 16) = (x.n.map (Value.int .u8)).toArray := by
  rw [show x.cs = ([.int .i64 x.v, .int .i64 x.e] ++ x.b.map (Value.int .u8) ++ x.o.map (Value.int .u8)) ++ x.n.map (Value.int .u8) ++ (x.c.map (Value.int .u8) ++ x.g.map (Value.int .u8) ++ x.t.map (Value.int .u8)) by rw [Env.cs_split] <;> simp]
  exact ext_mid _ _ _ 34 16 (by simp [h.bl, h.ol, h.nl, h.cl, h.gl, h.tl]) (by simp [h.bl, h.ol, h.nl, h.cl, h.gl, h.tl])
theorem ext_c {x : Env} (h : x.Ok) : x.cs.toArray.extract 50 (50 + 32) = (x.c.map (Value.int .u8)).toArray := by
  rw [show x.cs = ([.int .i64 x.v, .int .i64 x.e] ++ x.b.map (Value.int .u8) ++ x.o.map (Value.int .u8) ++ x.n.map (Value.int .u8)) ++ x.c.map (Value.int .u8) ++ (x.g.map (Value.int .u8) ++ x.t.map (Value.int .u8)) by rw [Env.cs_split] <;> simp]
  exact ext_mid _ _ _ 50 32 (by simp [h.bl, h.ol, h.nl, h.cl, h.gl, h.tl]) (by simp [h.bl, h.ol, h.nl, h.cl, h.gl, h.tl])
theorem ext_g {x : Env} (h : x.Ok) : x.cs.toArray.extract 82 (82 + 32) = (x.g.map (Value.int .u8)).toArray := by
  rw [show x.cs = ([.int .i64 x.v, .int .i64 x.e] ++ x.b.map (Value.int .u8) ++ x.o.map (Value.int .u8) ++ x.n.map (Value.int .u8) ++ x.c.map (Value.int .u8)) ++ x.g.map (Value.int .u8) ++ (x.t.map (Value.int .u8)) by rw [Env.cs_split] <;> simp]
  exact ext_mid _ _ _ 82 32 (by simp [h.bl, h.ol, h.nl, h.cl, h.gl, h.tl]) (by simp [h.bl, h.ol, h.nl, h.cl, h.gl, h.tl])
theorem ext_t {x : Env} (h : x.Ok) : x.cs.toArray.extract 114 (114 + 16) = (x.t.map (Value.int .u8)).toArray := by
  rw [show x.cs = ([.int .i64 x.v, .int .i64 x.e] ++ x.b.map (Value.int .u8) ++ x.o.map (Value.int .u8) ++ x.n.map (Value.int .u8) ++ x.c.map (Value.int .u8) ++ x.g.map (Value.int .u8)) ++ x.t.map (Value.int .u8) ++ ([]) by rw [Env.cs_split] <;> simp]
  exact ext_mid _ _ _ 114 16 (by simp [h.bl, h.ol, h.nl, h.cl, h.gl, h.tl]) (by simp [h.bl, h.ol, h.nl, h.cl, h.gl, h.tl])
theorem part_v (w : World) (x : Env) : (part 3 x.cs.toArray 0).run Try.prog w = .ok (.int .i64 x.v) w := by
  simp [part, isAgg, run_underlying Try.underlying3, Env.cv]
theorem part_e (w : World) (x : Env) : (part 3 x.cs.toArray 1).run Try.prog w = .ok (.int .i64 x.e) w := by
  simp [part, isAgg, run_underlying Try.underlying3, Env.ce]
theorem run_eq_env (w : World) (x : Env) (hx : x.Ok) : (Op.equalIn 10000 107 (.agg x.cs.toArray) (.agg x.cs.toArray)).run Try.prog w = .ok true w := by
  have hu : Try.prog.underlying 107 = some (.struct (Try.prog.fieldsOf 107)) := by
    unfold Program.fieldsOf; rw [Try.underlying107]
  rw [run_equalIn_agg w 9999 107 _ _ hu (by kernel_rfl)]
  have hv : (Op.equalIn 9999 3 (.int .i64 x.v) (.int .i64 x.v)).run Try.prog w = .ok true w := by rw [run_equalIn_int w 9998 3 .i64 .i64 _ _ Try.underlying3]; simp
  have he : (Op.equalIn 9999 3 (.int .i64 x.e) (.int .i64 x.e)).run Try.prog w = .ok true w := by rw [run_equalIn_int w 9998 3 .i64 .i64 _ _ Try.underlying3]; simp
  have hb : (Op.equalIn 9999 57 (.agg (x.b.map (Value.int .u8)).toArray) (.agg (x.b.map (Value.int .u8)).toArray)).run Try.prog w = .ok true w := by rw [run_equalIn_ints (P := Try.prog) w 9997 57 5 16 .u8 Try.underlying57 Try.underlying5 size5' x.b x.b hx.bl hx.bl]; simp
  have ho : (Op.equalIn 9999 57 (.agg (x.o.map (Value.int .u8)).toArray) (.agg (x.o.map (Value.int .u8)).toArray)).run Try.prog w = .ok true w := by rw [run_equalIn_ints (P := Try.prog) w 9997 57 5 16 .u8 Try.underlying57 Try.underlying5 size5' x.o x.o hx.ol hx.ol]; simp
  have hn : (Op.equalIn 9999 25 (.agg (x.n.map (Value.int .u8)).toArray) (.agg (x.n.map (Value.int .u8)).toArray)).run Try.prog w = .ok true w := by rw [run_equalIn_ints (P := Try.prog) w 9997 25 5 16 .u8 Try.underlying25 Try.underlying5 size5' x.n x.n hx.nl hx.nl]; simp
  have hc : (Op.equalIn 9999 73 (.agg (x.c.map (Value.int .u8)).toArray) (.agg (x.c.map (Value.int .u8)).toArray)).run Try.prog w = .ok true w := by rw [run_equalIn_ints (P := Try.prog) w 9997 73 5 32 .u8 Try.underlying73 Try.underlying5 size5' x.c x.c hx.cl hx.cl]; simp
  have hg : (Op.equalIn 9999 22 (.agg (x.g.map (Value.int .u8)).toArray) (.agg (x.g.map (Value.int .u8)).toArray)).run Try.prog w = .ok true w := by rw [run_equalIn_ints (P := Try.prog) w 9997 22 5 32 .u8 Try.underlying22 Try.underlying5 size5' x.g x.g hx.gl hx.gl]; simp
  have ht : (Op.equalIn 9999 105 (.agg (x.t.map (Value.int .u8)).toArray) (.agg (x.t.map (Value.int .u8)).toArray)).run Try.prog w = .ok true w := by rw [run_equalIn_ints (P := Try.prog) w 9997 105 5 16 .u8 Try.underlying105 Try.underlying5 size5' x.t x.t hx.tl hx.tl]; simp
  have hl : ∃ f0 f1 f2 f3 f4 f5 f6 f7 : Field, (Try.prog.fieldsOf 107).toList = [f0, f1, f2, f3, f4, f5, f6, f7] ∧ (f0.name ≠ "_" ∧ f0.type = 3 ∧ f0.offset = 0) ∧ (f1.name ≠ "_" ∧ f1.type = 3 ∧ f1.offset = 1) ∧ (f2.name ≠ "_" ∧ f2.type = 57 ∧ f2.offset = 2) ∧ (f3.name ≠ "_" ∧ f3.type = 57 ∧ f3.offset = 18) ∧ (f4.name ≠ "_" ∧ f4.type = 25 ∧ f4.offset = 34) ∧ (f5.name ≠ "_" ∧ f5.type = 73 ∧ f5.offset = 50) ∧ (f6.name ≠ "_" ∧ f6.type = 22 ∧ f6.offset = 82) ∧ (f7.name ≠ "_" ∧ f7.type = 105 ∧ f7.offset = 114) := by
    unfold Program.fieldsOf
    rw [Try.underlying107]
    exact ⟨_, _, _, _, _, _, _, _, rfl, ⟨by decide, rfl, rfl⟩, ⟨by decide, rfl, rfl⟩, ⟨by decide, rfl, rfl⟩, ⟨by decide, rfl, rfl⟩, ⟨by decide, rfl, rfl⟩, ⟨by decide, rfl, rfl⟩, ⟨by decide, rfl, rfl⟩, ⟨by decide, rfl, rfl⟩⟩
  obtain ⟨f0, f1, f2, f3, f4, f5, f6, f7, hl, ⟨n0, t0, o0⟩, ⟨n1, t1, o1⟩, ⟨n2, t2, o2⟩, ⟨n3, t3, o3⟩, ⟨n4, t4, o4⟩, ⟨n5, t5, o5⟩, ⟨n6, t6, o6⟩, ⟨n7, t7, o7⟩⟩ := hl
  rw [hl]
  rw [eqFields_cons w 9999 _ _ f0 _ _ _ _ n0 (by rw [t0, o0]; exact part_v w x) (by rw [t0, o0]; exact part_v w x) (by rw [t0]; exact hv), if_pos rfl]
  rw [eqFields_cons w 9999 _ _ f1 _ _ _ _ n1 (by rw [t1, o1]; exact part_e w x) (by rw [t1, o1]; exact part_e w x) (by rw [t1]; exact he), if_pos rfl]
  rw [eqFields_cons w 9999 _ _ f2 _ _ _ _ n2 (by rw [t2, o2]; exact part_arr w _ 16 2 aggID _ _ (ext_b hx)) (by rw [t2, o2]; exact part_arr w _ 16 2 aggID _ _ (ext_b hx)) (by rw [t2]; exact hb), if_pos rfl]
  rw [eqFields_cons w 9999 _ _ f3 _ _ _ _ n3 (by rw [t3, o3]; exact part_arr w _ 16 18 aggID _ _ (ext_o hx)) (by rw [t3, o3]; exact part_arr w _ 16 18 aggID _ _ (ext_o hx)) (by rw [t3]; exact ho), if_pos rfl]
  rw [eqFields_cons w 9999 _ _ f4 _ _ _ _ n4 (by rw [t4, o4]; exact part_arr w _ 16 34 aggNo _ _ (ext_n hx)) (by rw [t4, o4]; exact part_arr w _ 16 34 aggNo _ _ (ext_n hx)) (by rw [t4]; exact hn), if_pos rfl]
  rw [eqFields_cons w 9999 _ _ f5 _ _ _ _ n5 (by rw [t5, o5]; exact part_arr w _ 32 50 aggSumT _ _ (ext_c hx)) (by rw [t5, o5]; exact part_arr w _ 32 50 aggSumT _ _ (ext_c hx)) (by rw [t5]; exact hc), if_pos rfl]
  rw [eqFields_cons w 9999 _ _ f6 _ _ _ _ n6 (by rw [t6, o6]; exact part_arr w _ 32 82 agg32 _ _ (ext_g hx)) (by rw [t6, o6]; exact part_arr w _ 32 82 agg32 _ _ (ext_g hx)) (by rw [t6]; exact hg), if_pos rfl]
  rw [eqFields_cons w 9999 _ _ f7 _ _ _ _ n7 (by rw [t7, o7]; exact part_arr w _ 16 114 aggTag _ _ (ext_t hx)) (by rw [t7, o7]; exact part_arr w _ 16 114 aggTag _ _ (ext_t hx)) (by rw [t7]; exact ht), if_pos rfl]
  rfl
theorem mine_rowI {w : World} {base n c : Nat} {ao : Option Addr} {l : List Int} (h : Mine w base 5 1 (.slice ao n c) n (l.map (Value.int .u8))) : RowI .u8 w ao l := by
  obtain ⟨ao', c', hv, _, hr⟩ := h.row
  cases hv
  exact hr.i
set_option maxRecDepth 100000 in
set_option maxHeartbeats 8000000 in
theorem envelopes_good (x : Env) (hx : x.Ok) (ao : Option Addr) (cap n : Nat) (l : List Int) (w : World) (hn : n = l.length) (hP : 4 ≤ n → Pt.Ok w ⟨ao, cap, l⟩) (ol : Octs l) (h0 : errV x = 0) :
    Calls Try.prog 11 #[.agg x.cs.toArray, .slice ao n cap] w fun e w' => e = .returned (.bool true) ∧ Below w.heap.size w w' := by
  obtain ⟨B, HB⟩ : ∃ B, Hid (B = w.heap.size) := ⟨_, rfl⟩
  have hsz : w.heap.size = B := HB.out.symm
  obtain ⟨m, Hm⟩ : ∃ m, Hid (m = sizeV x) := ⟨_, rfl⟩
  obtain ⟨L, HL⟩ : ∃ L, Hid (L = envL x) := ⟨_, rfl⟩
  have hml : Hid (m = L.length) := hid (by rw [Hm.out, HL.out, envL_length hx])
  have oL : Octs L := by rw [HL.out]; exact envL_octs hx (errV_zero h0).1
  have hm88 : 88 ≤ m ∧ m ≤ 136 := by rw [Hm.out]; unfold sizeV; split <;> omega
  have hpr := fun w => hid ((Print_any x hx w).mono fun r w' (h : EnvPost x w r w') => (by
    have h2 := h.2
    rw [if_pos h0, ← Hm.out, ← HL.out] at h2
    obtain ⟨a, b, h3, h4⟩ := h2
    exact ⟨a, b, h3, h4, h.1⟩ : ∃ ao c, r = .returned (.tuple #[.slice ao m c, .int .i64 0]) ∧ Mine w' w.heap.size 5 1 (.slice ao m c) m (L.map (Value.int .u8)) ∧ Below w.heap.size w w'))
  have hen := fun w => hid ((Envelope_any x hx w).mono fun r w' (h : EnvPost x w r w') => (by
    have h2 := h.2
    rw [if_pos h0, ← Hm.out, ← HL.out] at h2
    obtain ⟨a, b, h3, h4⟩ := h2
    exact ⟨a, b, h3, h4, h.1⟩ : ∃ ao c, r = .returned (.tuple #[.slice ao m c, .int .i64 0]) ∧ Mine w' w.heap.size 5 1 (.slice ao m c) m (L.map (Value.int .u8)) ∧ Below w.heap.size w w'))
  have hback := read_print hx h0
  rw [← HL.out] at hback
  have hro := fun ao c w (HP : Pt.Ok w ⟨ao, c, L⟩) => hid (Read_any ao c m L w hml.out (fun _ => HP))
  rw [hback] at hro
  have heq := fun a1 c1 a2 c2 w (h1 : RowI .u8 w a1 L) (h2 : RowI .u8 w a2 L) => hid (Equal_any a1 a2 c1 c2 m m L L w hml.out hml.out h1 h2 oL oL)
  rw [decide_eq_true rfl] at heq
  have hwr := fun w => hid (wraps_any w)
  have hr1 := fun w1 (hb : Below B w w1) => hid (Read_any ao cap n l w1 hn (fun h => (hP h).below (hsz ▸ hb)))
  have hr2 := fun w1 (hb : Below B w w1) => hid (RefRead_any ao cap n l w1 hn (fun h => (hP h).below (hsz ▸ hb)))
  have hok := readX0_ok ol
  have hq2 := fun w => hid (run_eq_env w (readX0 l) hok)
  obtain ⟨D, HD⟩ : ∃ D, Hid (D = (readX0 l).cs) := ⟨_, rfl⟩
  have hDl : D.length = 130 := by rw [HD.out]; exact hok.csl
  have hD1 : ∀ u ∈ D, u.oneCell' = true := by rw [HD.out]; exact Env.cs_one _
  obtain ⟨E2, HE2⟩ : ∃ e, Hid (e = readE l) := ⟨_, rfl⟩
  have hRV : readV l = .tuple #[.agg D.toArray, .int .i64 E2] := by rw [HD.out, HE2.out]; rfl
  rw [hRV] at hr1 hr2
  rw [← HD.out] at hq2
  have hq1 := fun w => hid (run_eq_env w x hx)
  obtain ⟨CS, HCS⟩ : ∃ C, Hid (C = x.cs) := ⟨_, rfl⟩
  have hCl : CS.length = 130 := by rw [HCS.out]; exact hx.csl
  have hC1 : ∀ u ∈ CS, u.oneCell' = true := by rw [HCS.out]; exact x.cs_one
  rw [← HCS.out] at hpr hen hq1 hro ⊢
  obtain ⟨ZE, HZE⟩ : ∃ Z, Hid (Z = env0.cs) := ⟨_, rfl⟩
  have hzE := hid zeroEnv
  rw [← HZE.out] at hzE
  have hZEl : ZE.length = 130 := by rw [HZE.out]; exact env0_ok.csl
  have heg : Try.prog.eqGuardType Try.prog.depth 107 = false := by kernel_rfl
  have HEG := hid heg
  have hb2 : (E2 == E2) = true := by simp
  clear hx hok hRV heg hn hback h0
  go_enter Try.func11, Try.ntmps11
  go_wp2_with (first | (refine wl_eqM 66 rfl (by rfl) 107 _ _ _ rfl D.toArray D.toArray rfl rfl true (hq2 wc).out HEG.out ?_) | (refine wl_loadD 65 rfl (by rfl) 107 _ rfl ⟨wa.heap.size, 0, none⟩ rfl 130 D hDl aggEnv hVc.at0 ?_) | (refine wl_loadD 64 rfl (by rfl) 107 _ rfl ⟨w7.heap.size, 0, none⟩ rfl 130 D hDl aggEnv hUc.at0 ?_) | (refine wl_storeV rfl 107 _ _ rfl 107 wa.heap.size rfl D rfl 130 aggEnv hDl ZE hVb hZEl hD1 ?_; intro wc hVc hbc hsc; have hUc := hUb.below hbc (by omega); have bbc := bbb.trans (hbc.mono (by omega : B ≤ _)); clear bbb hbc hVb hUb) | (refine wl_allocV rfl 107 rfl ZE hzE.out wa.heap.size rfl ?_; intro wb hVb hbb hsb; have hUb := hUa.below hbb hUa.lt; have bbb := bba.trans (hbb.mono (by omega : B ≤ _)); clear bba hbb hUa) | (go_at_call 72; refine (hr2 w9 bb9).out.mono ?_; rintro e wa ⟨rfl, hba⟩; have hUa := hU9.below hba hU9.lt; have bba := bb9.trans (hba.mono (by omega : B ≤ _)); have hsa := hba.size; clear bb9 hba hU9) | (refine wl_storeV rfl 107 _ _ rfl 107 w7.heap.size rfl D rfl 130 aggEnv hDl ZE hU8 hZEl hD1 ?_; intro w9 hU9 hb9 hs9; have bb9 := bb8.trans (hb9.mono (by omega : B ≤ _)); clear bb8 hb9 hU8) | (refine wl_allocV rfl 107 rfl ZE hzE.out w7.heap.size rfl ?_; intro w8 hU8 hb8 hs8; have bb8 := bb7.trans (hb8.mono (by omega : B ≤ _)); clear bb7 hb8) | (go_at_call 71; refine (hr1 w6 bb6).out.mono ?_; rintro e w7 ⟨rfl, hb7⟩; have bb7 := bb6.trans (hb7.mono (by omega : B ≤ _)); have hs7 := hb7.size; clear bb6 hb7) | (refine wl_neM 48 rfl (by rfl) 107 _ _ _ rfl CS.toArray CS.toArray rfl rfl true (hq1 w6).out HEG.out ?_) | (refine wl_loadD 47 rfl (by rfl) 107 _ rfl ⟨B, 0, none⟩ rfl 130 CS hCl aggEnv hX6.at0 ?_) | (refine wl_loadD 46 rfl (by rfl) 107 _ rfl ⟨w4.heap.size, 0, none⟩ rfl 130 CS hCl aggEnv hY6.at0 ?_) | (refine wl_storeV rfl 107 _ _ rfl 107 w4.heap.size rfl CS rfl 130 aggEnv hCl ZE hY5 hZEl hC1 ?_; intro w6 hY6 hb6 hs6; have hX6 := hX5.below hb6 (by omega); have bb6 := bb5.trans (hb6.mono (by omega : B ≤ _)); clear hX5 bb5 hb6 hY5) | (refine wl_allocV rfl 107 rfl ZE hzE.out w4.heap.size rfl ?_; intro w5 hY5 hb5 hs5; have hX5 := hX4.below hb5 (by omega); have bb5 := bb4.trans (hb5.mono (by omega : B ≤ _)); clear hX4 bb4 hb5) | (go_at_call 71; refine (hro ao1 c1 w3 (mine_pt hMa3 hml.out (by omega) oL).1).out.mono ?_; rintro e w4 ⟨rfl, hb4⟩; have hX4 := hX3.below hb4 (by omega); have bb4 := bb3.trans (hb4.mono (by omega : B ≤ _)); have hs4 := hb4.size; clear hX3 bb3 hb4 hMa3) | (go_at_call 44; refine (heq ao1 c1 ao2 c2 w3 (mine_rowI hMa3) (mine_rowI hMb3)).out.mono ?_; rintro e wq ⟨rfl, rfl⟩; clear hMb3) | (go_at_call 70; refine (hwr w2).out.mono ?_; rintro e w3 ⟨rfl, hb3⟩; have hX3 := hX2.below hb3 (by omega); have hMa3 := hMa2.belowAll hb3; have hMb3 := hM2.belowAll hb3; have bb3 := bb2.trans (hb3.mono (by omega : B ≤ _)); have hs3 := hb3.size; clear hX2 bb2 hb3 hMa2 hM2) | (go_at_call 69; refine (hen w1).out.mono ?_; rintro e w2 ⟨ao2, c2, rfl, hM2, hb2⟩; have hX2 := hX1.below hb2 (by omega); have hMa2 := hM1.belowAll hb2; have bb2 := bb1.trans (hb2.mono (by omega : B ≤ _)); have hs2 := hb2.size; clear hX1 bb1 hb2 hM1) | (refine wl_load rfl 107 _ rfl ⟨B, 0, none⟩ rfl CS (by rw [hCl]; exact aggEnv) hX1.at0 ?_) | (go_at_call 68; refine (hpr w0).out.mono ?_; rintro e w1 ⟨ao1, c1, rfl, hM1, hb1⟩; have hX1 := hX0.below hb1 (by omega); have bb1 := hb0.trans (hb1.mono (by omega : B ≤ _)); have hs1 := hb1.size; clear hX0 hb0 hb1) | (refine wl_load rfl 107 _ rfl ⟨B, 0, none⟩ rfl CS (by rw [hCl]; exact aggEnv) hX0.at0 ?_) | (refine wl_boxV rfl 107 _ rfl CS rfl B hsz ?_; intro w0 hX0 hb0 hs0))
  go_ret
  exact ⟨rfl, by first | exact bbc | (rw [hsz]; exact bbc)⟩
set_option maxRecDepth 100000 in
set_option maxHeartbeats 8000000 in
theorem envelopes_bad (x : Env) (hx : x.Ok) (ao : Option Addr) (cap n : Nat) (l : List Int) (w : World) (hn : n = l.length) (hP : 4 ≤ n → Pt.Ok w ⟨ao, cap, l⟩) (ol : Octs l) (h0 : ¬ errV x = 0) :
    Calls Try.prog 11 #[.agg x.cs.toArray, .slice ao n cap] w fun e w' => e = .returned (.bool true) ∧ Below w.heap.size w w' := by
  obtain ⟨B, HB⟩ : ∃ B, Hid (B = w.heap.size) := ⟨_, rfl⟩
  have hsz : w.heap.size = B := HB.out.symm
  obtain ⟨EV, HEV⟩ : ∃ e, Hid (e = errV x) := ⟨_, rfl⟩
  have hpr := fun w => hid ((Print_any x hx w).mono fun r w' (h : EnvPost x w r w') => (by
    have h2 := h.2
    rw [if_neg h0, ← HEV.out] at h2
    exact ⟨h2, h.1⟩ : r = .returned (.tuple #[.slice none 0 0, .int .i64 EV]) ∧ Below w.heap.size w w'))
  have hen := fun w => hid ((Envelope_any x hx w).mono fun r w' (h : EnvPost x w r w') => (by
    have h2 := h.2
    rw [if_neg h0, ← HEV.out] at h2
    exact ⟨h2, h.1⟩ : r = .returned (.tuple #[.slice none 0 0, .int .i64 EV]) ∧ Below w.heap.size w w'))
  have heq := fun w => hid (Equal_any none none 0 0 0 0 [] [] w rfl rfl (RowI.nil _ _ _) (RowI.nil _ _ _) (fun c hc => by cases hc) (fun c hc => by cases hc))
  rw [decide_eq_true rfl] at heq
  rw [← HEV.out] at h0
  have hE0 : (EV == 0) = false := by simpa using h0
  have hwr := fun w => hid (wraps_any w)
  have hr1 := fun w1 (hb : Below B w w1) => hid (Read_any ao cap n l w1 hn (fun h => (hP h).below (hsz ▸ hb)))
  have hr2 := fun w1 (hb : Below B w w1) => hid (RefRead_any ao cap n l w1 hn (fun h => (hP h).below (hsz ▸ hb)))
  have hok := readX0_ok ol
  have hq2 := fun w => hid (run_eq_env w (readX0 l) hok)
  obtain ⟨D, HD⟩ : ∃ D, Hid (D = (readX0 l).cs) := ⟨_, rfl⟩
  have hDl : D.length = 130 := by rw [HD.out]; exact hok.csl
  have hD1 : ∀ u ∈ D, u.oneCell' = true := by rw [HD.out]; exact Env.cs_one _
  obtain ⟨E2, HE2⟩ : ∃ e, Hid (e = readE l) := ⟨_, rfl⟩
  have hRV : readV l = .tuple #[.agg D.toArray, .int .i64 E2] := by rw [HD.out, HE2.out]; rfl
  rw [hRV] at hr1 hr2
  rw [← HD.out] at hq2
  have hq1 := fun w => hid (run_eq_env w x hx)
  obtain ⟨CS, HCS⟩ : ∃ C, Hid (C = x.cs) := ⟨_, rfl⟩
  have hCl : CS.length = 130 := by rw [HCS.out]; exact hx.csl
  have hC1 : ∀ u ∈ CS, u.oneCell' = true := by rw [HCS.out]; exact x.cs_one
  rw [← HCS.out] at hpr hen hq1 ⊢
  obtain ⟨ZE, HZE⟩ : ∃ Z, Hid (Z = env0.cs) := ⟨_, rfl⟩
  have hzE := hid zeroEnv
  rw [← HZE.out] at hzE
  have hZEl : ZE.length = 130 := by rw [HZE.out]; exact env0_ok.csl
  have heg : Try.prog.eqGuardType Try.prog.depth 107 = false := by kernel_rfl
  have HEG := hid heg
  have hb2 : (E2 == E2) = true := by simp
  clear hx hok hRV heg hn 
  go_enter Try.func11, Try.ntmps11
  go_wp2_with (first | (refine wl_eqM 66 rfl (by rfl) 107 _ _ _ rfl D.toArray D.toArray rfl rfl true (hq2 wc).out HEG.out ?_) | (refine wl_loadD 65 rfl (by rfl) 107 _ rfl ⟨wa.heap.size, 0, none⟩ rfl 130 D hDl aggEnv hVc.at0 ?_) | (refine wl_loadD 64 rfl (by rfl) 107 _ rfl ⟨w7.heap.size, 0, none⟩ rfl 130 D hDl aggEnv hUc.at0 ?_) | (refine wl_storeV rfl 107 _ _ rfl 107 wa.heap.size rfl D rfl 130 aggEnv hDl ZE hVb hZEl hD1 ?_; intro wc hVc hbc hsc; have hUc := hUb.below hbc (by omega); have bbc := bbb.trans (hbc.mono (by omega : B ≤ _)); clear bbb hbc hVb hUb) | (refine wl_allocV rfl 107 rfl ZE hzE.out wa.heap.size rfl ?_; intro wb hVb hbb hsb; have hUb := hUa.below hbb hUa.lt; have bbb := bba.trans (hbb.mono (by omega : B ≤ _)); clear bba hbb hUa) | (go_at_call 72; refine (hr2 w9 bb9).out.mono ?_; rintro e wa ⟨rfl, hba⟩; have hUa := hU9.below hba hU9.lt; have bba := bb9.trans (hba.mono (by omega : B ≤ _)); have hsa := hba.size; clear bb9 hba hU9) | (refine wl_storeV rfl 107 _ _ rfl 107 w7.heap.size rfl D rfl 130 aggEnv hDl ZE hU8 hZEl hD1 ?_; intro w9 hU9 hb9 hs9; have bb9 := bb8.trans (hb9.mono (by omega : B ≤ _)); clear bb8 hb9 hU8) | (refine wl_allocV rfl 107 rfl ZE hzE.out w7.heap.size rfl ?_; intro w8 hU8 hb8 hs8; have bb8 := bb7.trans (hb8.mono (by omega : B ≤ _)); clear bb7 hb8) | (go_at_call 71; refine (hr1 w3 bb3).out.mono ?_; rintro e w7 ⟨rfl, hb7⟩; have bb7 := bb3.trans (hb7.mono (by omega : B ≤ _)); have hs7 := hb7.size; clear bb3 hb7) | (go_at_call 44; refine (heq w3).out.mono ?_; rintro e wq ⟨rfl, rfl⟩) | (go_at_call 70; refine (hwr w2).out.mono ?_; rintro e w3 ⟨rfl, hb3⟩; have bb3 := bb2.trans (hb3.mono (by omega : B ≤ _)); have hs3 := hb3.size; clear bb2 hb3) | (go_at_call 69; refine (hen w1).out.mono ?_; rintro e w2 ⟨rfl, hb2⟩; have bb2 := bb1.trans (hb2.mono (by omega : B ≤ _)); have hs2 := hb2.size; clear hX1 bb1 hb2) | (refine wl_load rfl 107 _ rfl ⟨B, 0, none⟩ rfl CS (by rw [hCl]; exact aggEnv) hX1.at0 ?_) | (go_at_call 68; refine (hpr w0).out.mono ?_; rintro e w1 ⟨rfl, hb1⟩; have hX1 := hX0.below hb1 (by omega); have bb1 := hb0.trans (hb1.mono (by omega : B ≤ _)); have hs1 := hb1.size; clear hX0 hb0 hb1) | (refine wl_load rfl 107 _ rfl ⟨B, 0, none⟩ rfl CS (by rw [hCl]; exact aggEnv) hX0.at0 ?_) | (refine wl_boxV rfl 107 _ rfl CS rfl B hsz ?_; intro w0 hX0 hb0 hs0))
  go_ret
  exact ⟨rfl, by first | exact bbc | (rw [hsz]; exact bbc)⟩
theorem envelopes_law (x : Env) (hx : x.Ok) (ao : Option Addr) (cap n : Nat) (l : List Int) (w : World) (hn : n = l.length) (hP : 4 ≤ n → Pt.Ok w ⟨ao, cap, l⟩) (ol : Octs l) :
    Calls Try.prog 11 #[.agg x.cs.toArray, .slice ao n cap] w fun e w' => e = .returned (.bool true) ∧ Below w.heap.size w w' := by
  by_cases h0 : errV x = 0
  · exact envelopes_good x hx ao cap n l w hn hP ol h0
  · exact envelopes_bad x hx ao cap n l w hn hP ol h0
end Go.Proofs.Ytbljihhelladbaa.wr
namespace Go.Proofs.Ytbljihhelladbaa.law
set_option linter.unusedSimpArgs false
set_option linter.unusedVariables false
open Go.ChangeShapes Go.WideShapes Go.ChangeAt Go.RowKit
/-- types that can be read, and whose rows there are -/
def Readable (P : Program) : List TypeId → Prop
  | [] => True
  | t :: ts => P.readableRec t = true ∧ t < P.types.size ∧ Readable P ts
theorem readable_nil {P : Program} : Readable P [] := trivial
theorem readable_cons {P : Program} {t : TypeId} {ts : List TypeId} (h : P.readableRec t = true) (k : t < P.types.size) (r : Readable P ts) : Readable P (t :: ts) := ⟨h, k, r⟩
theorem stays {H : Type} {enc : TypeId × Value → H} {P : Program} (hl : laidOutB P = true) {W W' : World} (hb : Below W.heap.size W W') :
    ∀ (ts : List TypeId) (vs : List Value) (ds : List (DataW H)) (ps : List MemPlace), Readable P ts → DataW.TrodAll enc P W 0 (fun _ => true) true ts vs ds ps → (∀ x ∈ ps, x.block < W.heap.size) →
      DataW.TrodAll enc P W' 0 (fun b => decide (b < W.heap.size)) true ts vs ds ps
  | [], vs, ds, ps, _, h, _ => by
    obtain ⟨rfl, rfl, rfl⟩ := trodAll_nil h
    exact trodAll_mk0
  | t :: ts, vs, ds, ps, hr, h, hlt => by
    obtain ⟨v, vs1, d, ds1, a, b, rfl, rfl, rfl, h1, h2⟩ := trodAll_cons h
    exact trodAll_cons_mk (Below.trod hl hr.1 hr.2.1 h1 hb (fun x hx => hlt x (List.mem_append_left _ hx))) (stays hl hb ts vs1 ds1 b hr.2.2 h2 (fun x hx => hlt x (List.mem_append_right _ hx)))
theorem post {H : Type} {enc : TypeId × Value → H} {P : Program} (hl : laidOutB P = true) {f : Func} {s : ChangeSpec} {W W' : World} {args : Array Value} {ds gs : List (DataW H)} {before : List MemPlace} {tb : TypeId}
    (hW : DataW.Whole enc P f.params.toList s.vars false W args.toList ds gs before) (hvars : s.vars = []) (hp : Readable P f.params.toList) (hr : f.resultTypes = #[tb]) (hu : P.underlying tb = some .bool)
    (hfn : (s.fn H ds) = { results := [.lit (.bool true)], args := ds }) (hb : Below W.heap.size W W') :
    s.post enc P f false true false false W args (.bool true) W' := by
  have hW' := hW
  obtain ⟨p, q, hA, hV, rfl, hfz, hnd⟩ := hW
  rw [hvars] at hV
  obtain ⟨rfl, rfl⟩ := trodVars_none hV
  refine ⟨ds, [], p ++ [], [], p, [], hW', ?_, ?_, ?_, hb.frame _, fun h => by cases h⟩
  · rw [hr, List.append_nil, hfn]
    exact trodAll_cons_mk (shut_bool hu true) trodAll_mk0
  · rw [List.append_nil, hfn]
    exact stays hl hb _ _ _ _ hp hA fun x hx => hA.lt x hx
  · rw [hvars, List.append_nil, hfn]
    exact rfl
theorem laidOut : laidOutB Try.prog = true := by kernel_rfl
theorem own : ownKnob Try.prog.godebug = none := by kernel_rfl
end Go.Proofs.Ytbljihhelladbaa.law
