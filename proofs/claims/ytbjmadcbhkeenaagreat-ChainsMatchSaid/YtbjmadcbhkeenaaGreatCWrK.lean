/-
  Contract of wrap.Read. Conditions: a slice of octets that lies in memory. Contracts of keyref1.NameOf and keyref1.Tag. Conditions: a key of octets, a text of at most 2^20 octets.
-/
import Derived.Test.YtbjmadcbhkeenaaGreatCWrH
import Derived.Test.YtbjmadcbhkeenaaGreatCWrI
set_option maxRecDepth 100000
set_option linter.unusedSimpArgs false
set_option linter.unusedVariables false
namespace Go.Proofs.YtbjmadcbhkeenaaGreat.wr
open Go.RowKit st hs shr sh
structure Env.Len (x : Env) : Prop where
 bl : x.b.length = 16
 ol : x.o.length = 16
 nl : x.n.length = 16
 cl : x.c.length = 32
 gl : x.g.length = 32
 tl : x.t.length = 16
theorem Env.Ok.toLen {x : Env} (h : x.Ok) : x.Len := ⟨h.bl, h.ol, h.nl, h.cl, h.gl, h.tl⟩
theorem put_mid {α : Type} (p o q d : List α) (K n : Nat) (hp : p.length = K) (ho : o.length = n) (hd : d.length = n) : (p ++ o ++ q).take K ++ d ++ (p ++ o ++ q).drop (K + n) = p ++ d ++ q := by
 have e1 : (p ++ o ++ q).take K = p := by rw [List.append_assoc, List.take_append_of_le_length (by omega), List.take_of_length_le (by omega)]
 have e2 : (p ++ o ++ q).drop (K + n) = q := by rw [List.drop_append_of_le_length (by simp; omega), List.drop_of_length_le (by simp; omega), List.nil_append]
 rw [e1, e2]
theorem Env.cs_split (x : Env) : x.cs = [.int .i64 x.v, .int .i64 x.e] ++ x.b.map (Value.int .u8) ++ x.o.map (Value.int .u8) ++ x.n.map (Value.int .u8) ++ x.c.map (Value.int .u8) ++ x.g.map (Value.int .u8) ++ x.t.map (Value.int .u8) := by
 rw [Env.cs_eq]; unfold Env.octs; simp
theorem Env.Len.csl {x : Env} (h : x.Len) : x.cs.length = 130 := by rw [Env.cs_split]; simp [h.bl, h.ol, h.nl, h.cl, h.gl, h.tl]
theorem env_put_o {x : Env} (h : x.Len) (d : List Int) (hd : d.length = 16) : x.cs.take 18 ++ d.map (Value.int .u8) ++ x.cs.drop (18 + (d.map (Value.int .u8)).length) = ({x with o := d} : Env).cs := by
 have e1 : x.cs = ([.int .i64 x.v, .int .i64 x.e] ++ x.b.map (Value.int .u8)) ++ x.o.map (Value.int .u8) ++ (x.n.map (Value.int .u8) ++ x.c.map (Value.int .u8) ++ x.g.map (Value.int .u8) ++ x.t.map (Value.int .u8)) := by rw [Env.cs_split] <;> simp
 have e2 : ({x with o := d} : Env).cs = ([.int .i64 x.v, .int .i64 x.e] ++ x.b.map (Value.int .u8)) ++ d.map (Value.int .u8) ++ (x.n.map (Value.int .u8) ++ x.c.map (Value.int .u8) ++ x.g.map (Value.int .u8) ++ x.t.map (Value.int .u8)) := by rw [Env.cs_split] <;> simp
 rw [e1, e2, show 18 + (d.map (Value.int .u8)).length = 18 + 16 by rw [List.length_map, hd]]
 exact put_mid _ _ _ _ 18 16 (by simp [h.bl, h.ol, h.nl, h.cl, h.gl, h.tl]) (by simp [h.bl, h.ol, h.nl, h.cl, h.gl, h.tl]) (by simp [hd])
theorem env_len_o {x : Env} (h : x.Len) (d : List Int) (hd : d.length = 16) : ({x with o := d} : Env).Len := ⟨h.bl, hd, h.nl, h.cl, h.gl, h.tl⟩
theorem env_put_n {x : Env} (h : x.Len) (d : List Int) (hd : d.length = 16) : x.cs.take 34 ++ d.map (Value.int .u8) ++ x.cs.drop (34 + (d.map (Value.int .u8)).length) = ({x with n := d} : Env).cs := by
 have e1 : x.cs = ([.int .i64 x.v, .int .i64 x.e] ++ x.b.map (Value.int .u8) ++ x.o.map (Value.int .u8)) ++ x.n.map (Value.int .u8) ++ (x.c.map (Value.int .u8) ++ x.g.map (Value.int .u8) ++ x.t.map (Value.int .u8)) := by rw [Env.cs_split] <;> simp
 have e2 : ({x with n := d} : Env).cs = ([.int .i64 x.v, .int .i64 x.e] ++ x.b.map (Value.int .u8) ++ x.o.map (Value.int .u8)) ++ d.map (Value.int .u8) ++ (x.c.map (Value.int .u8) ++ x.g.map (Value.int .u8) ++ x.t.map (Value.int .u8)) := by rw [Env.cs_split] <;> simp
 rw [e1, e2, show 34 + (d.map (Value.int .u8)).length = 34 + 16 by rw [List.length_map, hd]]
 exact put_mid _ _ _ _ 34 16 (by simp [h.bl, h.ol, h.nl, h.cl, h.gl, h.tl]) (by simp [h.bl, h.ol, h.nl, h.cl, h.gl, h.tl]) (by simp [hd])
theorem env_len_n {x : Env} (h : x.Len) (d : List Int) (hd : d.length = 16) : ({x with n := d} : Env).Len := ⟨h.bl, h.ol, hd, h.cl, h.gl, h.tl⟩
theorem env_put_c {x : Env} (h : x.Len) (d : List Int) (hd : d.length = 32) : x.cs.take 50 ++ d.map (Value.int .u8) ++ x.cs.drop (50 + (d.map (Value.int .u8)).length) = ({x with c := d} : Env).cs := by
 have e1 : x.cs = ([.int .i64 x.v, .int .i64 x.e] ++ x.b.map (Value.int .u8) ++ x.o.map (Value.int .u8) ++ x.n.map (Value.int .u8)) ++ x.c.map (Value.int .u8) ++ (x.g.map (Value.int .u8) ++ x.t.map (Value.int .u8)) := by rw [Env.cs_split] <;> simp
 have e2 : ({x with c := d} : Env).cs = ([.int .i64 x.v, .int .i64 x.e] ++ x.b.map (Value.int .u8) ++ x.o.map (Value.int .u8) ++ x.n.map (Value.int .u8)) ++ d.map (Value.int .u8) ++ (x.g.map (Value.int .u8) ++ x.t.map (Value.int .u8)) := by rw [Env.cs_split] <;> simp
 rw [e1, e2, show 50 + (d.map (Value.int .u8)).length = 50 + 32 by rw [List.length_map, hd]]
 exact put_mid _ _ _ _ 50 32 (by simp [h.bl, h.ol, h.nl, h.cl, h.gl, h.tl]) (by simp [h.bl, h.ol, h.nl, h.cl, h.gl, h.tl]) (by simp [hd])
theorem env_len_c {x : Env} (h : x.Len) (d : List Int) (hd : d.length = 32) : ({x with c := d} : Env).Len := ⟨h.bl, h.ol, h.nl, hd, h.gl, h.tl⟩
theorem env_put_g {x : Env} (h : x.Len) (d : List Int) (hd : d.length = 32) : x.cs.take 82 ++ d.map (Value.int .u8) ++ x.cs.drop (82 + (d.map (Value.int .u8)).length) = ({x with g := d} : Env).cs := by
 have e1 : x.cs = ([.int .i64 x.v, .int .i64 x.e] ++ x.b.map (Value.int .u8) ++ x.o.map (Value.int .u8) ++ x.n.map (Value.int .u8) ++ x.c.map (Value.int .u8)) ++ x.g.map (Value.int .u8) ++ (x.t.map (Value.int .u8)) := by rw [Env.cs_split] <;> simp
 have e2 : ({x with g := d} : Env).cs = ([.int .i64 x.v, .int .i64 x.e] ++ x.b.map (Value.int .u8) ++ x.o.map (Value.int .u8) ++ x.n.map (Value.int .u8) ++ x.c.map (Value.int .u8)) ++ d.map (Value.int .u8) ++ (x.t.map (Value.int .u8)) := by rw [Env.cs_split] <;> simp
 rw [e1, e2, show 82 + (d.map (Value.int .u8)).length = 82 + 32 by rw [List.length_map, hd]]
 exact put_mid _ _ _ _ 82 32 (by simp [h.bl, h.ol, h.nl, h.cl, h.gl, h.tl]) (by simp [h.bl, h.ol, h.nl, h.cl, h.gl, h.tl]) (by simp [hd])
theorem env_len_g {x : Env} (h : x.Len) (d : List Int) (hd : d.length = 32) : ({x with g := d} : Env).Len := ⟨h.bl, h.ol, h.nl, h.cl, hd, h.tl⟩
theorem env_put_t {x : Env} (h : x.Len) (d : List Int) (hd : d.length = 16) : x.cs.take 114 ++ d.map (Value.int .u8) ++ x.cs.drop (114 + (d.map (Value.int .u8)).length) = ({x with t := d} : Env).cs := by
 have e1 : x.cs = ([.int .i64 x.v, .int .i64 x.e] ++ x.b.map (Value.int .u8) ++ x.o.map (Value.int .u8) ++ x.n.map (Value.int .u8) ++ x.c.map (Value.int .u8) ++ x.g.map (Value.int .u8)) ++ x.t.map (Value.int .u8) ++ ([]) := by rw [Env.cs_split] <;> simp
 have e2 : ({x with t := d} : Env).cs = ([.int .i64 x.v, .int .i64 x.e] ++ x.b.map (Value.int .u8) ++ x.o.map (Value.int .u8) ++ x.n.map (Value.int .u8) ++ x.c.map (Value.int .u8) ++ x.g.map (Value.int .u8)) ++ d.map (Value.int .u8) ++ ([]) := by rw [Env.cs_split] <;> simp
 rw [e1, e2, show 114 + (d.map (Value.int .u8)).length = 114 + 16 by rw [List.length_map, hd]]
 exact put_mid _ _ _ _ 114 16 (by simp [h.bl, h.ol, h.nl, h.cl, h.gl, h.tl]) (by simp [h.bl, h.ol, h.nl, h.cl, h.gl, h.tl]) (by simp [hd])
theorem env_len_t {x : Env} (h : x.Len) (d : List Int) (hd : d.length = 16) : ({x with t := d} : Env).Len := ⟨h.bl, h.ol, h.nl, h.cl, h.gl, hd⟩
theorem built_env3 (v e : Int) {h : List Int} (hl : h.length = 16) : Tryz.prog.built 57 [(0, .int .i64 v), (1, .int .i64 e), (2, .agg (h.map (Value.int .u8)).toArray)] = some (⟨v, e, h, List.replicate 16 0, List.replicate 16 0, List.replicate 32 0, List.replicate 32 0, List.replicate 16 0⟩ : Env).cs.toArray := by
 obtain ⟨a0, a1, a2, a3, a4, a5, a6, a7, a8, a9, a10, a11, a12, a13, a14, a15, rfl⟩ : ∃ a0 a1 a2 a3 a4 a5 a6 a7 a8 a9 a10 a11 a12 a13 a14 a15, h = [a0, a1, a2, a3, a4, a5, a6, a7, a8, a9, a10, a11, a12, a13, a14, a15] := by
  refine ⟨h[0], h[1], h[2], h[3], h[4], h[5], h[6], h[7], h[8], h[9], h[10], h[11], h[12], h[13], h[14], h[15], List.ext_getElem (by simp [hl]) fun i h1 h2 => ?_⟩
  have : i < 16 := by omega
  match i, this with
  | 0, _ => rfl
  | 1, _ => rfl
  | 2, _ => rfl
  | 3, _ => rfl
  | 4, _ => rfl
  | 5, _ => rfl
  | 6, _ => rfl
  | 7, _ => rfl
  | 8, _ => rfl
  | 9, _ => rfl
  | 10, _ => rfl
  | 11, _ => rfl
  | 12, _ => rfl
  | 13, _ => rfl
  | 14, _ => rfl
  | 15, _ => rfl
  | i + 16, h => exact absurd h (by omega)
 kernel_rfl
theorem yieldsIf_build3 {P : Program} {ops : Array Oper} {S : World → Prop} {op : Oper} {a : Act} (hw : Region.wanted op (yielded ops a.tmps) = true) (t : TypeId) (i j k : Nat) (x y z : Operand) (ho : op.op = .build t #[(i, x), (j, y), (k, z)])
  (u v r : Value) (hx : a.eval x = u) (hy : a.eval y = v) (hz : a.eval z = r) (cs : List Value) (hb : P.built t [(i, u), (j, v), (k, r)] = some cs.toArray) : YieldsIf P ops S op (.agg cs.toArray) a :=
 .inl ⟨hw, fun w hw' => by
  unfold execOp
  simp [ho, hx, hy, hz, run_build w t #[(i, u), (j, v), (k, r)] cs.toArray hb, Result.andThen]⟩
theorem step_putAt {P : Program} {ops : Array Oper} {o : Oper} {a : Act} {w : World} {K : Act → World → Prop} {Q : Exit → Act → World → Prop} {E : Prop} (hgd : o.guard = none) (ty : TypeId) (x y : Operand) (ho : o.op = .store ty x y)
  (t : TypeId) (g off : Nat) (hx : a.eval x = .pointer (some ⟨g, off, none⟩)) (cs : List Value) (hy : a.eval y = .agg cs.toArray) (hi : (P.info? ty).map (·.size) = some cs.length) (cur : List Value) (hg : BlkV t w g cur) (hfit : off + cs.length ≤ cur.length) (h1 : ∀ u ∈ cs, u.oneCell' = true)
  (h : ∀ w', BlkV t w' g (cur.take off ++ cs ++ cur.drop (off + cs.length)) → w.grownBy w' (some g) → Below g w w' → w'.heap.size = w.heap.size → K (a.put o.dst undef) w') : if Region.wanted o (yielded ops a.tmps) = true then Oper.wp P o a w K Q else E := by
 have hw : Region.wanted o (yielded ops a.tmps) = true := by simp [Region.wanted, hgd]
 rw [if_pos hw]
 have hrun := run_store_agg (P := P) w ty t g off cur cs hi hg hfit h1
 unfold Oper.wp
 simp [execOp, ho, hx, hy, Instr.storeAt, Instr.sureAddr, hrun, Result.andThen]
 have h' := h _ (hg.setRow _) (grown_setRow _ _ _) (below_setRow' (Below.refl _ _) (Nat.le_refl _) _) (by simp)
 have h2 : K (a.put o.dst undef) (w.setRow g (cur.take off ++ (cs ++ cur.drop (off + cs.length))).toArray) := by simpa using h'
 exact h2
theorem run_arrayAtNo (w : World) (a : Addr) (n cap : Nat) (hn : 16 ≤ n) : (Instr.arrayAt 53 (.slice (some a) n cap)).run Tryz.prog w = .ok (.pointer (some a)) w := by
 have h1 : ¬ n < 16 := by omega
 simp [Instr.arrayAt, run_underlying Tryz.underlying53, Result.andThen, h1]
theorem run_arrayAtA32 (w : World) (a : Addr) (n cap : Nat) (hn : 32 ≤ n) : (Instr.arrayAt 22 (.slice (some a) n cap)).run Tryz.prog w = .ok (.pointer (some a)) w := by
 have h1 : ¬ n < 32 := by omega
 simp [Instr.arrayAt, run_underlying Tryz.underlying22, Result.andThen, h1]
set_option maxHeartbeats 8000000 in
theorem Read_full1 (ao : Option Addr) (cap n : Nat) (l : List Int) (w : World) (hn : n = l.length) (hP : Pt.Ok w ⟨ao, cap, l⟩) (hf : l.take 3 = kww) (hv : l.getD 3 0 = 1) (hl : n = 88) :
  Calls Tryz.prog 39 #[.slice ao n cap] w fun e w' => e = .returned (readV l) ∧ Below w.heap.size w w' := by
 obtain ⟨B, HB⟩ : ∃ B, Hid (B = w.heap.size) := ⟨_, rfl⟩
 have hsz : w.heap.size = B := HB.out.symm
 have hz := hid zeroEnv
 obtain ⟨Z, HZ⟩ : ∃ Z, Hid (Z = env0.cs) := ⟨_, rfl⟩
 have hZl : Z.length = 130 := by rw [HZ.out]; exact env0_ok.csl
 rw [← HZ.out] at hz
 have HN := hid hn
 have hE : readE l = 0 := by
  have hs : szR l = 88 := (by unfold szR; rw [if_neg (by omega)])
  unfold readE
  rw [if_neg (by omega), if_neg (fun h => h hf), if_neg (by omega), hs, if_neg (by omega), if_neg (by omega)]
 have HV := hid (readV_ok hE)
 have HXO := hid (readX_ok hP.oct hE)
 have HXE : Hid (readX l = ⟨1, numL (seg l 4 4), seg l 8 16, List.replicate 16 0, seg l 24 16, List.replicate 32 0, seg l 40 32, seg l 72 16⟩) := hid (by unfold readX; rw [if_neg (by omega)])
 have hcap : 88 ≤ cap := by rw [← hl, hn]; exact hP.len
 have hlen : l.length = 88 := by rw [← hn]; exact hl
 have hnb := numL4_b hP.oct 4
 obtain ⟨E, HEE⟩ : ∃ E, Hid (E = numL (seg l 4 4)) := ⟨_, rfl⟩
 rw [← HEE.out] at hnb HXE
 have hEw : IntKind.i64.wrap E = E := IntWalk.i64_in _ (by omega)
 subst hl
 obtain ⟨b, off, rfl, hb, hc⟩ := hP.row.at (i := 0) (by show 0 < l.length; omega)
 have hnum := fun w1 (hb1 : Below B w w1) => hid (Number_ok b off cap 88 4 l w1 hn (hP.below (hsz ▸ hb1)) (by omega))
 rw [← HEE.out] at hnum
 have h3c : 3 ≤ cap := by omega
 have h3I : (3 : Int) ≤ (cap : Int) := by omega
 have h24I : (24 : Int) ≤ (cap : Int) := by omega
 have hc8 : ¬ cap = 8 := by omega
 have hc24 : ¬ cap = 24 := by omega
 obtain ⟨S, HS⟩ : ∃ S, Hid (S = strOfNums (l.take 3)) := ⟨_, rfl⟩
 have hlen3 : 3 = (l.take 3).length := by rw [List.length_take]; omega
 have hkS := fun w1 (hb1 : Below B w w1) => hid (run_convStr w1 (some ⟨b, off, none⟩) 3 cap (l.take 3) hlen3 (RowI.takeS (hP.row.below (hsz ▸ hb1)) 3))
 rw [← HS.out] at hkS
 have ems : S = ⟨#[75, 87, 87]⟩ := by rw [HS.out, hf]; rfl
 rw [ems] at hkS
 have hc3 : w.cell? ⟨b, off + 3, none⟩ = some (.int .u8 1) := by rw [hc 3 (by show 3 < l.length; omega), hv]
 have hbB : b < B := by rw [HB.out]; exact hb
 obtain ⟨Db, HDb⟩ : ∃ D, Hid (D = seg l 8 16) := ⟨_, rfl⟩
 have hlb : Hid (Db.length = 16) := hid (by rw [HDb.out]; exact seg_length (by omega))
 have hab : Hid (w.rangeAt b (off + 8) (Db.map (Value.int .u8))) := hid (by rw [HDb.out]; exact at_range (seg_at (l := l) hc (by omega)))
 have hub := Tryz.underlying27
 have hib : (Tryz.prog.info? 27).map (·.size) = some (Db.map (Value.int .u8)).length := by rw [List.length_map, hlb.out]; kernel_rfl
 rw [← HDb.out] at HXE
 obtain ⟨Dn, HDn⟩ : ∃ D, Hid (D = seg l 24 16) := ⟨_, rfl⟩
 have hln : Hid (Dn.length = 16) := hid (by rw [HDn.out]; exact seg_length (by omega))
 have han : Hid (w.rangeAt b (off + 24) (Dn.map (Value.int .u8))) := hid (by rw [HDn.out]; exact at_range (seg_at (l := l) hc (by omega)))
 have hun := Tryz.underlying53
 have hin : (Tryz.prog.info? 53).map (·.size) = some (Dn.map (Value.int .u8)).length := by rw [List.length_map, hln.out]; kernel_rfl
 rw [← HDn.out] at HXE
 obtain ⟨Dg, HDg⟩ : ∃ D, Hid (D = seg l 40 32) := ⟨_, rfl⟩
 have hlg : Hid (Dg.length = 32) := hid (by rw [HDg.out]; exact seg_length (by omega))
 have hag : Hid (w.rangeAt b (off + 40) (Dg.map (Value.int .u8))) := hid (by rw [HDg.out]; exact at_range (seg_at (l := l) hc (by omega)))
 have hug := Tryz.underlying22
 have hig : (Tryz.prog.info? 22).map (·.size) = some (Dg.map (Value.int .u8)).length := by rw [List.length_map, hlg.out]; kernel_rfl
 rw [← HDg.out] at HXE
 obtain ⟨Dt, HDt⟩ : ∃ D, Hid (D = seg l 72 16) := ⟨_, rfl⟩
 have hlt : Hid (Dt.length = 16) := hid (by rw [HDt.out]; exact seg_length (by omega))
 have hat : Hid (w.rangeAt b (off + 72) (Dt.map (Value.int .u8))) := hid (by rw [HDt.out]; exact at_range (seg_at (l := l) hc (by omega)))
 have hut := Tryz.underlying55
 have hit : (Tryz.prog.info? 55).map (·.size) = some (Dt.map (Value.int .u8)).length := by rw [List.length_map, hlt.out]; kernel_rfl
 rw [← HDt.out] at HXE
 obtain ⟨X0, HX0⟩ : ∃ X, Hid (X = (⟨1, E, Db, List.replicate 16 0, List.replicate 16 0, List.replicate 32 0, List.replicate 32 0, List.replicate 16 0⟩ : Env)) := ⟨_, rfl⟩
 have hL0 : Hid X0.Len := hid (by rw [HX0.out]; exact ⟨hlb.out, rfl, rfl, rfl, rfl, rfl⟩)
 have HBT : Hid (Tryz.prog.built 57 [(0, .int .i64 1), (1, .int .i64 E), (2, .agg (Db.map (Value.int .u8)).toArray)] = some X0.cs.toArray) := hid (by rw [HX0.out]; exact built_env3 1 E hlb.out)
 have hv0 : Hid (X0.v = 1) := hid (by rw [HX0.out])
 have hAA := fun w a n cap h => run_arrayAtID w a n cap h
 have hAB := fun w a n cap h => run_arrayAtNo w a n cap h
 have hAC := fun w a n cap h => run_arrayAtA32 w a n cap h
 have hAD := fun w a n cap h => run_arrayAtTag w a n cap h
 have hAE := fun w a n cap h => run_arrayAtS w a n cap h
 clear hn hP hf hlen3 hc hE ems
 have hq1 : (16 : Int) ≤ ((cap - 24 : Nat) : Int) := by omega
 have hr1 : ¬ cap - 24 = 16 := by omega
 have hq2 : (32 : Int) ≤ ((cap - 24 - 16 : Nat) : Int) := by omega
 have hr2 : ¬ cap - 24 - 16 = 32 := by omega
 have hq3 : (48 : Int) ≤ ((cap - 24 - 16 : Nat) : Int) := by omega
 have hq4 : (32 : Int) ≤ ((cap - 40 : Nat) : Int) := by omega
 have hr4 : ¬ cap - 40 = 32 := by omega
 have hq5 : (48 : Int) ≤ ((cap - 40 : Nat) : Int) := by omega
 go_enter Tryz.func39, Tryz.ntmps39
 go_wp2_with (first | (refine wl_allocV rfl 57 rfl Z hz.out B hsz ?_; intro w1 hR1 hb1 hs1; have kS := (hkS w1 hb1).out; have c3 := (hb1.cell (p := ⟨b, off + 3, none⟩) hbB).trans hc3) | (go_at_call 64; refine (hnum w1 hb1).out.mono ?_; rintro e w2 ⟨rfl, hb2⟩; have hR2 := hR1.below hb2 (by omega); have bb2 := hb1.trans (hb2.mono (by omega : B ≤ _)); have hs2 := hb2.size; clear hR1 hb1 c3))
 obtain ⟨G, HG⟩ : ∃ G, Hid (G = w2.heap.size) := ⟨_, rfl⟩
 have hGs : w2.heap.size = G := HG.out.symm
 have hBG : B + 1 ≤ G := by omega
 have hbG : b < G := by omega
 have c3 := (bb2.cell (p := ⟨b, off + 3, none⟩) hbB).trans hc3
 have rb : w2.rangeAt b (off + 8) (Db.map (Value.int .u8)) := fun j u hu => (bb2.cell (p := ⟨b, off + 8 + j, none⟩) hbB).trans (hab.out j u hu)
 refine wp_region_held_drew (S := (fun w' => w'.cell? ⟨b, off + 3, none⟩ = some (.int .u8 1) ∧ w'.rangeAt b (off + 8) (Db.map (Value.int .u8)))) (by kernel_rfl) ⟨c3, rb⟩ (fun hHeld => ?_)
 obtain ⟨y0, HY0⟩ : ∃ x, Hid (x = w2.drew) := ⟨_, rfl⟩
 rw [← HY0.out] at hHeld ⊢
 have bbx : Below B w y0 := by rw [HY0.out]; exact bb2.drew
 have hRx : BlkV 57 y0 B Z := by rw [HY0.out]; exact hR2
 have hgs0 : y0.heap.size = G := by rw [HY0.out]; exact hGs
 have c30 := hHeld.1
 have rb0 := hHeld.2
 clear c3 rb bb2 hR2 hGs hs2
 refine take_l (i := 0) (v := ?rv1) rfl (by kernel_rfl) (by kernel_rfl) (by kernel_rfl) (fun _ _ _ h => h) (Or.inl ⟨by rfl, ?rhy1⟩) (by assumption) ?rrest1
 case rhy1 => (intro w hSw; (try dsimp only at hSw); go_simp; (try with_reducible rfl))
 try simp only [Act.put, fpA, fpZ, fpN]
 refine take_l (i := 1) (v := ?rv2) rfl (by kernel_rfl) (by kernel_rfl) (by kernel_rfl) (fun _ _ _ h => h) (Or.inl ⟨by rfl, ?rhy2⟩) (by assumption) ?rrest2
 case rhy2 => (intro w hSw; (try dsimp only at hSw); go_simp; (try with_reducible rfl))
 try simp only [Act.put, fpA, fpZ, fpN]
 refine take_l (i := 2) (v := ?rv3) rfl (by kernel_rfl) (by kernel_rfl) (by kernel_rfl) (fun _ _ _ h => h) (Or.inl ⟨by rfl, ?rhy3⟩) (by assumption) ?rrest3
 case rhy3 => (intro w hSw; (try dsimp only at hSw); go_simp; (try with_reducible rfl))
 try simp only [Act.put, fpA, fpZ, fpN]
 refine take_l (i := 3) (v := ?rv4) rfl (by kernel_rfl) (by kernel_rfl) (by kernel_rfl) (fun _ _ _ h => h) (Or.inl ⟨by rfl, ?rhy4⟩) (by assumption) ?rrest4
 case rhy4 => (intro w hSw; (try dsimp only at hSw); go_simp; (try with_reducible rfl))
 try simp only [Act.put, fpA, fpZ, fpN]
 refine take_l (i := 4) (v := ?rv5) rfl (by kernel_rfl) (by kernel_rfl) (by kernel_rfl) (fun _ _ _ h => h) (Or.inl ⟨by rfl, ?rhy5⟩) (by assumption) ?rrest5
 case rhy5 => (intro w hSw; (try dsimp only at hSw); go_simp; (try with_reducible rfl))
 try simp only [Act.put, fpA, fpZ, fpN]
 refine take_l (i := 5) (v := ?rv6) rfl (by kernel_rfl) (by kernel_rfl) (by kernel_rfl) (fun _ _ _ h => h) (Or.inl ⟨by rfl, ?rhy6⟩) (by assumption) ?rrest6
 case rhy6 => (intro w hSw; (try dsimp only at hSw); go_simp; (try with_reducible rfl))
 try simp only [Act.put, fpA, fpZ, fpN]
 refine take_l (i := 6) (v := ?rv7) rfl (by kernel_rfl) (by kernel_rfl) (by kernel_rfl) (fun _ _ _ h => h) (Or.inl ⟨by rfl, ?rhy7⟩) (by assumption) ?rrest7
 case rhy7 => (intro w hSw; (try dsimp only at hSw); go_simp; (try with_reducible rfl))
 try simp only [Act.put, fpA, fpZ, fpN]
 refine take_l (i := 7) (v := ?rv8) rfl (by kernel_rfl) (by kernel_rfl) (by kernel_rfl) (fun _ _ _ h => h) (Or.inl ⟨by rfl, ?rhy8⟩) (by assumption) ?rrest8
 case rhy8 => (intro w hSw; (try dsimp only at hSw); go_simp; (try with_reducible rfl))
 try simp only [Act.put, fpA, fpZ, fpN]
 refine take_l (i := 8) (v := ?rv9) rfl (by kernel_rfl) (by kernel_rfl) (by kernel_rfl) (fun _ _ _ h => h) (Or.inl ⟨by rfl, ?rhy9⟩) (by assumption) ?rrest9
 case rhy9 => (intro w hSw; (try dsimp only at hSw); go_simp; (try with_reducible rfl))
 try simp only [Act.put, fpA, fpZ, fpN]
 refine take_l (i := 9) (v := _) rfl (by kernel_rfl) (by kernel_rfl) (by kernel_rfl) (fun _ _ _ h => h) (yieldsIf_load_mid (by rfl) 27 _ rfl b (off + 8) rfl (Db.map (Value.int .u8)) _ (fun w hS => hS.2) hub rfl hib) (by assumption) ?_
 try simp only [Act.put, fpA, fpZ, fpN]
 refine take_l (i := 10) (v := _) rfl (by kernel_rfl) (by kernel_rfl) (by kernel_rfl) (fun _ _ _ h => h) (yieldsIf_build3 (by rfl) 57 0 1 2 _ _ _ rfl (.int .i64 1) (.int .i64 E) (.agg (Db.map (Value.int .u8)).toArray) rfl rfl rfl X0.cs HBT.out) (by assumption) ?_
 try simp only [Act.put, fpA, fpZ, fpN]
 refine wpAnyH_ready (rs := [11]) (by kernel_rfl) (by simp) (cons_l rfl (fun K' hK' => ?_) AllReadyH.nil)
 refine step_allocV (by rfl) 57 (by rfl) Z hz.out G hgs0 ?_
 intro wA hA hbA hsA
 have rb1 : wA.rangeAt b (off + 8) (Db.map (Value.int .u8)) := (fun j v hv => (hbA.cell (p := ⟨b, off + 8 + j, none⟩) hbG).trans (rb0 j v hv))
 have c31 := (hbA.cell (p := ⟨b, off + 3, none⟩) hbG).trans c30
 refine hK'.out _ _ ⟨c31, rb1⟩ (fun hHeld => ?_)
 clear hK' K'
 try simp only [Act.put, fpA, fpZ, fpN]
 refine wpAnyH_ready (rs := [12]) (by kernel_rfl) (by simp) (cons_l rfl (fun K' hK' => ?_) AllReadyH.nil)
 refine step_storeV (by rfl) 57 _ _ (by rfl) 57 G (by rfl) X0.cs (by rfl) 130 aggEnv hL0.out.csl Z hA hZl X0.cs_one ?_
 intro wE hE hbE hsE
 have rb2 : wE.rangeAt b (off + 8) (Db.map (Value.int .u8)) := (fun j v hv => (hbE.cell (p := ⟨b, off + 8 + j, none⟩) hbG).trans (rb1 j v hv))
 have c32 := (hbE.cell (p := ⟨b, off + 3, none⟩) hbG).trans c31
 refine hK'.out _ _ ⟨c32, rb2⟩ (fun hHeld => ?_)
 clear hK' K'
 try simp only [Act.put, fpA, fpZ, fpN]
 refine wpAnyH_done (by kernel_rfl) ?_ _
 have bbE : Below B w wE := bbx.trans ((hbA.mono (by omega : B ≤ _)).trans (hbE.mono (by omega : B ≤ _)))
 have hRE := (hRx.below hbA (by omega)).below hbE (by omega)
 have hsE' : wE.heap.size = G + 1 := by omega
 have cv := (hE.cell 0).trans (by rw [Env.cv, hv0.out] : X0.cs[0]? = some (.int .i64 1))
 clear hA hbA hsA hbE hsE rb0 rb1 rb2 c30 c31 c32 hHeld bbx hRx
 go_wp2_with fail
 have rn : wE.drew.rangeAt b (off + 24) (Dn.map (Value.int .u8)) := fun j u hu => (bbE.cell (p := ⟨b, off + 24 + j, none⟩) hbB).trans (han.out j u hu)
 refine wp_region_held_drew (S := (fun w' => w'.rangeAt b (off + 24) (Dn.map (Value.int .u8)))) (by kernel_rfl) rn (fun hHeld => ?_)
 obtain ⟨y1, HY1⟩ : ∃ x, Hid (x = wE.drew) := ⟨_, rfl⟩
 rw [← HY1.out] at hHeld ⊢
 have bbx : Below B w y1 := by rw [HY1.out]; exact bbE.drew
 have hRx : BlkV 57 y1 B Z := by rw [HY1.out]; exact hRE
 have hEx : BlkV 57 y1 G X0.cs := by rw [HY1.out]; exact hE
 have hsx : y1.heap.size = G + 1 := by rw [HY1.out]; exact hsE'
 clear rn bbE hRE hE hsE' cv
 refine take_l (i := 0) (v := ?rv12) rfl (by kernel_rfl) (by kernel_rfl) (by kernel_rfl) (fun _ _ _ h => h) (Or.inl ⟨by rfl, ?rhy12⟩) (by assumption) ?rrest12
 case rhy12 => (intro w hSw; (try dsimp only at hSw); go_simp; (try with_reducible rfl))
 try simp only [Act.put, fpA, fpZ, fpN]
 refine take_l (i := 1) (v := ?rv13) rfl (by kernel_rfl) (by kernel_rfl) (by kernel_rfl) (fun _ _ _ h => h) (Or.inl ⟨by rfl, ?rhy13⟩) (by assumption) ?rrest13
 case rhy13 => (intro w hSw; (try dsimp only at hSw); go_simp; (try with_reducible rfl))
 try simp only [Act.put, fpA, fpZ, fpN]
 refine take_l (i := 2) (v := ?rv14) rfl (by kernel_rfl) (by kernel_rfl) (by kernel_rfl) (fun _ _ _ h => h) (Or.inl ⟨by rfl, ?rhy14⟩) (by assumption) ?rrest14
 case rhy14 => (intro w hSw; (try dsimp only at hSw); go_simp; (try with_reducible rfl))
 try simp only [Act.put, fpA, fpZ, fpN]
 refine take_l (i := 3) (v := _) rfl (by kernel_rfl) (by kernel_rfl) (by kernel_rfl) (fun _ _ _ h => h) (yieldsIf_load_mid (by rfl) 53 _ rfl b (off + 24) rfl (Dn.map (Value.int .u8)) _ (fun w hS => hS) hun rfl hin) (by assumption) ?_
 try simp only [Act.put, fpA, fpZ, fpN]
 refine take_l (i := 4) (v := ?rv16) rfl (by kernel_rfl) (by kernel_rfl) (by kernel_rfl) (fun _ _ _ h => h) (Or.inl ⟨by rfl, ?rhy16⟩) (by assumption) ?rrest16
 case rhy16 => (intro w hSw; (try dsimp only at hSw); go_simp; (try with_reducible rfl))
 try simp only [Act.put, fpA, fpZ, fpN]
 refine take_l (i := 5) (v := ?rv17) rfl (by kernel_rfl) (by kernel_rfl) (by kernel_rfl) (fun _ _ _ h => h) (Or.inl ⟨by rfl, ?rhy17⟩) (by assumption) ?rrest17
 case rhy17 => (intro w hSw; (try dsimp only at hSw); go_simp; (try with_reducible rfl))
 try simp only [Act.put, fpA, fpZ, fpN]
 refine take_l (i := 6) (v := ?rv18) rfl (by kernel_rfl) (by kernel_rfl) (by kernel_rfl) (fun _ _ _ h => h) (Or.inl ⟨by rfl, ?rhy18⟩) (by assumption) ?rrest18
 case rhy18 => (intro w hSw; (try dsimp only at hSw); go_simp; (try with_reducible rfl))
 try simp only [Act.put, fpA, fpZ, fpN]
 refine wpAnyH_ready (rs := [7]) (by kernel_rfl) (by simp) (cons_l rfl (fun K' hK' => ?_) AllReadyH.nil)
 refine step_putAt (by rfl) 53 _ _ (by rfl) 57 G 34 (by rfl) (Dn.map (Value.int .u8)) (by rfl) hin X0.cs hEx (by rw [List.length_map, hln.out, hL0.out.csl]; decide) (ints_one _ _) ?_
 intro z1 hE hg hbz hsz1
 rw [env_put_n hL0.out Dn hln.out] at hE
 have hHeld' : z1.rangeAt b (off + 24) (Dn.map (Value.int .u8)) := (fun j u hu => (hbz.cell (p := ⟨b, off + 24 + j, none⟩) hbG).trans (hHeld j u hu))
 refine hK'.out _ _ hHeld' (fun hHeld => ?_)
 clear hK' K'
 try simp only [Act.put, fpA, fpZ, fpN]
 refine take_l (i := 8) (v := ?rv19) rfl (by kernel_rfl) (by kernel_rfl) (by kernel_rfl) (fun _ _ _ h => h) (Or.inl ⟨by rfl, ?rhy19⟩) (by assumption) ?rrest19
 case rhy19 => (intro w hSw; (try dsimp only at hSw); go_simp; (try with_reducible rfl))
 try simp only [Act.put, fpA, fpZ, fpN]
 refine wpAnyH_done (by kernel_rfl) ?_ _
 have bbE : Below B w z1 := bbx.trans (hbz.mono (by omega : B ≤ _))
 have hRE := hRx.below hbz (by omega)
 have hsE' : z1.heap.size = G + 1 := by omega
 obtain ⟨X1, HX1⟩ : ∃ X, Hid (X = ({X0 with n := Dn} : Env)) := ⟨_, rfl⟩
 have hL1 : Hid X1.Len := hid (by rw [HX1.out]; exact env_len_n hL0.out Dn hln.out)
 have hv1 : Hid (X1.v = 1) := hid (by rw [HX1.out]; exact hv0.out)
 rw [← HX1.out] at hE
 have cv := (hE.cell 0).trans (by rw [Env.cv, hv1.out] : X1.cs[0]? = some (.int .i64 1))
 clear hHeld hHeld' bbx hRx hEx hsx hg hbz
 go_wp2_with fail
 have rg : z1.drew.rangeAt b (off + 40) (Dg.map (Value.int .u8)) := fun j u hu => (bbE.cell (p := ⟨b, off + 40 + j, none⟩) hbB).trans (hag.out j u hu)
 have rt : z1.drew.rangeAt b (off + 72) (Dt.map (Value.int .u8)) := fun j u hu => (bbE.cell (p := ⟨b, off + 72 + j, none⟩) hbB).trans (hat.out j u hu)
 refine wp_region_held_drew (S := (fun w' => w'.rangeAt b (off + 40) (Dg.map (Value.int .u8)) ∧ w'.rangeAt b (off + 72) (Dt.map (Value.int .u8)))) (by kernel_rfl) ⟨rg, rt⟩ (fun hHeld => ?_)
 obtain ⟨y2, HY2⟩ : ∃ x, Hid (x = z1.drew) := ⟨_, rfl⟩
 rw [← HY2.out] at hHeld ⊢
 have bbx : Below B w y2 := by rw [HY2.out]; exact bbE.drew
 have hRx : BlkV 57 y2 B Z := by rw [HY2.out]; exact hRE
 have hEx : BlkV 57 y2 G X1.cs := by rw [HY2.out]; exact hE
 have hsx : y2.heap.size = G + 1 := by rw [HY2.out]; exact hsE'
 clear rg rt bbE hRE hE hsE' cv
 refine take_l (i := 0) (v := ?rv20) rfl (by kernel_rfl) (by kernel_rfl) (by kernel_rfl) (fun _ _ _ h => h) (Or.inl ⟨by rfl, ?rhy20⟩) (by assumption) ?rrest20
 case rhy20 => (intro w hSw; (try dsimp only at hSw); go_simp; (try with_reducible rfl))
 try simp only [Act.put, fpA, fpZ, fpN]
 refine take_l (i := 1) (v := ?rv21) rfl (by kernel_rfl) (by kernel_rfl) (by kernel_rfl) (fun _ _ _ h => h) (Or.inl ⟨by rfl, ?rhy21⟩) (by assumption) ?rrest21
 case rhy21 => (intro w hSw; (try dsimp only at hSw); go_simp; (try with_reducible rfl))
 try simp only [Act.put, fpA, fpZ, fpN]
 refine take_l (i := 2) (v := ?rv22) rfl (by kernel_rfl) (by kernel_rfl) (by kernel_rfl) (fun _ _ _ h => h) (Or.inl ⟨by rfl, ?rhy22⟩) (by assumption) ?rrest22
 case rhy22 => (intro w hSw; (try dsimp only at hSw); go_simp; (try with_reducible rfl))
 try simp only [Act.put, fpA, fpZ, fpN]
 refine take_l (i := 3) (v := _) rfl (by kernel_rfl) (by kernel_rfl) (by kernel_rfl) (fun _ _ _ h => h) (yieldsIf_load_mid (by rfl) 22 _ rfl b (off + 40) rfl (Dg.map (Value.int .u8)) _ (fun w hS => hS.1) hug rfl hig) (by assumption) ?_
 try simp only [Act.put, fpA, fpZ, fpN]
 refine take_l (i := 4) (v := ?rv24) rfl (by kernel_rfl) (by kernel_rfl) (by kernel_rfl) (fun _ _ _ h => h) (Or.inl ⟨by rfl, ?rhy24⟩) (by assumption) ?rrest24
 case rhy24 => (intro w hSw; (try dsimp only at hSw); go_simp; (try with_reducible rfl))
 try simp only [Act.put, fpA, fpZ, fpN]
 refine take_l (i := 5) (v := ?rv25) rfl (by kernel_rfl) (by kernel_rfl) (by kernel_rfl) (fun _ _ _ h => h) (Or.inl ⟨by rfl, ?rhy25⟩) (by assumption) ?rrest25
 case rhy25 => (intro w hSw; (try dsimp only at hSw); go_simp; (try with_reducible rfl))
 try simp only [Act.put, fpA, fpZ, fpN]
 refine take_l (i := 6) (v := ?rv26) rfl (by kernel_rfl) (by kernel_rfl) (by kernel_rfl) (fun _ _ _ h => h) (Or.inl ⟨by rfl, ?rhy26⟩) (by assumption) ?rrest26
 case rhy26 => (intro w hSw; (try dsimp only at hSw); go_simp; (try with_reducible rfl))
 try simp only [Act.put, fpA, fpZ, fpN]
 refine take_l (i := 7) (v := _) rfl (by kernel_rfl) (by kernel_rfl) (by kernel_rfl) (fun _ _ _ h => h) (yieldsIf_load_mid (by rfl) 55 _ rfl b (off + 72) rfl (Dt.map (Value.int .u8)) _ (fun w hS => hS.2) hut rfl hit) (by assumption) ?_
 try simp only [Act.put, fpA, fpZ, fpN]
 refine take_l (i := 8) (v := ?rv28) rfl (by kernel_rfl) (by kernel_rfl) (by kernel_rfl) (fun _ _ _ h => h) (Or.inl ⟨by rfl, ?rhy28⟩) (by assumption) ?rrest28
 case rhy28 => (intro w hSw; (try dsimp only at hSw); go_simp; (try with_reducible rfl))
 try simp only [Act.put, fpA, fpZ, fpN]
 refine wpAnyH_ready (rs := [9]) (by kernel_rfl) (by simp) (cons_l rfl (fun K' hK' => ?_) AllReadyH.nil)
 refine step_putAt (by rfl) 22 _ _ (by rfl) 57 G 82 (by rfl) (Dg.map (Value.int .u8)) (by rfl) hig X1.cs hEx (by rw [List.length_map, hlg.out, hL1.out.csl]; decide) (ints_one _ _) ?_
 intro z2 hE2 hg2 hbz2 hsz2
 rw [env_put_g hL1.out Dg hlg.out] at hE2
 have hH2 : z2.rangeAt b (off + 40) (Dg.map (Value.int .u8)) ∧ z2.rangeAt b (off + 72) (Dt.map (Value.int .u8)) := ⟨fun j u hu => (hbz2.cell (p := ⟨b, off + 40 + j, none⟩) hbG).trans (hHeld.1 j u hu), fun j u hu => (hbz2.cell (p := ⟨b, off + 72 + j, none⟩) hbG).trans (hHeld.2 j u hu)⟩
 obtain ⟨X2, HX2⟩ : ∃ X, Hid (X = ({X1 with g := Dg} : Env)) := ⟨_, rfl⟩
 have hL2 : Hid X2.Len := hid (by rw [HX2.out]; exact env_len_g hL1.out Dg hlg.out)
 rw [← HX2.out] at hE2
 refine hK'.out _ _ hH2 (fun hHeld => ?_)
 clear hK' K'
 try simp only [Act.put, fpA, fpZ, fpN]
 refine take_l (i := 10) (v := ?rv29) rfl (by kernel_rfl) (by kernel_rfl) (by kernel_rfl) (fun _ _ _ h => h) (Or.inl ⟨by rfl, ?rhy29⟩) (by assumption) ?rrest29
 case rhy29 => (intro w hSw; (try dsimp only at hSw); go_simp; (try with_reducible rfl))
 try simp only [Act.put, fpA, fpZ, fpN]
 refine wpAnyH_ready (rs := [11]) (by kernel_rfl) (by simp) (cons_l rfl (fun K' hK' => ?_) AllReadyH.nil)
 refine step_putAt (by rfl) 55 _ _ (by rfl) 57 G 114 (by rfl) (Dt.map (Value.int .u8)) (by rfl) hit X2.cs hE2 (by rw [List.length_map, hlt.out, hL2.out.csl]; decide) (ints_one _ _) ?_
 intro z3 hE3 hg3 hbz3 hsz3
 rw [env_put_t hL2.out Dt hlt.out] at hE3
 have hH3 : z3.rangeAt b (off + 40) (Dg.map (Value.int .u8)) ∧ z3.rangeAt b (off + 72) (Dt.map (Value.int .u8)) := ⟨fun j u hu => (hbz3.cell (p := ⟨b, off + 40 + j, none⟩) hbG).trans (hHeld.1 j u hu), fun j u hu => (hbz3.cell (p := ⟨b, off + 72 + j, none⟩) hbG).trans (hHeld.2 j u hu)⟩
 obtain ⟨X3, HX3⟩ : ∃ X, Hid (X = ({X2 with t := Dt} : Env)) := ⟨_, rfl⟩
 have hL3 : Hid X3.Len := hid (by rw [HX3.out]; exact env_len_t hL2.out Dt hlt.out)
 rw [← HX3.out] at hE3
 refine hK'.out _ _ hH3 (fun hHeld => ?_)
 clear hK' K'
 try simp only [Act.put, fpA, fpZ, fpN]
 refine wpAnyH_done (by kernel_rfl) ?_ _
 have bbE : Below B w z3 := bbx.trans ((hbz2.mono (by omega : B ≤ _)).trans (hbz3.mono (by omega : B ≤ _)))
 have hRE := (hRx.below hbz2 (by omega)).below hbz3 (by omega)
 have hfin : X3 = readX l := by rw [HXE.out, HX3.out, HX2.out, HX1.out, HX0.out]
 obtain ⟨C, HC⟩ : ∃ C, Hid (C = X3.cs) := ⟨_, rfl⟩
 have hCl : C.length = 130 := by rw [HC.out]; exact hL3.out.csl
 have hC1 : ∀ u ∈ C, u.oneCell' = true := by rw [HC.out]; exact Env.cs_one _
 have HVC : Hid (readV l = .tuple #[.agg C.toArray, .int .i64 0]) := hid (by rw [HV.out, HC.out, hfin])
 rw [← HC.out] at hE3
 have hE := hE3
 clear hHeld hH2 hH3 bbx hRx hEx hsx hg2 hg3 hbz2 hbz3 hE2 hE3 hfin
 go_wp2_with (first | (refine wl_load rfl 57 _ rfl ⟨G, 0, none⟩ rfl C (by rw [hCl]; exact aggEnv) hE.at0 ?_) | (refine wl_storeV rfl 57 _ _ rfl 57 B rfl C rfl 130 aggEnv hCl Z hRE hZl hC1 ?_; intro wF hRF hbF hsF))
 (try simp only [Exit.inBlock, Exit.then]); refine bodyPost_ret (results_cell2 rfl _ _ _ _ rfl C (by rw [hCl]; exact aggEnv) hRF.at0) rfl ?_
 exact ⟨by rw [HVC.out]; rfl, by first | exact bbE.trans hbF | (rw [hsz]; exact bbE.trans hbF)⟩
set_option maxHeartbeats 8000000 in
theorem Read_full2 (ao : Option Addr) (cap n : Nat) (l : List Int) (w : World) (hn : n = l.length) (hP : Pt.Ok w ⟨ao, cap, l⟩) (hf : l.take 3 = kww) (hv : l.getD 3 0 = 2) (hl : n = 136) :
  Calls Tryz.prog 39 #[.slice ao n cap] w fun e w' => e = .returned (readV l) ∧ Below w.heap.size w w' := by
 obtain ⟨B, HB⟩ : ∃ B, Hid (B = w.heap.size) := ⟨_, rfl⟩
 have hsz : w.heap.size = B := HB.out.symm
 have hz := hid zeroEnv
 obtain ⟨Z, HZ⟩ : ∃ Z, Hid (Z = env0.cs) := ⟨_, rfl⟩
 have hZl : Z.length = 130 := by rw [HZ.out]; exact env0_ok.csl
 rw [← HZ.out] at hz
 have HN := hid hn
 have hE : readE l = 0 := by
  have hs : szR l = 136 := (by unfold szR; rw [if_pos hv])
  unfold readE
  rw [if_neg (by omega), if_neg (fun h => h hf), if_neg (by omega), hs, if_neg (by omega), if_neg (by omega)]
 have HV := hid (readV_ok hE)
 have HXO := hid (readX_ok hP.oct hE)
 have HXE : Hid (readX l = ⟨2, numL (seg l 4 4), seg l 8 16, seg l 24 16, seg l 40 16, seg l 56 32, seg l 88 32, seg l 120 16⟩) := hid (by unfold readX; rw [if_pos hv])
 have hcap : 136 ≤ cap := by rw [← hl, hn]; exact hP.len
 have hlen : l.length = 136 := by rw [← hn]; exact hl
 have hnb := numL4_b hP.oct 4
 obtain ⟨E, HEE⟩ : ∃ E, Hid (E = numL (seg l 4 4)) := ⟨_, rfl⟩
 rw [← HEE.out] at hnb HXE
 have hEw : IntKind.i64.wrap E = E := IntWalk.i64_in _ (by omega)
 subst hl
 obtain ⟨b, off, rfl, hb, hc⟩ := hP.row.at (i := 0) (by show 0 < l.length; omega)
 have hnum := fun w1 (hb1 : Below B w w1) => hid (Number_ok b off cap 136 4 l w1 hn (hP.below (hsz ▸ hb1)) (by omega))
 rw [← HEE.out] at hnum
 have h3c : 3 ≤ cap := by omega
 have h3I : (3 : Int) ≤ (cap : Int) := by omega
 have h24I : (24 : Int) ≤ (cap : Int) := by omega
 have hc8 : ¬ cap = 8 := by omega
 have hc24 : ¬ cap = 24 := by omega
 obtain ⟨S, HS⟩ : ∃ S, Hid (S = strOfNums (l.take 3)) := ⟨_, rfl⟩
 have hlen3 : 3 = (l.take 3).length := by rw [List.length_take]; omega
 have hkS := fun w1 (hb1 : Below B w w1) => hid (run_convStr w1 (some ⟨b, off, none⟩) 3 cap (l.take 3) hlen3 (RowI.takeS (hP.row.below (hsz ▸ hb1)) 3))
 rw [← HS.out] at hkS
 have ems : S = ⟨#[75, 87, 87]⟩ := by rw [HS.out, hf]; rfl
 rw [ems] at hkS
 have hc3 : w.cell? ⟨b, off + 3, none⟩ = some (.int .u8 2) := by rw [hc 3 (by show 3 < l.length; omega), hv]
 have hbB : b < B := by rw [HB.out]; exact hb
 obtain ⟨Db, HDb⟩ : ∃ D, Hid (D = seg l 8 16) := ⟨_, rfl⟩
 have hlb : Hid (Db.length = 16) := hid (by rw [HDb.out]; exact seg_length (by omega))
 have hab : Hid (w.rangeAt b (off + 8) (Db.map (Value.int .u8))) := hid (by rw [HDb.out]; exact at_range (seg_at (l := l) hc (by omega)))
 have hub := Tryz.underlying27
 have hib : (Tryz.prog.info? 27).map (·.size) = some (Db.map (Value.int .u8)).length := by rw [List.length_map, hlb.out]; kernel_rfl
 rw [← HDb.out] at HXE
 obtain ⟨Do, HDo⟩ : ∃ D, Hid (D = seg l 24 16) := ⟨_, rfl⟩
 have hlo : Hid (Do.length = 16) := hid (by rw [HDo.out]; exact seg_length (by omega))
 have hao : Hid (w.rangeAt b (off + 24) (Do.map (Value.int .u8))) := hid (by rw [HDo.out]; exact at_range (seg_at (l := l) hc (by omega)))
 have huo := Tryz.underlying27
 have hio : (Tryz.prog.info? 27).map (·.size) = some (Do.map (Value.int .u8)).length := by rw [List.length_map, hlo.out]; kernel_rfl
 rw [← HDo.out] at HXE
 obtain ⟨Dn, HDn⟩ : ∃ D, Hid (D = seg l 40 16) := ⟨_, rfl⟩
 have hln : Hid (Dn.length = 16) := hid (by rw [HDn.out]; exact seg_length (by omega))
 have han : Hid (w.rangeAt b (off + 40) (Dn.map (Value.int .u8))) := hid (by rw [HDn.out]; exact at_range (seg_at (l := l) hc (by omega)))
 have hun := Tryz.underlying53
 have hin : (Tryz.prog.info? 53).map (·.size) = some (Dn.map (Value.int .u8)).length := by rw [List.length_map, hln.out]; kernel_rfl
 rw [← HDn.out] at HXE
 obtain ⟨Dc, HDc⟩ : ∃ D, Hid (D = seg l 56 32) := ⟨_, rfl⟩
 have hlc : Hid (Dc.length = 32) := hid (by rw [HDc.out]; exact seg_length (by omega))
 have hac : Hid (w.rangeAt b (off + 56) (Dc.map (Value.int .u8))) := hid (by rw [HDc.out]; exact at_range (seg_at (l := l) hc (by omega)))
 have huc := Tryz.underlying54
 have hic : (Tryz.prog.info? 54).map (·.size) = some (Dc.map (Value.int .u8)).length := by rw [List.length_map, hlc.out]; kernel_rfl
 rw [← HDc.out] at HXE
 obtain ⟨Dg, HDg⟩ : ∃ D, Hid (D = seg l 88 32) := ⟨_, rfl⟩
 have hlg : Hid (Dg.length = 32) := hid (by rw [HDg.out]; exact seg_length (by omega))
 have hag : Hid (w.rangeAt b (off + 88) (Dg.map (Value.int .u8))) := hid (by rw [HDg.out]; exact at_range (seg_at (l := l) hc (by omega)))
 have hug := Tryz.underlying22
 have hig : (Tryz.prog.info? 22).map (·.size) = some (Dg.map (Value.int .u8)).length := by rw [List.length_map, hlg.out]; kernel_rfl
 rw [← HDg.out] at HXE
 obtain ⟨Dt, HDt⟩ : ∃ D, Hid (D = seg l 120 16) := ⟨_, rfl⟩
 have hlt : Hid (Dt.length = 16) := hid (by rw [HDt.out]; exact seg_length (by omega))
 have hat : Hid (w.rangeAt b (off + 120) (Dt.map (Value.int .u8))) := hid (by rw [HDt.out]; exact at_range (seg_at (l := l) hc (by omega)))
 have hut := Tryz.underlying55
 have hit : (Tryz.prog.info? 55).map (·.size) = some (Dt.map (Value.int .u8)).length := by rw [List.length_map, hlt.out]; kernel_rfl
 rw [← HDt.out] at HXE
 obtain ⟨X0, HX0⟩ : ∃ X, Hid (X = (⟨2, E, Db, List.replicate 16 0, List.replicate 16 0, List.replicate 32 0, List.replicate 32 0, List.replicate 16 0⟩ : Env)) := ⟨_, rfl⟩
 have hL0 : Hid X0.Len := hid (by rw [HX0.out]; exact ⟨hlb.out, rfl, rfl, rfl, rfl, rfl⟩)
 have HBT : Hid (Tryz.prog.built 57 [(0, .int .i64 2), (1, .int .i64 E), (2, .agg (Db.map (Value.int .u8)).toArray)] = some X0.cs.toArray) := hid (by rw [HX0.out]; exact built_env3 2 E hlb.out)
 have hv0 : Hid (X0.v = 2) := hid (by rw [HX0.out])
 have hAA := fun w a n cap h => run_arrayAtID w a n cap h
 have hAB := fun w a n cap h => run_arrayAtNo w a n cap h
 have hAC := fun w a n cap h => run_arrayAtA32 w a n cap h
 have hAD := fun w a n cap h => run_arrayAtTag w a n cap h
 have hAE := fun w a n cap h => run_arrayAtS w a n cap h
 clear hn hP hf hlen3 hc hE ems
 have hq1 : (16 : Int) ≤ ((cap - 24 : Nat) : Int) := by omega
 have hr1 : ¬ cap - 24 = 16 := by omega
 have hq2 : (16 : Int) ≤ ((cap - 24 - 16 : Nat) : Int) := by omega
 have hr2 : ¬ cap - 24 - 16 = 16 := by omega
 have hq3 : (16 : Int) ≤ ((cap - 40 : Nat) : Int) := by omega
 have hr3 : ¬ cap - 40 = 16 := by omega
 have hq4 : (32 : Int) ≤ ((cap - 24 - 16 - 16 : Nat) : Int) := by omega
 have hr4 : ¬ cap - 24 - 16 - 16 = 32 := by omega
 have hq5 : (32 : Int) ≤ ((cap - 56 : Nat) : Int) := by omega
 have hr5 : ¬ cap - 56 = 32 := by omega
 have hq6 : (32 : Int) ≤ ((cap - 24 - 16 - 16 - 32 : Nat) : Int) := by omega
 have hr6 : ¬ cap - 24 - 16 - 16 - 32 = 32 := by omega
 have hq7 : (48 : Int) ≤ ((cap - 24 - 16 - 16 - 32 : Nat) : Int) := by omega
 have hq8 : (32 : Int) ≤ ((cap - 88 : Nat) : Int) := by omega
 have hr8 : ¬ cap - 88 = 32 := by omega
 have hq9 : (48 : Int) ≤ ((cap - 88 : Nat) : Int) := by omega
 go_enter Tryz.func39, Tryz.ntmps39
 go_wp2_with (first | (refine wl_allocV rfl 57 rfl Z hz.out B hsz ?_; intro w1 hR1 hb1 hs1; have kS := (hkS w1 hb1).out; have c3 := (hb1.cell (p := ⟨b, off + 3, none⟩) hbB).trans hc3) | (go_at_call 64; refine (hnum w1 hb1).out.mono ?_; rintro e w2 ⟨rfl, hb2⟩; have hR2 := hR1.below hb2 (by omega); have bb2 := hb1.trans (hb2.mono (by omega : B ≤ _)); have hs2 := hb2.size; clear hR1 hb1 c3))
 obtain ⟨G, HG⟩ : ∃ G, Hid (G = w2.heap.size) := ⟨_, rfl⟩
 have hGs : w2.heap.size = G := HG.out.symm
 have hBG : B + 1 ≤ G := by omega
 have hbG : b < G := by omega
 have c3 := (bb2.cell (p := ⟨b, off + 3, none⟩) hbB).trans hc3
 have rb : w2.rangeAt b (off + 8) (Db.map (Value.int .u8)) := fun j u hu => (bb2.cell (p := ⟨b, off + 8 + j, none⟩) hbB).trans (hab.out j u hu)
 refine wp_region_held_drew (S := (fun w' => w'.cell? ⟨b, off + 3, none⟩ = some (.int .u8 2) ∧ w'.rangeAt b (off + 8) (Db.map (Value.int .u8)))) (by kernel_rfl) ⟨c3, rb⟩ (fun hHeld => ?_)
 obtain ⟨y0, HY0⟩ : ∃ x, Hid (x = w2.drew) := ⟨_, rfl⟩
 rw [← HY0.out] at hHeld ⊢
 have bbx : Below B w y0 := by rw [HY0.out]; exact bb2.drew
 have hRx : BlkV 57 y0 B Z := by rw [HY0.out]; exact hR2
 have hgs0 : y0.heap.size = G := by rw [HY0.out]; exact hGs
 have c30 := hHeld.1
 have rb0 := hHeld.2
 clear c3 rb bb2 hR2 hGs hs2
 refine take_l (i := 0) (v := ?rv30) rfl (by kernel_rfl) (by kernel_rfl) (by kernel_rfl) (fun _ _ _ h => h) (Or.inl ⟨by rfl, ?rhy30⟩) (by assumption) ?rrest30
 case rhy30 => (intro w hSw; (try dsimp only at hSw); go_simp; (try with_reducible rfl))
 try simp only [Act.put, fpA, fpZ, fpN]
 refine take_l (i := 1) (v := ?rv31) rfl (by kernel_rfl) (by kernel_rfl) (by kernel_rfl) (fun _ _ _ h => h) (Or.inl ⟨by rfl, ?rhy31⟩) (by assumption) ?rrest31
 case rhy31 => (intro w hSw; (try dsimp only at hSw); go_simp; (try with_reducible rfl))
 try simp only [Act.put, fpA, fpZ, fpN]
 refine take_l (i := 2) (v := ?rv32) rfl (by kernel_rfl) (by kernel_rfl) (by kernel_rfl) (fun _ _ _ h => h) (Or.inl ⟨by rfl, ?rhy32⟩) (by assumption) ?rrest32
 case rhy32 => (intro w hSw; (try dsimp only at hSw); go_simp; (try with_reducible rfl))
 try simp only [Act.put, fpA, fpZ, fpN]
 refine take_l (i := 3) (v := ?rv33) rfl (by kernel_rfl) (by kernel_rfl) (by kernel_rfl) (fun _ _ _ h => h) (Or.inl ⟨by rfl, ?rhy33⟩) (by assumption) ?rrest33
 case rhy33 => (intro w hSw; (try dsimp only at hSw); go_simp; (try with_reducible rfl))
 try simp only [Act.put, fpA, fpZ, fpN]
 refine take_l (i := 4) (v := ?rv34) rfl (by kernel_rfl) (by kernel_rfl) (by kernel_rfl) (fun _ _ _ h => h) (Or.inl ⟨by rfl, ?rhy34⟩) (by assumption) ?rrest34
 case rhy34 => (intro w hSw; (try dsimp only at hSw); go_simp; (try with_reducible rfl))
 try simp only [Act.put, fpA, fpZ, fpN]
 refine take_l (i := 5) (v := ?rv35) rfl (by kernel_rfl) (by kernel_rfl) (by kernel_rfl) (fun _ _ _ h => h) (Or.inl ⟨by rfl, ?rhy35⟩) (by assumption) ?rrest35
 case rhy35 => (intro w hSw; (try dsimp only at hSw); go_simp; (try with_reducible rfl))
 try simp only [Act.put, fpA, fpZ, fpN]
 refine take_l (i := 6) (v := ?rv36) rfl (by kernel_rfl) (by kernel_rfl) (by kernel_rfl) (fun _ _ _ h => h) (Or.inl ⟨by rfl, ?rhy36⟩) (by assumption) ?rrest36
 case rhy36 => (intro w hSw; (try dsimp only at hSw); go_simp; (try with_reducible rfl))
 try simp only [Act.put, fpA, fpZ, fpN]
 refine take_l (i := 7) (v := ?rv37) rfl (by kernel_rfl) (by kernel_rfl) (by kernel_rfl) (fun _ _ _ h => h) (Or.inl ⟨by rfl, ?rhy37⟩) (by assumption) ?rrest37
 case rhy37 => (intro w hSw; (try dsimp only at hSw); go_simp; (try with_reducible rfl))
 try simp only [Act.put, fpA, fpZ, fpN]
 refine take_l (i := 8) (v := ?rv38) rfl (by kernel_rfl) (by kernel_rfl) (by kernel_rfl) (fun _ _ _ h => h) (Or.inl ⟨by rfl, ?rhy38⟩) (by assumption) ?rrest38
 case rhy38 => (intro w hSw; (try dsimp only at hSw); go_simp; (try with_reducible rfl))
 try simp only [Act.put, fpA, fpZ, fpN]
 refine take_l (i := 9) (v := _) rfl (by kernel_rfl) (by kernel_rfl) (by kernel_rfl) (fun _ _ _ h => h) (yieldsIf_load_mid (by rfl) 27 _ rfl b (off + 8) rfl (Db.map (Value.int .u8)) _ (fun w hS => hS.2) hub rfl hib) (by assumption) ?_
 try simp only [Act.put, fpA, fpZ, fpN]
 refine take_l (i := 10) (v := _) rfl (by kernel_rfl) (by kernel_rfl) (by kernel_rfl) (fun _ _ _ h => h) (yieldsIf_build3 (by rfl) 57 0 1 2 _ _ _ rfl (.int .i64 2) (.int .i64 E) (.agg (Db.map (Value.int .u8)).toArray) rfl rfl rfl X0.cs HBT.out) (by assumption) ?_
 try simp only [Act.put, fpA, fpZ, fpN]
 refine wpAnyH_ready (rs := [11]) (by kernel_rfl) (by simp) (cons_l rfl (fun K' hK' => ?_) AllReadyH.nil)
 refine step_allocV (by rfl) 57 (by rfl) Z hz.out G hgs0 ?_
 intro wA hA hbA hsA
 have rb1 : wA.rangeAt b (off + 8) (Db.map (Value.int .u8)) := (fun j v hv => (hbA.cell (p := ⟨b, off + 8 + j, none⟩) hbG).trans (rb0 j v hv))
 have c31 := (hbA.cell (p := ⟨b, off + 3, none⟩) hbG).trans c30
 refine hK'.out _ _ ⟨c31, rb1⟩ (fun hHeld => ?_)
 clear hK' K'
 try simp only [Act.put, fpA, fpZ, fpN]
 refine wpAnyH_ready (rs := [12]) (by kernel_rfl) (by simp) (cons_l rfl (fun K' hK' => ?_) AllReadyH.nil)
 refine step_storeV (by rfl) 57 _ _ (by rfl) 57 G (by rfl) X0.cs (by rfl) 130 aggEnv hL0.out.csl Z hA hZl X0.cs_one ?_
 intro wE hE hbE hsE
 have rb2 : wE.rangeAt b (off + 8) (Db.map (Value.int .u8)) := (fun j v hv => (hbE.cell (p := ⟨b, off + 8 + j, none⟩) hbG).trans (rb1 j v hv))
 have c32 := (hbE.cell (p := ⟨b, off + 3, none⟩) hbG).trans c31
 refine hK'.out _ _ ⟨c32, rb2⟩ (fun hHeld => ?_)
 clear hK' K'
 try simp only [Act.put, fpA, fpZ, fpN]
 refine wpAnyH_done (by kernel_rfl) ?_ _
 have bbE : Below B w wE := bbx.trans ((hbA.mono (by omega : B ≤ _)).trans (hbE.mono (by omega : B ≤ _)))
 have hRE := (hRx.below hbA (by omega)).below hbE (by omega)
 have hsE' : wE.heap.size = G + 1 := by omega
 have cv := (hE.cell 0).trans (by rw [Env.cv, hv0.out] : X0.cs[0]? = some (.int .i64 2))
 clear hA hbA hsA hbE hsE rb0 rb1 rb2 c30 c31 c32 hHeld bbx hRx
 go_wp2_with fail
 have ro : wE.drew.rangeAt b (off + 24) (Do.map (Value.int .u8)) := fun j u hu => (bbE.cell (p := ⟨b, off + 24 + j, none⟩) hbB).trans (hao.out j u hu)
 refine wp_region_held_drew (S := (fun w' => w'.rangeAt b (off + 24) (Do.map (Value.int .u8)))) (by kernel_rfl) ro (fun hHeld => ?_)
 obtain ⟨y1, HY1⟩ : ∃ x, Hid (x = wE.drew) := ⟨_, rfl⟩
 rw [← HY1.out] at hHeld ⊢
 have bbx : Below B w y1 := by rw [HY1.out]; exact bbE.drew
 have hRx : BlkV 57 y1 B Z := by rw [HY1.out]; exact hRE
 have hEx : BlkV 57 y1 G X0.cs := by rw [HY1.out]; exact hE
 have hsx : y1.heap.size = G + 1 := by rw [HY1.out]; exact hsE'
 clear ro bbE hRE hE hsE' cv
 refine take_l (i := 0) (v := ?rv41) rfl (by kernel_rfl) (by kernel_rfl) (by kernel_rfl) (fun _ _ _ h => h) (Or.inl ⟨by rfl, ?rhy41⟩) (by assumption) ?rrest41
 case rhy41 => (intro w hSw; (try dsimp only at hSw); go_simp; (try with_reducible rfl))
 try simp only [Act.put, fpA, fpZ, fpN]
 refine take_l (i := 1) (v := ?rv42) rfl (by kernel_rfl) (by kernel_rfl) (by kernel_rfl) (fun _ _ _ h => h) (Or.inl ⟨by rfl, ?rhy42⟩) (by assumption) ?rrest42
 case rhy42 => (intro w hSw; (try dsimp only at hSw); go_simp; (try with_reducible rfl))
 try simp only [Act.put, fpA, fpZ, fpN]
 refine take_l (i := 2) (v := ?rv43) rfl (by kernel_rfl) (by kernel_rfl) (by kernel_rfl) (fun _ _ _ h => h) (Or.inl ⟨by rfl, ?rhy43⟩) (by assumption) ?rrest43
 case rhy43 => (intro w hSw; (try dsimp only at hSw); go_simp; (try with_reducible rfl))
 try simp only [Act.put, fpA, fpZ, fpN]
 refine take_l (i := 3) (v := _) rfl (by kernel_rfl) (by kernel_rfl) (by kernel_rfl) (fun _ _ _ h => h) (yieldsIf_load_mid (by rfl) 27 _ rfl b (off + 24) rfl (Do.map (Value.int .u8)) _ (fun w hS => hS) huo rfl hio) (by assumption) ?_
 try simp only [Act.put, fpA, fpZ, fpN]
 refine take_l (i := 4) (v := ?rv45) rfl (by kernel_rfl) (by kernel_rfl) (by kernel_rfl) (fun _ _ _ h => h) (Or.inl ⟨by rfl, ?rhy45⟩) (by assumption) ?rrest45
 case rhy45 => (intro w hSw; (try dsimp only at hSw); go_simp; (try with_reducible rfl))
 try simp only [Act.put, fpA, fpZ, fpN]
 refine take_l (i := 5) (v := ?rv46) rfl (by kernel_rfl) (by kernel_rfl) (by kernel_rfl) (fun _ _ _ h => h) (Or.inl ⟨by rfl, ?rhy46⟩) (by assumption) ?rrest46
 case rhy46 => (intro w hSw; (try dsimp only at hSw); go_simp; (try with_reducible rfl))
 try simp only [Act.put, fpA, fpZ, fpN]
 refine take_l (i := 6) (v := ?rv47) rfl (by kernel_rfl) (by kernel_rfl) (by kernel_rfl) (fun _ _ _ h => h) (Or.inl ⟨by rfl, ?rhy47⟩) (by assumption) ?rrest47
 case rhy47 => (intro w hSw; (try dsimp only at hSw); go_simp; (try with_reducible rfl))
 try simp only [Act.put, fpA, fpZ, fpN]
 refine wpAnyH_ready (rs := [7]) (by kernel_rfl) (by simp) (cons_l rfl (fun K' hK' => ?_) AllReadyH.nil)
 refine step_putAt (by rfl) 27 _ _ (by rfl) 57 G 18 (by rfl) (Do.map (Value.int .u8)) (by rfl) hio X0.cs hEx (by rw [List.length_map, hlo.out, hL0.out.csl]; decide) (ints_one _ _) ?_
 intro z1 hE hg hbz hsz1
 rw [env_put_o hL0.out Do hlo.out] at hE
 have hHeld' : z1.rangeAt b (off + 24) (Do.map (Value.int .u8)) := (fun j u hu => (hbz.cell (p := ⟨b, off + 24 + j, none⟩) hbG).trans (hHeld j u hu))
 refine hK'.out _ _ hHeld' (fun hHeld => ?_)
 clear hK' K'
 try simp only [Act.put, fpA, fpZ, fpN]
 refine take_l (i := 8) (v := ?rv48) rfl (by kernel_rfl) (by kernel_rfl) (by kernel_rfl) (fun _ _ _ h => h) (Or.inl ⟨by rfl, ?rhy48⟩) (by assumption) ?rrest48
 case rhy48 => (intro w hSw; (try dsimp only at hSw); go_simp; (try with_reducible rfl))
 try simp only [Act.put, fpA, fpZ, fpN]
 refine wpAnyH_done (by kernel_rfl) ?_ _
 have bbE : Below B w z1 := bbx.trans (hbz.mono (by omega : B ≤ _))
 have hRE := hRx.below hbz (by omega)
 have hsE' : z1.heap.size = G + 1 := by omega
 obtain ⟨X1, HX1⟩ : ∃ X, Hid (X = ({X0 with o := Do} : Env)) := ⟨_, rfl⟩
 have hL1 : Hid X1.Len := hid (by rw [HX1.out]; exact env_len_o hL0.out Do hlo.out)
 have hv1 : Hid (X1.v = 2) := hid (by rw [HX1.out]; exact hv0.out)
 rw [← HX1.out] at hE
 have cv := (hE.cell 0).trans (by rw [Env.cv, hv1.out] : X1.cs[0]? = some (.int .i64 2))
 clear hHeld hHeld' bbx hRx hEx hsx hg hbz
 go_wp2_with fail
 have rn : z1.drew.rangeAt b (off + 40) (Dn.map (Value.int .u8)) := fun j u hu => (bbE.cell (p := ⟨b, off + 40 + j, none⟩) hbB).trans (han.out j u hu)
 refine wp_region_held_drew (S := (fun w' => w'.rangeAt b (off + 40) (Dn.map (Value.int .u8)))) (by kernel_rfl) rn (fun hHeld => ?_)
 obtain ⟨y2, HY2⟩ : ∃ x, Hid (x = z1.drew) := ⟨_, rfl⟩
 rw [← HY2.out] at hHeld ⊢
 have bbx : Below B w y2 := by rw [HY2.out]; exact bbE.drew
 have hRx : BlkV 57 y2 B Z := by rw [HY2.out]; exact hRE
 have hEx : BlkV 57 y2 G X1.cs := by rw [HY2.out]; exact hE
 have hsx : y2.heap.size = G + 1 := by rw [HY2.out]; exact hsE'
 clear rn bbE hRE hE hsE' cv
 refine take_l (i := 0) (v := ?rv49) rfl (by kernel_rfl) (by kernel_rfl) (by kernel_rfl) (fun _ _ _ h => h) (Or.inl ⟨by rfl, ?rhy49⟩) (by assumption) ?rrest49
 case rhy49 => (intro w hSw; (try dsimp only at hSw); go_simp; (try with_reducible rfl))
 try simp only [Act.put, fpA, fpZ, fpN]
 refine take_l (i := 1) (v := ?rv50) rfl (by kernel_rfl) (by kernel_rfl) (by kernel_rfl) (fun _ _ _ h => h) (Or.inl ⟨by rfl, ?rhy50⟩) (by assumption) ?rrest50
 case rhy50 => (intro w hSw; (try dsimp only at hSw); go_simp; (try with_reducible rfl))
 try simp only [Act.put, fpA, fpZ, fpN]
 refine take_l (i := 2) (v := ?rv51) rfl (by kernel_rfl) (by kernel_rfl) (by kernel_rfl) (fun _ _ _ h => h) (Or.inl ⟨by rfl, ?rhy51⟩) (by assumption) ?rrest51
 case rhy51 => (intro w hSw; (try dsimp only at hSw); go_simp; (try with_reducible rfl))
 try simp only [Act.put, fpA, fpZ, fpN]
 refine take_l (i := 3) (v := _) rfl (by kernel_rfl) (by kernel_rfl) (by kernel_rfl) (fun _ _ _ h => h) (yieldsIf_load_mid (by rfl) 53 _ rfl b (off + 40) rfl (Dn.map (Value.int .u8)) _ (fun w hS => hS) hun rfl hin) (by assumption) ?_
 try simp only [Act.put, fpA, fpZ, fpN]
 refine take_l (i := 4) (v := ?rv53) rfl (by kernel_rfl) (by kernel_rfl) (by kernel_rfl) (fun _ _ _ h => h) (Or.inl ⟨by rfl, ?rhy53⟩) (by assumption) ?rrest53
 case rhy53 => (intro w hSw; (try dsimp only at hSw); go_simp; (try with_reducible rfl))
 try simp only [Act.put, fpA, fpZ, fpN]
 refine take_l (i := 5) (v := ?rv54) rfl (by kernel_rfl) (by kernel_rfl) (by kernel_rfl) (fun _ _ _ h => h) (Or.inl ⟨by rfl, ?rhy54⟩) (by assumption) ?rrest54
 case rhy54 => (intro w hSw; (try dsimp only at hSw); go_simp; (try with_reducible rfl))
 try simp only [Act.put, fpA, fpZ, fpN]
 refine take_l (i := 6) (v := ?rv55) rfl (by kernel_rfl) (by kernel_rfl) (by kernel_rfl) (fun _ _ _ h => h) (Or.inl ⟨by rfl, ?rhy55⟩) (by assumption) ?rrest55
 case rhy55 => (intro w hSw; (try dsimp only at hSw); go_simp; (try with_reducible rfl))
 try simp only [Act.put, fpA, fpZ, fpN]
 refine wpAnyH_ready (rs := [7]) (by kernel_rfl) (by simp) (cons_l rfl (fun K' hK' => ?_) AllReadyH.nil)
 refine step_putAt (by rfl) 53 _ _ (by rfl) 57 G 34 (by rfl) (Dn.map (Value.int .u8)) (by rfl) hin X1.cs hEx (by rw [List.length_map, hln.out, hL1.out.csl]; decide) (ints_one _ _) ?_
 intro z2 hE hg hbz hsz2
 rw [env_put_n hL1.out Dn hln.out] at hE
 have hHeld' : z2.rangeAt b (off + 40) (Dn.map (Value.int .u8)) := (fun j u hu => (hbz.cell (p := ⟨b, off + 40 + j, none⟩) hbG).trans (hHeld j u hu))
 refine hK'.out _ _ hHeld' (fun hHeld => ?_)
 clear hK' K'
 try simp only [Act.put, fpA, fpZ, fpN]
 refine take_l (i := 8) (v := ?rv56) rfl (by kernel_rfl) (by kernel_rfl) (by kernel_rfl) (fun _ _ _ h => h) (Or.inl ⟨by rfl, ?rhy56⟩) (by assumption) ?rrest56
 case rhy56 => (intro w hSw; (try dsimp only at hSw); go_simp; (try with_reducible rfl))
 try simp only [Act.put, fpA, fpZ, fpN]
 refine wpAnyH_done (by kernel_rfl) ?_ _
 have bbE : Below B w z2 := bbx.trans (hbz.mono (by omega : B ≤ _))
 have hRE := hRx.below hbz (by omega)
 have hsE' : z2.heap.size = G + 1 := by omega
 obtain ⟨X2, HX2⟩ : ∃ X, Hid (X = ({X1 with n := Dn} : Env)) := ⟨_, rfl⟩
 have hL2 : Hid X2.Len := hid (by rw [HX2.out]; exact env_len_n hL1.out Dn hln.out)
 have hv2 : Hid (X2.v = 2) := hid (by rw [HX2.out]; exact hv1.out)
 rw [← HX2.out] at hE
 have cv := (hE.cell 0).trans (by rw [Env.cv, hv2.out] : X2.cs[0]? = some (.int .i64 2))
 clear hHeld hHeld' bbx hRx hEx hsx hg hbz
 go_wp2_with fail
 have rc : z2.drew.rangeAt b (off + 56) (Dc.map (Value.int .u8)) := fun j u hu => (bbE.cell (p := ⟨b, off + 56 + j, none⟩) hbB).trans (hac.out j u hu)
 refine wp_region_held_drew (S := (fun w' => w'.rangeAt b (off + 56) (Dc.map (Value.int .u8)))) (by kernel_rfl) rc (fun hHeld => ?_)
 obtain ⟨y3, HY3⟩ : ∃ x, Hid (x = z2.drew) := ⟨_, rfl⟩
 rw [← HY3.out] at hHeld ⊢
 have bbx : Below B w y3 := by rw [HY3.out]; exact bbE.drew
 have hRx : BlkV 57 y3 B Z := by rw [HY3.out]; exact hRE
 have hEx : BlkV 57 y3 G X2.cs := by rw [HY3.out]; exact hE
 have hsx : y3.heap.size = G + 1 := by rw [HY3.out]; exact hsE'
 clear rc bbE hRE hE hsE' cv
 refine take_l (i := 0) (v := ?rv57) rfl (by kernel_rfl) (by kernel_rfl) (by kernel_rfl) (fun _ _ _ h => h) (Or.inl ⟨by rfl, ?rhy57⟩) (by assumption) ?rrest57
 case rhy57 => (intro w hSw; (try dsimp only at hSw); go_simp; (try with_reducible rfl))
 try simp only [Act.put, fpA, fpZ, fpN]
 refine take_l (i := 1) (v := ?rv58) rfl (by kernel_rfl) (by kernel_rfl) (by kernel_rfl) (fun _ _ _ h => h) (Or.inl ⟨by rfl, ?rhy58⟩) (by assumption) ?rrest58
 case rhy58 => (intro w hSw; (try dsimp only at hSw); go_simp; (try with_reducible rfl))
 try simp only [Act.put, fpA, fpZ, fpN]
 refine take_l (i := 2) (v := ?rv59) rfl (by kernel_rfl) (by kernel_rfl) (by kernel_rfl) (fun _ _ _ h => h) (Or.inl ⟨by rfl, ?rhy59⟩) (by assumption) ?rrest59
 case rhy59 => (intro w hSw; (try dsimp only at hSw); go_simp; (try with_reducible rfl))
 try simp only [Act.put, fpA, fpZ, fpN]
 refine take_l (i := 3) (v := _) rfl (by kernel_rfl) (by kernel_rfl) (by kernel_rfl) (fun _ _ _ h => h) (yieldsIf_load_mid (by rfl) 54 _ rfl b (off + 56) rfl (Dc.map (Value.int .u8)) _ (fun w hS => hS) huc rfl hic) (by assumption) ?_
 try simp only [Act.put, fpA, fpZ, fpN]
 refine take_l (i := 4) (v := ?rv61) rfl (by kernel_rfl) (by kernel_rfl) (by kernel_rfl) (fun _ _ _ h => h) (Or.inl ⟨by rfl, ?rhy61⟩) (by assumption) ?rrest61
 case rhy61 => (intro w hSw; (try dsimp only at hSw); go_simp; (try with_reducible rfl))
 try simp only [Act.put, fpA, fpZ, fpN]
 refine take_l (i := 5) (v := ?rv62) rfl (by kernel_rfl) (by kernel_rfl) (by kernel_rfl) (fun _ _ _ h => h) (Or.inl ⟨by rfl, ?rhy62⟩) (by assumption) ?rrest62
 case rhy62 => (intro w hSw; (try dsimp only at hSw); go_simp; (try with_reducible rfl))
 try simp only [Act.put, fpA, fpZ, fpN]
 refine take_l (i := 6) (v := ?rv63) rfl (by kernel_rfl) (by kernel_rfl) (by kernel_rfl) (fun _ _ _ h => h) (Or.inl ⟨by rfl, ?rhy63⟩) (by assumption) ?rrest63
 case rhy63 => (intro w hSw; (try dsimp only at hSw); go_simp; (try with_reducible rfl))
 try simp only [Act.put, fpA, fpZ, fpN]
 refine wpAnyH_ready (rs := [7]) (by kernel_rfl) (by simp) (cons_l rfl (fun K' hK' => ?_) AllReadyH.nil)
 refine step_putAt (by rfl) 54 _ _ (by rfl) 57 G 50 (by rfl) (Dc.map (Value.int .u8)) (by rfl) hic X2.cs hEx (by rw [List.length_map, hlc.out, hL2.out.csl]; decide) (ints_one _ _) ?_
 intro z3 hE hg hbz hsz3
 rw [env_put_c hL2.out Dc hlc.out] at hE
 have hHeld' : z3.rangeAt b (off + 56) (Dc.map (Value.int .u8)) := (fun j u hu => (hbz.cell (p := ⟨b, off + 56 + j, none⟩) hbG).trans (hHeld j u hu))
 refine hK'.out _ _ hHeld' (fun hHeld => ?_)
 clear hK' K'
 try simp only [Act.put, fpA, fpZ, fpN]
 refine take_l (i := 8) (v := ?rv64) rfl (by kernel_rfl) (by kernel_rfl) (by kernel_rfl) (fun _ _ _ h => h) (Or.inl ⟨by rfl, ?rhy64⟩) (by assumption) ?rrest64
 case rhy64 => (intro w hSw; (try dsimp only at hSw); go_simp; (try with_reducible rfl))
 try simp only [Act.put, fpA, fpZ, fpN]
 refine wpAnyH_done (by kernel_rfl) ?_ _
 have bbE : Below B w z3 := bbx.trans (hbz.mono (by omega : B ≤ _))
 have hRE := hRx.below hbz (by omega)
 have hsE' : z3.heap.size = G + 1 := by omega
 obtain ⟨X3, HX3⟩ : ∃ X, Hid (X = ({X2 with c := Dc} : Env)) := ⟨_, rfl⟩
 have hL3 : Hid X3.Len := hid (by rw [HX3.out]; exact env_len_c hL2.out Dc hlc.out)
 have hv3 : Hid (X3.v = 2) := hid (by rw [HX3.out]; exact hv2.out)
 rw [← HX3.out] at hE
 have cv := (hE.cell 0).trans (by rw [Env.cv, hv3.out] : X3.cs[0]? = some (.int .i64 2))
 clear hHeld hHeld' bbx hRx hEx hsx hg hbz
 go_wp2_with fail
 have rg : z3.drew.rangeAt b (off + 88) (Dg.map (Value.int .u8)) := fun j u hu => (bbE.cell (p := ⟨b, off + 88 + j, none⟩) hbB).trans (hag.out j u hu)
 have rt : z3.drew.rangeAt b (off + 120) (Dt.map (Value.int .u8)) := fun j u hu => (bbE.cell (p := ⟨b, off + 120 + j, none⟩) hbB).trans (hat.out j u hu)
 refine wp_region_held_drew (S := (fun w' => w'.rangeAt b (off + 88) (Dg.map (Value.int .u8)) ∧ w'.rangeAt b (off + 120) (Dt.map (Value.int .u8)))) (by kernel_rfl) ⟨rg, rt⟩ (fun hHeld => ?_)
 obtain ⟨y4, HY4⟩ : ∃ x, Hid (x = z3.drew) := ⟨_, rfl⟩
 rw [← HY4.out] at hHeld ⊢
 have bbx : Below B w y4 := by rw [HY4.out]; exact bbE.drew
 have hRx : BlkV 57 y4 B Z := by rw [HY4.out]; exact hRE
 have hEx : BlkV 57 y4 G X3.cs := by rw [HY4.out]; exact hE
 have hsx : y4.heap.size = G + 1 := by rw [HY4.out]; exact hsE'
 clear rg rt bbE hRE hE hsE' cv
 refine take_l (i := 0) (v := ?rv65) rfl (by kernel_rfl) (by kernel_rfl) (by kernel_rfl) (fun _ _ _ h => h) (Or.inl ⟨by rfl, ?rhy65⟩) (by assumption) ?rrest65
 case rhy65 => (intro w hSw; (try dsimp only at hSw); go_simp; (try with_reducible rfl))
 try simp only [Act.put, fpA, fpZ, fpN]
 refine take_l (i := 1) (v := ?rv66) rfl (by kernel_rfl) (by kernel_rfl) (by kernel_rfl) (fun _ _ _ h => h) (Or.inl ⟨by rfl, ?rhy66⟩) (by assumption) ?rrest66
 case rhy66 => (intro w hSw; (try dsimp only at hSw); go_simp; (try with_reducible rfl))
 try simp only [Act.put, fpA, fpZ, fpN]
 refine take_l (i := 2) (v := ?rv67) rfl (by kernel_rfl) (by kernel_rfl) (by kernel_rfl) (fun _ _ _ h => h) (Or.inl ⟨by rfl, ?rhy67⟩) (by assumption) ?rrest67
 case rhy67 => (intro w hSw; (try dsimp only at hSw); go_simp; (try with_reducible rfl))
 try simp only [Act.put, fpA, fpZ, fpN]
 refine take_l (i := 3) (v := _) rfl (by kernel_rfl) (by kernel_rfl) (by kernel_rfl) (fun _ _ _ h => h) (yieldsIf_load_mid (by rfl) 22 _ rfl b (off + 88) rfl (Dg.map (Value.int .u8)) _ (fun w hS => hS.1) hug rfl hig) (by assumption) ?_
 try simp only [Act.put, fpA, fpZ, fpN]
 refine take_l (i := 4) (v := ?rv69) rfl (by kernel_rfl) (by kernel_rfl) (by kernel_rfl) (fun _ _ _ h => h) (Or.inl ⟨by rfl, ?rhy69⟩) (by assumption) ?rrest69
 case rhy69 => (intro w hSw; (try dsimp only at hSw); go_simp; (try with_reducible rfl))
 try simp only [Act.put, fpA, fpZ, fpN]
 refine take_l (i := 5) (v := ?rv70) rfl (by kernel_rfl) (by kernel_rfl) (by kernel_rfl) (fun _ _ _ h => h) (Or.inl ⟨by rfl, ?rhy70⟩) (by assumption) ?rrest70
 case rhy70 => (intro w hSw; (try dsimp only at hSw); go_simp; (try with_reducible rfl))
 try simp only [Act.put, fpA, fpZ, fpN]
 refine take_l (i := 6) (v := ?rv71) rfl (by kernel_rfl) (by kernel_rfl) (by kernel_rfl) (fun _ _ _ h => h) (Or.inl ⟨by rfl, ?rhy71⟩) (by assumption) ?rrest71
 case rhy71 => (intro w hSw; (try dsimp only at hSw); go_simp; (try with_reducible rfl))
 try simp only [Act.put, fpA, fpZ, fpN]
 refine take_l (i := 7) (v := _) rfl (by kernel_rfl) (by kernel_rfl) (by kernel_rfl) (fun _ _ _ h => h) (yieldsIf_load_mid (by rfl) 55 _ rfl b (off + 120) rfl (Dt.map (Value.int .u8)) _ (fun w hS => hS.2) hut rfl hit) (by assumption) ?_
 try simp only [Act.put, fpA, fpZ, fpN]
 refine take_l (i := 8) (v := ?rv73) rfl (by kernel_rfl) (by kernel_rfl) (by kernel_rfl) (fun _ _ _ h => h) (Or.inl ⟨by rfl, ?rhy73⟩) (by assumption) ?rrest73
 case rhy73 => (intro w hSw; (try dsimp only at hSw); go_simp; (try with_reducible rfl))
 try simp only [Act.put, fpA, fpZ, fpN]
 refine wpAnyH_ready (rs := [9]) (by kernel_rfl) (by simp) (cons_l rfl (fun K' hK' => ?_) AllReadyH.nil)
 refine step_putAt (by rfl) 22 _ _ (by rfl) 57 G 82 (by rfl) (Dg.map (Value.int .u8)) (by rfl) hig X3.cs hEx (by rw [List.length_map, hlg.out, hL3.out.csl]; decide) (ints_one _ _) ?_
 intro z4 hE4 hg4 hbz4 hsz4
 rw [env_put_g hL3.out Dg hlg.out] at hE4
 have hH4 : z4.rangeAt b (off + 88) (Dg.map (Value.int .u8)) ∧ z4.rangeAt b (off + 120) (Dt.map (Value.int .u8)) := ⟨fun j u hu => (hbz4.cell (p := ⟨b, off + 88 + j, none⟩) hbG).trans (hHeld.1 j u hu), fun j u hu => (hbz4.cell (p := ⟨b, off + 120 + j, none⟩) hbG).trans (hHeld.2 j u hu)⟩
 obtain ⟨X4, HX4⟩ : ∃ X, Hid (X = ({X3 with g := Dg} : Env)) := ⟨_, rfl⟩
 have hL4 : Hid X4.Len := hid (by rw [HX4.out]; exact env_len_g hL3.out Dg hlg.out)
 rw [← HX4.out] at hE4
 refine hK'.out _ _ hH4 (fun hHeld => ?_)
 clear hK' K'
 try simp only [Act.put, fpA, fpZ, fpN]
 refine take_l (i := 10) (v := ?rv74) rfl (by kernel_rfl) (by kernel_rfl) (by kernel_rfl) (fun _ _ _ h => h) (Or.inl ⟨by rfl, ?rhy74⟩) (by assumption) ?rrest74
 case rhy74 => (intro w hSw; (try dsimp only at hSw); go_simp; (try with_reducible rfl))
 try simp only [Act.put, fpA, fpZ, fpN]
 refine wpAnyH_ready (rs := [11]) (by kernel_rfl) (by simp) (cons_l rfl (fun K' hK' => ?_) AllReadyH.nil)
 refine step_putAt (by rfl) 55 _ _ (by rfl) 57 G 114 (by rfl) (Dt.map (Value.int .u8)) (by rfl) hit X4.cs hE4 (by rw [List.length_map, hlt.out, hL4.out.csl]; decide) (ints_one _ _) ?_
 intro z5 hE5 hg5 hbz5 hsz5
 rw [env_put_t hL4.out Dt hlt.out] at hE5
 have hH5 : z5.rangeAt b (off + 88) (Dg.map (Value.int .u8)) ∧ z5.rangeAt b (off + 120) (Dt.map (Value.int .u8)) := ⟨fun j u hu => (hbz5.cell (p := ⟨b, off + 88 + j, none⟩) hbG).trans (hHeld.1 j u hu), fun j u hu => (hbz5.cell (p := ⟨b, off + 120 + j, none⟩) hbG).trans (hHeld.2 j u hu)⟩
 obtain ⟨X5, HX5⟩ : ∃ X, Hid (X = ({X4 with t := Dt} : Env)) := ⟨_, rfl⟩
 have hL5 : Hid X5.Len := hid (by rw [HX5.out]; exact env_len_t hL4.out Dt hlt.out)
 rw [← HX5.out] at hE5
 refine hK'.out _ _ hH5 (fun hHeld => ?_)
 clear hK' K'
 try simp only [Act.put, fpA, fpZ, fpN]
 refine wpAnyH_done (by kernel_rfl) ?_ _
 have bbE : Below B w z5 := bbx.trans ((hbz4.mono (by omega : B ≤ _)).trans (hbz5.mono (by omega : B ≤ _)))
 have hRE := (hRx.below hbz4 (by omega)).below hbz5 (by omega)
 have hfin : X5 = readX l := by rw [HXE.out, HX5.out, HX4.out, HX3.out, HX2.out, HX1.out, HX0.out]
 obtain ⟨C, HC⟩ : ∃ C, Hid (C = X5.cs) := ⟨_, rfl⟩
 have hCl : C.length = 130 := by rw [HC.out]; exact hL5.out.csl
 have hC1 : ∀ u ∈ C, u.oneCell' = true := by rw [HC.out]; exact Env.cs_one _
 have HVC : Hid (readV l = .tuple #[.agg C.toArray, .int .i64 0]) := hid (by rw [HV.out, HC.out, hfin])
 rw [← HC.out] at hE5
 have hE := hE5
 clear hHeld hH4 hH5 bbx hRx hEx hsx hg4 hg5 hbz4 hbz5 hE4 hE5 hfin
 go_wp2_with (first | (refine wl_load rfl 57 _ rfl ⟨G, 0, none⟩ rfl C (by rw [hCl]; exact aggEnv) hE.at0 ?_) | (refine wl_storeV rfl 57 _ _ rfl 57 B rfl C rfl 130 aggEnv hCl Z hRE hZl hC1 ?_; intro wF hRF hbF hsF))
 (try simp only [Exit.inBlock, Exit.then]); refine bodyPost_ret (results_cell2 rfl _ _ _ _ rfl C (by rw [hCl]; exact aggEnv) hRF.at0) rfl ?_
 exact ⟨by rw [HVC.out]; rfl, by first | exact bbE.trans hbF | (rw [hsz]; exact bbE.trans hbF)⟩
theorem Read_any (ao : Option Addr) (cap n : Nat) (l : List Int) (w : World) (hn : n = l.length) (hP : 4 ≤ n → Pt.Ok w ⟨ao, cap, l⟩) :
  Calls Tryz.prog 39 #[.slice ao n cap] w fun e w' => e = .returned (readV l) ∧ Below w.heap.size w w' := by
 by_cases h1 : n < 4
 ·exact Read_short ao cap n l w hn h1
 ·have hP := hP (by omega)
  by_cases hf : l.take 3 = kww
  ·by_cases hv1 : l.getD 3 0 = 1
   ·by_cases h2 : n < 88
    ·exact Read_few1 ao cap n l w hn hP (by omega) hf hv1 h2
    ·by_cases h3 : 88 < n
     ·exact Read_many1 ao cap n l w hn hP (by omega) hf hv1 h3
     ·exact Read_full1 ao cap n l w hn hP hf hv1 (by omega)
   ·by_cases hv2 : l.getD 3 0 = 2
    ·by_cases h2 : n < 136
     ·exact Read_few2 ao cap n l w hn hP (by omega) hf hv2 h2
     ·by_cases h3 : 136 < n
      ·exact Read_many2 ao cap n l w hn hP (by omega) hf hv2 h3
      ·exact Read_full2 ao cap n l w hn hP hf hv2 (by omega)
    ·exact Read_version ao cap n l w hn hP (by omega) hf (fun h => h.elim hv1 hv2)
  ·exact Read_form ao cap n l w hn hP (by omega) hf
end Go.Proofs.YtbjmadcbhkeenaaGreat.wr
namespace Go.Proofs.YtbjmadcbhkeenaaGreat.wr
open Go.RowKit st hs shr sh
set_option maxHeartbeats 2000000 in
theorem RefNameOf_any (k : List Int) (hk : k.length = 32) (ok : Octs k) (w : World) :
  Calls Tryz.prog 12 #[.agg (k.map (Value.int .u8)).toArray] w fun e w' => e = .returned (.agg ((nameL k).map (Value.int .u8)).toArray) ∧ Below w.heap.size w w' := by
 obtain ⟨B, HB⟩ : ∃ B, Hid (B = w.heap.size) := ⟨_, rfl⟩
 have hsz : w.heap.size = B := HB.out.symm
 obtain ⟨K, HK⟩ : ∃ K, Hid (K = k.map (Value.int .u8)) := ⟨_, rfl⟩
 have hKl : K.length = 32 := by rw [HK.out, List.length_map, hk]
 have hK1 : ∀ u ∈ K, u.oneCell' = true := by rw [HK.out]; exact ints_one _ _
 obtain ⟨Y, HY⟩ : ∃ Z, Hid (Z = (List.replicate 16 (0 : Int)).map (Value.int .u8)) := ⟨_, rfl⟩
 have hz16 := hid zeroID
 rw [← HY.out] at hz16
 have hYl : Y.length = 16 := by rw [HY.out]; simp
 obtain ⟨Z, HZ⟩ : ∃ Z, Hid (Z = zSum) := ⟨_, rfl⟩
 have hz32 := hid zeroSumZ
 rw [← HZ.out] at hz32
 have hZl : Z.length = 32 := by rw [HZ.out]; simp [zSum]
 obtain ⟨S, HS⟩ : ∃ S : List Value, Hid (S = (sumL 10 k).map (Value.int .u8)) := ⟨_, rfl⟩
 have hSl : S.length = 32 := by rw [HS.out, List.length_map, sumL_length]
 have hS1 : ∀ u ∈ S, u.oneCell' = true := by rw [HS.out]; exact ints_one _ _
 obtain ⟨N, HN⟩ : ∃ S : List Value, Hid (S = (nameL k).map (Value.int .u8)) := ⟨_, rfl⟩
 have hNl : N.length = 16 := by rw [HN.out, List.length_map, nameL_length]
 have hN1 : ∀ u ∈ N, u.oneCell' = true := by rw [HN.out]; exact ints_one _ _
 have hNS : Hid (N = S.take 16) := hid (by rw [HN.out, HS.out, ← List.map_take]; rfl)
 have hal : Tryz.prog.arrayLen 23 = 32 := by kernel_rfl
 have halS : Tryz.prog.arrayLen 54 = 32 := by kernel_rfl
 have halY : Tryz.prog.arrayLen 27 = 16 := by kernel_rfl
 have HKK := hid hk
 have hsum := fun (y : World) (hP : Pt.Ok y ⟨some ⟨B, 0, none⟩, 32, k⟩) => hid (sumR 10 oct10 (some ⟨B, 0, none⟩) 32 32 k y HKK.out.symm hP (fun h => by cases h) (by omega))
 rw [← HS.out] at hsum
 rw [← HK.out, ← HN.out]
 clear hk
 go_enter Tryz.func12, Tryz.ntmps12
 go_wp2_with (first | (refine wl_storeV rfl 54 _ _ rfl 54 g5 rfl S rfl 32 aggSumT hSl Z hE4 hZl hS1 ?_; intro w5 hE5 hb5 hs5; have hR5 := hR4.below hb5 (by omega); have bb5 := bb4.trans (hb5.mono (by omega : B ≤ _)); clear hR4 bb4 hb5 hE4) | (refine wl_allocV rfl 54 rfl Z hz32.out w3.heap.size rfl ?_; intro w4 hE4 hb4 hs4; obtain ⟨g5, HG5⟩ : ∃ g, Hid (g = w3.heap.size) := ⟨_, rfl⟩; rw [← HG5.out] at hE4 hb4 hs4; rw [← HG5.out]; have hg5 : B + 2 ≤ g5 := (by rw [HG5.out]; exact hs3); have hR4 := hR3.below hb4 (by omega); have bb4 := bb3.trans (hb4.mono (by omega : B ≤ _)); clear hR3 bb3 hb4) | (go_at_call 31; refine (hsum w1 (key_pt HK.out hB1 HKK.out ok)).out.mono ?_; rintro e w3 ⟨rfl, hb3⟩; have hR3 := hR1.below hb3 (by omega); have bb3 := bb1.trans (hb3.mono (by omega : B ≤ _)); have hs3 : B + 2 ≤ w3.heap.size := (by have := hb3.size; omega); clear hR1 bb1 hb3 hB1) | (refine wl_allocV rfl 27 rfl Y hz16.out (B + 1) hs0 ?_; intro w1 hR1 hb1 hs1; have hB1 := hB0.below hb1 (by omega); have bb1 := hb0.trans (hb1.mono (by omega : B ≤ _)); clear hB0 hb0 hb1) | (refine wl_boxV rfl 23 _ rfl K rfl B hsz ?_; intro w0 hB0 hb0 hs0))
 have hfit : 0 + N.length ≤ Y.length := by rw [hNl, hYl]; decide
 have hmin : N.length = Nat.min 16 32 := by rw [hNl]; rfl
 have hat : At w5 ⟨g5, 0, none⟩ N := hE5.at 0 _ fun j u hu => by
  rw [Nat.zero_add]; rw [hNS.out, List.getElem?_take] at hu; split at hu; exact hu; cases hu
 go_region_law (refine step_copy_splice rfl (.tmp 6) (.tmp 7) 25 25 rfl 5 Tryz.underlying25 size5 (some ⟨B + 1, 0, none⟩) (some ⟨g5, 0, none⟩) 16 16 32 32 rfl rfl (B + 1) 0 Y 27 hR5 N hmin (fun _ => ⟨rfl, _, rfl, hat⟩) hfit hN1 (B + 1) w5 ((Below.refl _ _).drew) (Nat.le_refl _) ?_; intro w6 hg6 hb6)
 have hR6 : BlkV 27 w6 (B + 1) N := by
  have h1 := hg6.out
  unfold splice at h1
  rw [List.take_zero, List.nil_append, List.drop_of_length_le (by rw [hNl, hYl]; decide), List.append_nil] at h1
  exact h1
 have bb6 : Below B w w6 := bb5.trans (hb6.mono (by omega))
 clear hR5 hE5 bb5 hg6 hb6 hat hfit hmin
 go_wp2_with (first | (refine wl_load rfl 27 _ rfl ⟨B + 1, 0, none⟩ rfl N (by rw [hNl]; exact aggID) hR6.at0 ?_) | (refine wl_storeV rfl 27 _ _ rfl 27 (B + 1) rfl N rfl 16 aggID hNl N hR6 hNl hN1 ?_; intro w7 hR7 hb7 hs7))
 (try simp only [Exit.inBlock, Exit.then]); refine bodyPost_ret (results_cell rfl _ _ _ _ rfl N (by rw [hNl]; exact aggID) hR7.at0) rfl ?_
 exact ⟨rfl, by rw [← HB.out]; exact bb6.trans (hb7.mono (by omega))⟩
set_option maxHeartbeats 2000000 in
theorem RefTag_any (k : List Int) (hk : k.length = 32) (ok : Octs k) (ao : Option Addr) (cap n : Nat) (l : List Int) (w : World) (hn : n = l.length) (HP : Pt.Ok w ⟨ao, cap, l⟩) (h0 : ao = none → cap = 0) (hm : 32 + n ≤ 2097152) :
  Calls Tryz.prog 60 #[.agg (k.map (Value.int .u8)).toArray, .slice ao n cap] w fun e w' => e = .returned (.agg ((tagL k l).map (Value.int .u8)).toArray) ∧ Below w.heap.size w w' := by
 obtain ⟨B, HB⟩ : ∃ B, Hid (B = w.heap.size) := ⟨_, rfl⟩
 have hsz : w.heap.size = B := HB.out.symm
 obtain ⟨K, HK⟩ : ∃ K, Hid (K = k.map (Value.int .u8)) := ⟨_, rfl⟩
 have hKl : K.length = 32 := by rw [HK.out, List.length_map, hk]
 have hK1 : ∀ u ∈ K, u.oneCell' = true := by rw [HK.out]; exact ints_one _ _
 obtain ⟨Y, HY⟩ : ∃ Z, Hid (Z = (List.replicate 16 (0 : Int)).map (Value.int .u8)) := ⟨_, rfl⟩
 have hz16 := hid zeroTag
 rw [← HY.out] at hz16
 have hYl : Y.length = 16 := by rw [HY.out]; simp
 obtain ⟨Z, HZ⟩ : ∃ Z, Hid (Z = zSum) := ⟨_, rfl⟩
 have hz32 := hid zeroSumZ
 rw [← HZ.out] at hz32
 have hZl : Z.length = 32 := by rw [HZ.out]; simp [zSum]
 obtain ⟨S, HS⟩ : ∃ S : List Value, Hid (S = (sumL 8 (k ++ l)).map (Value.int .u8)) := ⟨_, rfl⟩
 have hSl : S.length = 32 := by rw [HS.out, List.length_map, sumL_length]
 have hS1 : ∀ u ∈ S, u.oneCell' = true := by rw [HS.out]; exact ints_one _ _
 obtain ⟨N, HN⟩ : ∃ S : List Value, Hid (S = (tagL k l).map (Value.int .u8)) := ⟨_, rfl⟩
 have hNl : N.length = 16 := by rw [HN.out, List.length_map, tagL_length]
 have hN1 : ∀ u ∈ N, u.oneCell' = true := by rw [HN.out]; exact ints_one _ _
 have hNS : Hid (N = S.take 16) := hid (by rw [HN.out, HS.out, ← List.map_take]; rfl)
 have hal : Tryz.prog.arrayLen 23 = 32 := by kernel_rfl
 have halS : Tryz.prog.arrayLen 54 = 32 := by kernel_rfl
 have halY : Tryz.prog.arrayLen 55 = 16 := by kernel_rfl
 have HKK := hid hk
 have HNN := hid hn
 have HM : ∀ y, Below B w y → Pt.Ok y ⟨ao, cap, l⟩ := fun y hb => HP.below (hsz ▸ hb)
 have hlen : Hid (32 + n = (k ++ l).length) := hid (by rw [List.length_append, hk, hn])
 have okl : Octs (k ++ l) := octs_app ok HP.oct
 have hsum := fun (y : World) (a : Option Addr) (c : Nat) (hP : Pt.Ok y ⟨a, c, k ++ l⟩) (h : a = none → c = 0 ∧ 32 + n = 0) => hid (sumR 8 oct8 a c (32 + n) (k ++ l) y hlen.out hP h (by omega))
 rw [← HS.out] at hsum
 have hcl := fun (y : World) (hB : BlkV 23 y B K) => hid (cloneB (some ⟨B, 0, none⟩) 32 32 K y (at_row hB.lt hB.at0) (by rw [hKl]) hK1 (fun h => by cases h) (by decide))
 rw [← HK.out, ← HN.out]
 clear hk hn
 go_enter Tryz.func60, Tryz.ntmps60
 go_wp2_with (first | (refine wl_storeV rfl 54 _ _ rfl 54 g5 rfl S rfl 32 aggSumT hSl Z hE4 hZl hS1 ?_; intro w5 hE5 hb5 hs5; have hR5 := hR4.below hb5 (by omega); have bb5 := bb4.trans (hb5.mono (by omega : B ≤ _)); clear hR4 bb4 hb5 hE4) | (refine wl_allocV rfl 54 rfl Z hz32.out w3.heap.size rfl ?_; intro w4 hE4 hb4 hs4; obtain ⟨g5, HG5⟩ : ∃ g, Hid (g = w3.heap.size) := ⟨_, rfl⟩; rw [← HG5.out] at hE4 hb4 hs4; rw [← HG5.out]; have hg5 : B + 2 ≤ g5 := (by rw [HG5.out]; exact hs3); have hR4 := hR3.below hb4 (by omega); have bb4 := bb3.trans (hb4.mono (by omega : B ≤ _)); clear hR3 bb3 hb4) | (go_at_call 31; refine (hsum wb aob cb hPb hnob).out.mono ?_; rintro e w3 ⟨rfl, hb3⟩; have hR3 := hRb.below hb3 hRb.lt; have bb3 := bbb.trans (hb3.mono hbbs); have hs3 : B + 2 ≤ w3.heap.size := Nat.le_trans (by have := hRb.lt; omega) hb3.size; clear hRb bbb hb3 hPb hnob) | (at_builtin; refine wl_appendS rfl _ _ 25 rfl 5 (.int .u8 0) 1 1 Tryz.underlying25 info8 rfl (by decide) (B + 2) v 32 K rfl hM2 ao n cap rfl h0 (l.map (Value.int .u8)) (by rw [List.length_map, HNN.out]; omega) (RowI.v (HM _ bb2).row) (ints_one _ _) (by unfold maxLen; omega) (by omega) hs2 (32 + n) (by omega) ?_; intro aob cb wb rowb hcb hMb hvb hgb hrowb; have hRb := hR2.grown hgb (by intro h; have := (hrowb _ h).1; omega); have bbb : Below B w wb := bb2.grown hgb (by omega) (fun k hk => by have := (hrowb k hk).1; omega); have hbbs : B ≤ wb.heap.size := (by have := hRb.lt; omega); have hPP := mine_pt (l := k ++ l) (by rw [List.map_append, ← HK.out]; exact hMb) hlen.out (by omega) okl; have hPb := hPP.1; have hnob := hPP.2; clear hPP; clear hR2 bb2 hMb hvb hgb hrowb hM2) | (go_at_call 56; refine (hcl w1 hB1).out.mono ?_; rintro e w2 ⟨v, rfl, hM2', hb2⟩; have hM2 := hM2'.mono (by omega : B + 2 ≤ _); have hR2 := hR1.below hb2 (by omega); have bb2 := bb1.trans (hb2.mono (by omega : B ≤ _)); have hs2 : B + 2 ≤ w2.heap.size := (by have := hb2.size; omega); clear hR1 bb1 hb2 hB1 hM2') | (refine wl_allocV rfl 55 rfl Y hz16.out (B + 1) hs0 ?_; intro w1 hR1 hb1 hs1; have hB1 := hB0.below hb1 (by omega); have bb1 := hb0.trans (hb1.mono (by omega : B ≤ _)); clear hB0 hb0 hb1) | (refine wl_boxV rfl 23 _ rfl K rfl B hsz ?_; intro w0 hB0 hb0 hs0))
 have hfit : 0 + N.length ≤ Y.length := by rw [hNl, hYl]; decide
 have hmin : N.length = Nat.min 16 32 := by rw [hNl]; rfl
 have hat : At w5 ⟨g5, 0, none⟩ N := hE5.at 0 _ fun j u hu => by
  rw [Nat.zero_add]; rw [hNS.out, List.getElem?_take] at hu; split at hu; exact hu; cases hu
 go_region_law (refine step_copy_splice rfl (.tmp 11) (.tmp 12) 25 25 rfl 5 Tryz.underlying25 size5 (some ⟨B + 1, 0, none⟩) (some ⟨g5, 0, none⟩) 16 16 32 32 rfl rfl (B + 1) 0 Y 55 hR5 N hmin (fun _ => ⟨rfl, _, rfl, hat⟩) hfit hN1 (B + 1) w5 ((Below.refl _ _).drew) (Nat.le_refl _) ?_; intro w6 hg6 hb6)
 have hR6 : BlkV 55 w6 (B + 1) N := by
  have h1 := hg6.out
  unfold splice at h1
  rw [List.take_zero, List.nil_append, List.drop_of_length_le (by rw [hNl, hYl]; decide), List.append_nil] at h1
  exact h1
 have bb6 : Below B w w6 := bb5.trans (hb6.mono (by omega))
 clear hR5 hE5 bb5 hg6 hb6 hat hfit hmin
 go_wp2_with (first | (refine wl_load rfl 55 _ rfl ⟨B + 1, 0, none⟩ rfl N (by rw [hNl]; exact aggTag) hR6.at0 ?_) | (refine wl_storeV rfl 55 _ _ rfl 55 (B + 1) rfl N rfl 16 aggTag hNl N hR6 hNl hN1 ?_; intro w7 hR7 hb7 hs7))
 (try simp only [Exit.inBlock, Exit.then]); refine bodyPost_ret (results_cell rfl _ _ _ _ rfl N (by rw [hNl]; exact aggTag) hR7.at0) rfl ?_
 exact ⟨rfl, by rw [← HB.out]; exact bb6.trans (hb7.mono (by omega))⟩
end Go.Proofs.YtbjmadcbhkeenaaGreat.wr
