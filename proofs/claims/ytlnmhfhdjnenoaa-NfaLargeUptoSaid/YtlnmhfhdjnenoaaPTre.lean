/- The document's trees: a list of nodes, each behind its parts; Size, below. -/
import Derived.Test.YtlnmhfhdjnenoaaPTxt
import Derived.Test.YtlnmhfhdjnenoaaVHeldG
set_option linter.unusedVariables false
set_option linter.unusedSimpArgs false
set_option maxRecDepth 100000
namespace Go.Proofs.Ytlnmhfhdjnenoaa
open Go.VC
structure RnM where
  op : Int
  set : BitVec 256
  l : Int
  r : Int
  m : Int
  n : Int
def rnCells (op : Value) (bits : List Value) (a b m n : Value) : List Value := [op] ++ (bits ++ [a, b, m, n])
def rnL (d : RnM) : List Value := rnCells (.int .i64 d.op) (bitsL d.set) (.int .i64 d.l) (.int .i64 d.r) (.int .i64 d.m) (.int .i64 d.n)
theorem bitsL_len (x : BitVec 256) : (bitsL x).length = 256 := bitsTo_len _ _
theorem rnL_len (d : RnM) : (rnL d).length = 261 := by
  unfold rnL rnCells
  simp [bitsL_len]
theorem rn_op (d : RnM) : (rnL d)[0]? = some (.int .i64 d.op) := rfl
theorem rn_l (d : RnM) : (rnL d)[257]? = some (.int .i64 d.l) := by
  unfold rnL rnCells
  rw [List.getElem?_append_right (by simp), List.getElem?_append_right (by simp [bitsL_len])]
  simp [bitsL_len]
theorem rn_r (d : RnM) : (rnL d)[258]? = some (.int .i64 d.r) := by
  unfold rnL rnCells
  rw [List.getElem?_append_right (by simp), List.getElem?_append_right (by simp [bitsL_len])]
  simp [bitsL_len]
theorem rn_set (d : RnM) : ∀ (j : Nat) (v : Value), (bitsL d.set)[j]? = some v → (rnL d)[1 + j]? = some v := by
  intro j v h
  have hj : j < 256 := by have := (List.getElem?_eq_some_iff.1 h).1; rwa [bitsL_len] at this
  unfold rnL rnCells
  rw [List.getElem?_append_right (by simp), List.getElem?_append_left (by rw [bitsL_len]; simp; omega)]
  simpa using h
def RnM.Ok (d : RnM) : Prop := inK .i64 d.op ∧ inK .i64 d.l ∧ inK .i64 d.r ∧ inK .i64 d.m ∧ inK .i64 d.n
def tRn : Ty RnM where
  size := 261
  rep _ _ cs d := cs = rnL d ∧ d.Ok
  len h := by rw [h.1]; exact rnL_len _
  frame h _ := h
  mono h _ := h
theorem rn_ones (d : RnM) : (rnL d).all (·.oneCell') = true := by
  unfold rnL rnCells
  rw [List.all_append, List.all_append, bitsL, bits_ones]
  rfl
theorem tRn_ones : tRn.Ones := by
  rintro S H cs d ⟨rfl, -⟩ u hu
  exact List.all_eq_true.1 (rn_ones d) u hu
theorem tRn_free : tRn.Free := fun S S' H H' cs d h => h
/-! ### building nodes -/
def rnZ : List Value := rnCells (.int .i64 0) (List.replicate 256 (.bool false)) (.int .i64 0) (.int .i64 0) (.int .i64 0) (.int .i64 0)
theorem rnZ_len : rnZ.length = 261 := by simp [rnZ, rnCells]
theorem rn_z : (Try.prog.info? 77).bind (·.zero) = some (.agg rnZ.toArray) := by kernel_rfl
theorem bitsL_zero : bitsL 0#256 = List.replicate 256 (.bool false) := by
  apply List.ext_getElem?
  intro i
  by_cases hi : i < 256
  · rw [bitsL_get _ hi, List.getElem?_replicate, if_pos hi]; simp
  · rw [List.getElem?_eq_none (by rw [bitsL_len]; omega), List.getElem?_eq_none (by simp; omega)]
section
variable {op op' a a' b b' m n : Value} {bits bits' : List Value}
theorem rs_op : splice (rnCells op bits a b m n) 0 [op'] = rnCells op' bits a b m n := rfl
theorem rs_set (h : bits.length = 256) (h' : bits'.length = 256) : splice (rnCells op bits a b m n) 1 bits' = rnCells op bits' a b m n := by
  unfold splice rnCells
  rw [show ([op] ++ (bits ++ [a, b, m, n])).take 1 = [op] from rfl, h', show 1 + 256 = 256 + 1 by omega, show ([op] ++ (bits ++ [a, b, m, n])).drop (256 + 1) = (bits ++ [a, b, m, n]).drop 256 from rfl, List.drop_left' h, List.append_assoc]
theorem rs_l (h : bits.length = 256) : splice (rnCells op bits a b m n) 257 [a'] = rnCells op bits a' b m n := by
  unfold splice rnCells
  have e1 : ([op] ++ (bits ++ [a, b, m, n])).take 257 = [op] ++ bits := by
    rw [show ([op] ++ (bits ++ [a, b, m, n])).take (256 + 1) = op :: (bits ++ [a, b, m, n]).take 256 from rfl, List.take_left' h]; rfl
  have e2 : ([op] ++ (bits ++ [a, b, m, n])).drop (257 + 1) = [b, m, n] := by
    rw [show ([op] ++ (bits ++ [a, b, m, n])).drop (257 + 1) = (bits ++ [a, b, m, n]).drop 257 from rfl, show (257 : Nat) = bits.length + 1 by omega, List.drop_length_add_append]; rfl
  rw [e1, show 257 + [a'].length = 257 + 1 from rfl, e2]
  simp
theorem rs_r (h : bits.length = 256) : splice (rnCells op bits a b m n) 258 [b'] = rnCells op bits a b' m n := by
  unfold splice rnCells
  have e1 : ([op] ++ (bits ++ [a, b, m, n])).take 258 = [op] ++ (bits ++ [a]) := by
    rw [show ([op] ++ (bits ++ [a, b, m, n])).take (257 + 1) = op :: (bits ++ [a, b, m, n]).take 257 from rfl, show (257 : Nat) = bits.length + 1 by omega, List.take_length_add_append]; rfl
  have e2 : ([op] ++ (bits ++ [a, b, m, n])).drop (258 + 1) = [m, n] := by
    rw [show ([op] ++ (bits ++ [a, b, m, n])).drop (258 + 1) = (bits ++ [a, b, m, n]).drop 258 from rfl, show (258 : Nat) = bits.length + 2 by omega, List.drop_length_add_append]; rfl
  rw [e1, show 258 + [b'].length = 258 + 1 from rfl, e2]
  simp
theorem rnCells_len (h : bits.length = 256) : (rnCells op bits a b m n).length = 261 := by unfold rnCells; simp [h]
end
theorem rn_build0 (x : Int) {S : Nat → Prop} {H : Heap} {K : Value → Prop} (k : K (.agg (rnL ⟨x, 0#256, 0, 0, 0, 0⟩).toArray)) :
    VDet Try.prog (Instr.build 77 [(0, .int .i64 x)].toArray) S H K := by
  refine vbuildS Try.underlying77 rfl (.agg rnZ.toArray) rn_z (rnL ⟨x, 0#256, 0, 0, 0, 0⟩) ?_ k
  unfold rnL
  rw [show (RnM.mk x 0#256 0 0 0 0).set = 0#256 from rfl, bitsL_zero]
  refine (fill_cons (i := 0) (off := 0) (size := 1) (by kernel_rfl) rfl (by show _ ≤ rnZ.toArray.size; rw [List.size_toArray, rnZ_len]; decide)).trans ?_
  rfl
theorem rn_build1 (x : Int) (s : BitVec 256) {S : Nat → Prop} {H : Heap} {K : Value → Prop} (k : K (.agg (rnL ⟨x, s, 0, 0, 0, 0⟩).toArray)) :
    VDet Try.prog (Instr.build 77 [(0, .int .i64 x), (1, .agg (bitsL s).toArray)].toArray) S H K := by
  refine vbuildS Try.underlying77 rfl (.agg rnZ.toArray) rn_z (rnL ⟨x, s, 0, 0, 0, 0⟩) ?_ k
  have hr : (List.replicate 256 (Value.bool false)).length = 256 := List.length_replicate
  refine (fill_cons (i := 0) (off := 0) (size := 1) (by kernel_rfl) rfl (by show _ ≤ rnZ.toArray.size; rw [List.size_toArray, rnZ_len]; decide)).trans ?_
  have e0 : splice (Value.agg rnZ.toArray).cells.toList 0 (Value.int .i64 x).cells.toList = rnCells (.int .i64 x) (List.replicate 256 (.bool false)) (.int .i64 0) (.int .i64 0) (.int .i64 0) (.int .i64 0) := rs_op
  rw [e0]
  have ec : (Value.agg (bitsL s).toArray).cells = (bitsL s).toArray := rfl
  refine (fill_cons (i := 1) (off := 1) (size := 256) (by kernel_rfl) (by rw [ec, List.size_toArray, bitsL_len]) (by rw [List.size_toArray, rnCells_len hr]; decide)).trans ?_
  rw [ec, List.toList_toArray, List.toList_toArray, rs_set hr (bitsL_len s)]
  rfl
theorem rn_build2 (x y z : Int) {S : Nat → Prop} {H : Heap} {K : Value → Prop} (k : K (.agg (rnL ⟨x, 0#256, y, z, 0, 0⟩).toArray)) :
    VDet Try.prog (Instr.build 77 [(0, .int .i64 x), (2, .int .i64 y), (3, .int .i64 z)].toArray) S H K := by
  refine vbuildS Try.underlying77 rfl (.agg rnZ.toArray) rn_z (rnL ⟨x, 0#256, y, z, 0, 0⟩) ?_ k
  have hr : (List.replicate 256 (Value.bool false)).length = 256 := List.length_replicate
  refine (fill_cons (i := 0) (off := 0) (size := 1) (by kernel_rfl) rfl (by show _ ≤ rnZ.toArray.size; rw [List.size_toArray, rnZ_len]; decide)).trans ?_
  have e0 : splice (Value.agg rnZ.toArray).cells.toList 0 (Value.int .i64 x).cells.toList = rnCells (.int .i64 x) (List.replicate 256 (.bool false)) (.int .i64 0) (.int .i64 0) (.int .i64 0) (.int .i64 0) := rs_op
  rw [e0]
  refine (fill_cons (i := 2) (off := 257) (size := 1) (by kernel_rfl) rfl (by rw [List.size_toArray, rnCells_len hr]; decide)).trans ?_
  rw [List.toList_toArray, show (Value.int IntKind.i64 y).cells.toList = [Value.int .i64 y] from rfl, rs_l hr]
  refine (fill_cons (i := 3) (off := 258) (size := 1) (by kernel_rfl) rfl (by rw [List.size_toArray, rnCells_len hr]; decide)).trans ?_
  rw [List.toList_toArray, show (Value.int IntKind.i64 z).cells.toList = [Value.int .i64 z] from rfl, rs_r hr]
  unfold rnL
  rw [show (RnM.mk x 0#256 y z 0 0).set = 0#256 from rfl, bitsL_zero]
  rfl
/-! ### trees -/
def TreeAt (ns : List RnM) : ReM → Nat → Prop
  | .eps, i => ∃ d, ns[i]? = some d ∧ d.op = 0
  | .cls s, i => ∃ d, ns[i]? = some d ∧ d.op = 1 ∧ d.set = s
  | .cat a b, i => ∃ d j k : _, ns[i]? = some d ∧ d.op = 2 ∧ d.l = ((j : Nat) : Int) ∧ d.r = ((k : Nat) : Int) ∧ TreeAt ns a j ∧ TreeAt ns b k
  | .alt a b, i => ∃ d j k : _, ns[i]? = some d ∧ d.op = 3 ∧ d.l = ((j : Nat) : Int) ∧ d.r = ((k : Nat) : Int) ∧ TreeAt ns a j ∧ TreeAt ns b k
  | .star a, i => ∃ d j : _, ns[i]? = some d ∧ d.op = 4 ∧ d.l = ((j : Nat) : Int) ∧ TreeAt ns a j
  | .and_ a b, i => ∃ d j k : _, ns[i]? = some d ∧ d.op = 5 ∧ d.l = ((j : Nat) : Int) ∧ d.r = ((k : Nat) : Int) ∧ TreeAt ns a j ∧ TreeAt ns b k
  | .minus a b, i => ∃ d j k : _, ns[i]? = some d ∧ d.op = 6 ∧ d.l = ((j : Nat) : Int) ∧ d.r = ((k : Nat) : Int) ∧ TreeAt ns a j ∧ TreeAt ns b k
def opOf : ReM → Int
  | .eps => 0
  | .cls _ => 1
  | .cat _ _ => 2
  | .alt _ _ => 3
  | .star _ => 4
  | .and_ _ _ => 5
  | .minus _ _ => 6
theorem getx {α : Type} {l m : List α} {i : Nat} {x : α} (h : l[i]? = some x) : (l ++ m)[i]? = some x := by
  rw [List.getElem?_append_left (List.getElem?_eq_some_iff.1 h).1]; exact h
theorem TreeAt.more {ns ms : List RnM} : ∀ {r : ReM} {i : Nat}, TreeAt ns r i → TreeAt (ns ++ ms) r i
  | .eps, _, ⟨d, h1, h2⟩ => ⟨d, getx h1, h2⟩
  | .cls _, _, ⟨d, h1, h2⟩ => ⟨d, getx h1, h2⟩
  | .cat a b, _, ⟨d, j, k, h1, h2, h3, h4, h5, h6⟩ => ⟨d, j, k, getx h1, h2, h3, h4, h5.more, h6.more⟩
  | .alt a b, _, ⟨d, j, k, h1, h2, h3, h4, h5, h6⟩ => ⟨d, j, k, getx h1, h2, h3, h4, h5.more, h6.more⟩
  | .star a, _, ⟨d, j, h1, h2, h3, h5⟩ => ⟨d, j, getx h1, h2, h3, h5.more⟩
  | .and_ a b, _, ⟨d, j, k, h1, h2, h3, h4, h5, h6⟩ => ⟨d, j, k, getx h1, h2, h3, h4, h5.more, h6.more⟩
  | .minus a b, _, ⟨d, j, k, h1, h2, h3, h4, h5, h6⟩ => ⟨d, j, k, getx h1, h2, h3, h4, h5.more, h6.more⟩
/-- A tree of the document's, to be read. -/
def reL (v : Value) (root : Int) : List Value := [v, .int .i64 root]
def ReV (S : Nat → Prop) (H : Heap) (v : Value) (ns : List RnM) (root : Int) : Prop := ns.length ≤ 4194304 ∧ ∃ na nc, v = .agg (reL (.slice na ns.length nc) root).toArray ∧ SlD tRn S H na nc ns
section
variable {S S' : Nat → Prop} {H H' : Heap} {v : Value} {ns : List RnM} {root : Int}
theorem ReV.frame (h : ReV S H v ns root) (k : Agr S H H') : ReV S H' v ns root := by
  obtain ⟨h1, na, nc, h2, h3⟩ := h
  exact ⟨h1, na, nc, h2, h3.frame k⟩
theorem ReV.mono (h : ReV S H v ns root) (k : ∀ i, S i → S' i) : ReV S' H v ns root := by
  obtain ⟨h1, na, nc, h2, h3⟩ := h
  exact ⟨h1, na, nc, h2, h3.mono k⟩
theorem re_box {K : Value → Heap → Prop} {t : TypeId} (h : ReV S H v ns root)
    (k : ∀ na nc, v = .agg (reL (.slice na ns.length nc) root).toArray → SlD tRn S H na nc ns → New H (fun b H' => K (.pointer (some ⟨b, 0, none⟩)) H') t (reL (.slice na ns.length nc) root)) : VEff Try.prog (Instr.box t v) H K := by
  obtain ⟨hl, na, nc, rfl, h1⟩ := h
  exact vbox (reL (.slice na ns.length nc) root) rfl (k na nc rfl h1)
theorem re_load {S0 : Nat → Prop} {pb : Nat} {na : Option Addr} {nc : Nat} {K : Value → Prop} {t : TypeId} (hl : ns.length ≤ 4194304) (hb : Blk H pb t (reL (.slice na ns.length nc) root)) (hag : AggT Try.prog t 2) (hS : S0 pb) (h1 : SlD tRn S H na nc ns)
    (k : ∀ v, ReV S H v ns root → K v) : VDet Try.prog (Instr.loadAt t (.pointer (some ⟨pb, 0, none⟩))) S0 H K :=
  ldN (cs := reL (.slice na ns.length nc) root) hag (hb.cells fun j v hv => by rw [Nat.zero_add]; exact hv) hS (k _ ⟨hl, na, nc, rfl, h1⟩)
end
set_option maxHeartbeats 4000000 in
theorem rsize_p : ∀ (r : ReM), r.nodes ≤ 1000000000 → ∀ {S : Nat → Prop} {H : Heap} {v : Value} {ns : List RnM} {root : Int} {i : Nat}, (∀ k, S k → k < H.size) → ReV S H v ns root → TreeAt ns r i →
    Pure Try.prog 41 #[v, .int .i64 (i : Int)] H (.int .i64 (r.nodes : Int)) := fun r => by
  induction r with
  | eps =>
    intro hn S H v ns root i hS hv ht
    obtain ⟨d, hd, hop⟩ := ht
    obtain ⟨hl, na, nc, rfl, h1⟩ := hv
    refine FnOk.of_vc Try.func41 rfl (Try.call41 _) ?_
    (conv => whnf); refine vbox (reL (.slice na ns.length nc) root) rfl ?_
    intro p H1 hp hs1 hb1 ha1
    have st1 := (St.nil H).box hp hs1 hb1 ha1
    (conv => whnf); refine fa fl39_0 ?_
    (conv => whnf); refine ld1 (v := .slice na ns.length nc) ct37 (by rw [(st1.blk 0 rfl).cell]; rfl) trivial ?_
    (conv => whnf); refine ixr (i := i) sl37 (h1.frame (st1.old.mono hS)) hd rfl ?_
    rintro b2 o2 c2 hS2 hc2 ⟨rfl, hok⟩
    (conv => whnf); refine ldN (cs := rnL d) (by rw [rnL_len]; exact ag77) hc2 trivial ?_
    (conv => whnf); refine valloc _ rnZ rn_z rfl ?_
    intro x H3 hx hs3 hb3 ha3
    have st3 := st1.box hx hs3 hb3 ha3
    (conv => whnf); refine stNB (cs := rnL d) st3 1 (by rw [rnL_len]; rfl) rfl (by rw [rnL_len, rnZ_len]; decide) (rn_ones d) fun H4 st4 => ?_
    rw [splice_all (show (rnL d).length = rnZ.length by rw [rnL_len, rnZ_len])] at st4
    have hb4 := st4.blk 1 rfl
    have hp4 := st4.blk 0 rfl
    have hxl := hb4.lt
    have hpl := hp4.lt
    (conv => whnf); refine fa fl77_0 ?_
    (conv => whnf); refine ld1 (v := .int .i64 d.op) ct3 (by rw [hb4.cell]; exact rn_op d) trivial ?_
    (conv => whnf); rw [hop]
    (conv => whnf)
    exact ⟨rfl, st4.old⟩
  | cls s =>
    intro hn S H v ns root i hS hv ht
    obtain ⟨d, hd, hop, hset⟩ := ht
    obtain ⟨hl, na, nc, rfl, h1⟩ := hv
    refine FnOk.of_vc Try.func41 rfl (Try.call41 _) ?_
    (conv => whnf); refine vbox (reL (.slice na ns.length nc) root) rfl ?_
    intro p H1 hp hs1 hb1 ha1
    have st1 := (St.nil H).box hp hs1 hb1 ha1
    (conv => whnf); refine fa fl39_0 ?_
    (conv => whnf); refine ld1 (v := .slice na ns.length nc) ct37 (by rw [(st1.blk 0 rfl).cell]; rfl) trivial ?_
    (conv => whnf); refine ixr (i := i) sl37 (h1.frame (st1.old.mono hS)) hd rfl ?_
    rintro b2 o2 c2 hS2 hc2 ⟨rfl, hok⟩
    (conv => whnf); refine ldN (cs := rnL d) (by rw [rnL_len]; exact ag77) hc2 trivial ?_
    (conv => whnf); refine valloc _ rnZ rn_z rfl ?_
    intro x H3 hx hs3 hb3 ha3
    have st3 := st1.box hx hs3 hb3 ha3
    (conv => whnf); refine stNB (cs := rnL d) st3 1 (by rw [rnL_len]; rfl) rfl (by rw [rnL_len, rnZ_len]; decide) (rn_ones d) fun H4 st4 => ?_
    rw [splice_all (show (rnL d).length = rnZ.length by rw [rnL_len, rnZ_len])] at st4
    have hb4 := st4.blk 1 rfl
    have hp4 := st4.blk 0 rfl
    have hxl := hb4.lt
    have hpl := hp4.lt
    (conv => whnf); refine fa fl77_0 ?_
    (conv => whnf); refine ld1 (v := .int .i64 d.op) ct3 (by rw [hb4.cell]; exact rn_op d) trivial ?_
    (conv => whnf); rw [hop]
    (conv => whnf)
    exact ⟨rfl, st4.old⟩
  | cat a b iha ihb =>
    intro hn S H v ns root i hS hv ht
    simp only [ReM.nodes] at hn
    obtain ⟨d, j, k, hd, hop, hl1, hl2, hta, htb⟩ := ht
    obtain ⟨hl, na, nc, rfl, h1⟩ := hv
    refine FnOk.of_vc Try.func41 rfl (Try.call41 _) ?_
    (conv => whnf); refine vbox (reL (.slice na ns.length nc) root) rfl ?_
    intro p H1 hp hs1 hb1 ha1
    have st1 := (St.nil H).box hp hs1 hb1 ha1
    (conv => whnf); refine fa fl39_0 ?_
    (conv => whnf); refine ld1 (v := .slice na ns.length nc) ct37 (by rw [(st1.blk 0 rfl).cell]; rfl) trivial ?_
    (conv => whnf); refine ixr (i := i) sl37 (h1.frame (st1.old.mono hS)) hd rfl ?_
    rintro b2 o2 c2 hS2 hc2 ⟨rfl, hok⟩
    (conv => whnf); refine ldN (cs := rnL d) (by rw [rnL_len]; exact ag77) hc2 trivial ?_
    (conv => whnf); refine valloc _ rnZ rn_z rfl ?_
    intro x H3 hx hs3 hb3 ha3
    have st3 := st1.box hx hs3 hb3 ha3
    (conv => whnf); refine stNB (cs := rnL d) st3 1 (by rw [rnL_len]; rfl) rfl (by rw [rnL_len, rnZ_len]; decide) (rn_ones d) fun H4 st4 => ?_
    rw [splice_all (show (rnL d).length = rnZ.length by rw [rnL_len, rnZ_len])] at st4
    have hb4 := st4.blk 1 rfl
    have hp4 := st4.blk 0 rfl
    have hxl := hb4.lt
    have hpl := hp4.lt
    (conv => whnf); refine fa fl77_0 ?_
    (conv => whnf); refine ld1 (v := .int .i64 d.op) ct3 (by rw [hb4.cell]; exact rn_op d) trivial ?_
    (conv => whnf); rw [hop]
    (conv => whnf); refine fa fl77_0 ?_
    (conv => whnf); refine ld1 (v := .int .i64 d.op) ct3 (by rw [hb4.cell]; exact rn_op d) trivial ?_
    (conv => whnf); rw [hop]
    (conv => whnf); refine VDraw.heldZ (Old H4) [] (sq [0,1,2,5,6,7] (.f 3 (sq [4] (.f 8 (sq [9] (.f 10 .e)))))) rfl (by kernel_rfl) ?_
    (conv => whnf); refine re_load hl hp4 ag39 hpl (h1.frame (st4.old.mono hS)) fun v5 hv5 => ?_
    (conv => whnf); refine fa fl77_2 ?_
    (conv => whnf); refine ld1 (v := .int .i64 d.l) ct3 (by rw [hb4.cell, Nat.zero_add]; exact rn_l d) hxl ?_
    (conv => whnf); rw [hl1]
    (conv => whnf); refine re_load hl hp4 ag39 hpl (h1.frame (st4.old.mono hS)) fun v6 hv6 => ?_
    (conv => whnf); refine fa fl77_3 ?_
    (conv => whnf); refine ld1 (v := .int .i64 d.r) ct3 (by rw [hb4.cell, Nat.zero_add]; exact rn_r d) hxl ?_
    (conv => whnf); rw [hl2]
    (conv => whnf); refine pures (iha (by omega) (fun k hk => st4.up (hS k hk)) hv5 hta) fun H5 ha5 => ?_
    have st5 := st4.call ha5
    refine ⟨ha5, ?_⟩
    (conv => whnf); rw [w64 (x := 1 + (a.nodes : Int)) (by omega) (by omega)]
    (conv => whnf); refine pures (ihb (by omega) (fun k hk => st5.up (hS k hk)) (hv6.frame (ha5.mono fun k hk => st4.up (hS k hk))) htb) fun H6 ha6 => ?_
    have st6 := st5.call ha6
    have g6 : Agr (Old H4) H4 H6 := ha5.trans (ha6.mono fun k hk => old_lt ha5 hk)
    refine ⟨g6, ?_⟩
    (conv => whnf); rw [w64 (x := 1 + (a.nodes : Int) + (b.nodes : Int)) (by omega) (by omega)]
    refine ⟨g6, ?_⟩
    (conv => whnf)
    exact ⟨by simp only [ReM.nodes]; simp, st6.old⟩
  | alt a b iha ihb =>
    intro hn S H v ns root i hS hv ht
    simp only [ReM.nodes] at hn
    obtain ⟨d, j, k, hd, hop, hl1, hl2, hta, htb⟩ := ht
    obtain ⟨hl, na, nc, rfl, h1⟩ := hv
    refine FnOk.of_vc Try.func41 rfl (Try.call41 _) ?_
    (conv => whnf); refine vbox (reL (.slice na ns.length nc) root) rfl ?_
    intro p H1 hp hs1 hb1 ha1
    have st1 := (St.nil H).box hp hs1 hb1 ha1
    (conv => whnf); refine fa fl39_0 ?_
    (conv => whnf); refine ld1 (v := .slice na ns.length nc) ct37 (by rw [(st1.blk 0 rfl).cell]; rfl) trivial ?_
    (conv => whnf); refine ixr (i := i) sl37 (h1.frame (st1.old.mono hS)) hd rfl ?_
    rintro b2 o2 c2 hS2 hc2 ⟨rfl, hok⟩
    (conv => whnf); refine ldN (cs := rnL d) (by rw [rnL_len]; exact ag77) hc2 trivial ?_
    (conv => whnf); refine valloc _ rnZ rn_z rfl ?_
    intro x H3 hx hs3 hb3 ha3
    have st3 := st1.box hx hs3 hb3 ha3
    (conv => whnf); refine stNB (cs := rnL d) st3 1 (by rw [rnL_len]; rfl) rfl (by rw [rnL_len, rnZ_len]; decide) (rn_ones d) fun H4 st4 => ?_
    rw [splice_all (show (rnL d).length = rnZ.length by rw [rnL_len, rnZ_len])] at st4
    have hb4 := st4.blk 1 rfl
    have hp4 := st4.blk 0 rfl
    have hxl := hb4.lt
    have hpl := hp4.lt
    (conv => whnf); refine fa fl77_0 ?_
    (conv => whnf); refine ld1 (v := .int .i64 d.op) ct3 (by rw [hb4.cell]; exact rn_op d) trivial ?_
    (conv => whnf); rw [hop]
    (conv => whnf); refine fa fl77_0 ?_
    (conv => whnf); refine ld1 (v := .int .i64 d.op) ct3 (by rw [hb4.cell]; exact rn_op d) trivial ?_
    (conv => whnf); rw [hop]
    (conv => whnf); refine VDraw.heldZ (Old H4) [] (sq [0,1,2,5,6,7] (.f 3 (sq [4] (.f 8 (sq [9] (.f 10 .e)))))) rfl (by kernel_rfl) ?_
    (conv => whnf); refine re_load hl hp4 ag39 hpl (h1.frame (st4.old.mono hS)) fun v5 hv5 => ?_
    (conv => whnf); refine fa fl77_2 ?_
    (conv => whnf); refine ld1 (v := .int .i64 d.l) ct3 (by rw [hb4.cell, Nat.zero_add]; exact rn_l d) hxl ?_
    (conv => whnf); rw [hl1]
    (conv => whnf); refine re_load hl hp4 ag39 hpl (h1.frame (st4.old.mono hS)) fun v6 hv6 => ?_
    (conv => whnf); refine fa fl77_3 ?_
    (conv => whnf); refine ld1 (v := .int .i64 d.r) ct3 (by rw [hb4.cell, Nat.zero_add]; exact rn_r d) hxl ?_
    (conv => whnf); rw [hl2]
    (conv => whnf); refine pures (iha (by omega) (fun k hk => st4.up (hS k hk)) hv5 hta) fun H5 ha5 => ?_
    have st5 := st4.call ha5
    refine ⟨ha5, ?_⟩
    (conv => whnf); rw [w64 (x := 1 + (a.nodes : Int)) (by omega) (by omega)]
    (conv => whnf); refine pures (ihb (by omega) (fun k hk => st5.up (hS k hk)) (hv6.frame (ha5.mono fun k hk => st4.up (hS k hk))) htb) fun H6 ha6 => ?_
    have st6 := st5.call ha6
    have g6 : Agr (Old H4) H4 H6 := ha5.trans (ha6.mono fun k hk => old_lt ha5 hk)
    refine ⟨g6, ?_⟩
    (conv => whnf); rw [w64 (x := 1 + (a.nodes : Int) + (b.nodes : Int)) (by omega) (by omega)]
    refine ⟨g6, ?_⟩
    (conv => whnf)
    exact ⟨by simp only [ReM.nodes]; simp, st6.old⟩
  | and_ a b iha ihb =>
    intro hn S H v ns root i hS hv ht
    simp only [ReM.nodes] at hn
    obtain ⟨d, j, k, hd, hop, hl1, hl2, hta, htb⟩ := ht
    obtain ⟨hl, na, nc, rfl, h1⟩ := hv
    refine FnOk.of_vc Try.func41 rfl (Try.call41 _) ?_
    (conv => whnf); refine vbox (reL (.slice na ns.length nc) root) rfl ?_
    intro p H1 hp hs1 hb1 ha1
    have st1 := (St.nil H).box hp hs1 hb1 ha1
    (conv => whnf); refine fa fl39_0 ?_
    (conv => whnf); refine ld1 (v := .slice na ns.length nc) ct37 (by rw [(st1.blk 0 rfl).cell]; rfl) trivial ?_
    (conv => whnf); refine ixr (i := i) sl37 (h1.frame (st1.old.mono hS)) hd rfl ?_
    rintro b2 o2 c2 hS2 hc2 ⟨rfl, hok⟩
    (conv => whnf); refine ldN (cs := rnL d) (by rw [rnL_len]; exact ag77) hc2 trivial ?_
    (conv => whnf); refine valloc _ rnZ rn_z rfl ?_
    intro x H3 hx hs3 hb3 ha3
    have st3 := st1.box hx hs3 hb3 ha3
    (conv => whnf); refine stNB (cs := rnL d) st3 1 (by rw [rnL_len]; rfl) rfl (by rw [rnL_len, rnZ_len]; decide) (rn_ones d) fun H4 st4 => ?_
    rw [splice_all (show (rnL d).length = rnZ.length by rw [rnL_len, rnZ_len])] at st4
    have hb4 := st4.blk 1 rfl
    have hp4 := st4.blk 0 rfl
    have hxl := hb4.lt
    have hpl := hp4.lt
    (conv => whnf); refine fa fl77_0 ?_
    (conv => whnf); refine ld1 (v := .int .i64 d.op) ct3 (by rw [hb4.cell]; exact rn_op d) trivial ?_
    (conv => whnf); rw [hop]
    (conv => whnf); refine fa fl77_0 ?_
    (conv => whnf); refine ld1 (v := .int .i64 d.op) ct3 (by rw [hb4.cell]; exact rn_op d) trivial ?_
    (conv => whnf); rw [hop]
    (conv => whnf); refine VDraw.heldZ (Old H4) [] (sq [0,1,2,5,6,7] (.f 3 (sq [4] (.f 8 (sq [9] (.f 10 .e)))))) rfl (by kernel_rfl) ?_
    (conv => whnf); refine re_load hl hp4 ag39 hpl (h1.frame (st4.old.mono hS)) fun v5 hv5 => ?_
    (conv => whnf); refine fa fl77_2 ?_
    (conv => whnf); refine ld1 (v := .int .i64 d.l) ct3 (by rw [hb4.cell, Nat.zero_add]; exact rn_l d) hxl ?_
    (conv => whnf); rw [hl1]
    (conv => whnf); refine re_load hl hp4 ag39 hpl (h1.frame (st4.old.mono hS)) fun v6 hv6 => ?_
    (conv => whnf); refine fa fl77_3 ?_
    (conv => whnf); refine ld1 (v := .int .i64 d.r) ct3 (by rw [hb4.cell, Nat.zero_add]; exact rn_r d) hxl ?_
    (conv => whnf); rw [hl2]
    (conv => whnf); refine pures (iha (by omega) (fun k hk => st4.up (hS k hk)) hv5 hta) fun H5 ha5 => ?_
    have st5 := st4.call ha5
    refine ⟨ha5, ?_⟩
    (conv => whnf); rw [w64 (x := 1 + (a.nodes : Int)) (by omega) (by omega)]
    (conv => whnf); refine pures (ihb (by omega) (fun k hk => st5.up (hS k hk)) (hv6.frame (ha5.mono fun k hk => st4.up (hS k hk))) htb) fun H6 ha6 => ?_
    have st6 := st5.call ha6
    have g6 : Agr (Old H4) H4 H6 := ha5.trans (ha6.mono fun k hk => old_lt ha5 hk)
    refine ⟨g6, ?_⟩
    (conv => whnf); rw [w64 (x := 1 + (a.nodes : Int) + (b.nodes : Int)) (by omega) (by omega)]
    refine ⟨g6, ?_⟩
    (conv => whnf)
    exact ⟨by simp only [ReM.nodes]; simp, st6.old⟩
  | minus a b iha ihb =>
    intro hn S H v ns root i hS hv ht
    simp only [ReM.nodes] at hn
    obtain ⟨d, j, k, hd, hop, hl1, hl2, hta, htb⟩ := ht
    obtain ⟨hl, na, nc, rfl, h1⟩ := hv
    refine FnOk.of_vc Try.func41 rfl (Try.call41 _) ?_
    (conv => whnf); refine vbox (reL (.slice na ns.length nc) root) rfl ?_
    intro p H1 hp hs1 hb1 ha1
    have st1 := (St.nil H).box hp hs1 hb1 ha1
    (conv => whnf); refine fa fl39_0 ?_
    (conv => whnf); refine ld1 (v := .slice na ns.length nc) ct37 (by rw [(st1.blk 0 rfl).cell]; rfl) trivial ?_
    (conv => whnf); refine ixr (i := i) sl37 (h1.frame (st1.old.mono hS)) hd rfl ?_
    rintro b2 o2 c2 hS2 hc2 ⟨rfl, hok⟩
    (conv => whnf); refine ldN (cs := rnL d) (by rw [rnL_len]; exact ag77) hc2 trivial ?_
    (conv => whnf); refine valloc _ rnZ rn_z rfl ?_
    intro x H3 hx hs3 hb3 ha3
    have st3 := st1.box hx hs3 hb3 ha3
    (conv => whnf); refine stNB (cs := rnL d) st3 1 (by rw [rnL_len]; rfl) rfl (by rw [rnL_len, rnZ_len]; decide) (rn_ones d) fun H4 st4 => ?_
    rw [splice_all (show (rnL d).length = rnZ.length by rw [rnL_len, rnZ_len])] at st4
    have hb4 := st4.blk 1 rfl
    have hp4 := st4.blk 0 rfl
    have hxl := hb4.lt
    have hpl := hp4.lt
    (conv => whnf); refine fa fl77_0 ?_
    (conv => whnf); refine ld1 (v := .int .i64 d.op) ct3 (by rw [hb4.cell]; exact rn_op d) trivial ?_
    (conv => whnf); rw [hop]
    (conv => whnf); refine fa fl77_0 ?_
    (conv => whnf); refine ld1 (v := .int .i64 d.op) ct3 (by rw [hb4.cell]; exact rn_op d) trivial ?_
    (conv => whnf); rw [hop]
    (conv => whnf); refine VDraw.heldZ (Old H4) [] (sq [0,1,2,5,6,7] (.f 3 (sq [4] (.f 8 (sq [9] (.f 10 .e)))))) rfl (by kernel_rfl) ?_
    (conv => whnf); refine re_load hl hp4 ag39 hpl (h1.frame (st4.old.mono hS)) fun v5 hv5 => ?_
    (conv => whnf); refine fa fl77_2 ?_
    (conv => whnf); refine ld1 (v := .int .i64 d.l) ct3 (by rw [hb4.cell, Nat.zero_add]; exact rn_l d) hxl ?_
    (conv => whnf); rw [hl1]
    (conv => whnf); refine re_load hl hp4 ag39 hpl (h1.frame (st4.old.mono hS)) fun v6 hv6 => ?_
    (conv => whnf); refine fa fl77_3 ?_
    (conv => whnf); refine ld1 (v := .int .i64 d.r) ct3 (by rw [hb4.cell, Nat.zero_add]; exact rn_r d) hxl ?_
    (conv => whnf); rw [hl2]
    (conv => whnf); refine pures (iha (by omega) (fun k hk => st4.up (hS k hk)) hv5 hta) fun H5 ha5 => ?_
    have st5 := st4.call ha5
    refine ⟨ha5, ?_⟩
    (conv => whnf); rw [w64 (x := 1 + (a.nodes : Int)) (by omega) (by omega)]
    (conv => whnf); refine pures (ihb (by omega) (fun k hk => st5.up (hS k hk)) (hv6.frame (ha5.mono fun k hk => st4.up (hS k hk))) htb) fun H6 ha6 => ?_
    have st6 := st5.call ha6
    have g6 : Agr (Old H4) H4 H6 := ha5.trans (ha6.mono fun k hk => old_lt ha5 hk)
    refine ⟨g6, ?_⟩
    (conv => whnf); rw [w64 (x := 1 + (a.nodes : Int) + (b.nodes : Int)) (by omega) (by omega)]
    refine ⟨g6, ?_⟩
    (conv => whnf)
    exact ⟨by simp only [ReM.nodes]; simp, st6.old⟩
  | star a iha =>
    intro hn S H v ns root i hS hv ht
    simp only [ReM.nodes] at hn
    obtain ⟨d, j, hd, hop, hl1, hta⟩ := ht
    obtain ⟨hl, na, nc, rfl, h1⟩ := hv
    refine FnOk.of_vc Try.func41 rfl (Try.call41 _) ?_
    (conv => whnf); refine vbox (reL (.slice na ns.length nc) root) rfl ?_
    intro p H1 hp hs1 hb1 ha1
    have st1 := (St.nil H).box hp hs1 hb1 ha1
    (conv => whnf); refine fa fl39_0 ?_
    (conv => whnf); refine ld1 (v := .slice na ns.length nc) ct37 (by rw [(st1.blk 0 rfl).cell]; rfl) trivial ?_
    (conv => whnf); refine ixr (i := i) sl37 (h1.frame (st1.old.mono hS)) hd rfl ?_
    rintro b2 o2 c2 hS2 hc2 ⟨rfl, hok⟩
    (conv => whnf); refine ldN (cs := rnL d) (by rw [rnL_len]; exact ag77) hc2 trivial ?_
    (conv => whnf); refine valloc _ rnZ rn_z rfl ?_
    intro x H3 hx hs3 hb3 ha3
    have st3 := st1.box hx hs3 hb3 ha3
    (conv => whnf); refine stNB (cs := rnL d) st3 1 (by rw [rnL_len]; rfl) rfl (by rw [rnL_len, rnZ_len]; decide) (rn_ones d) fun H4 st4 => ?_
    rw [splice_all (show (rnL d).length = rnZ.length by rw [rnL_len, rnZ_len])] at st4
    have hb4 := st4.blk 1 rfl
    have hp4 := st4.blk 0 rfl
    have hxl := hb4.lt
    have hpl := hp4.lt
    (conv => whnf); refine fa fl77_0 ?_
    (conv => whnf); refine ld1 (v := .int .i64 d.op) ct3 (by rw [hb4.cell]; exact rn_op d) trivial ?_
    (conv => whnf); rw [hop]
    (conv => whnf); refine fa fl77_0 ?_
    (conv => whnf); refine ld1 (v := .int .i64 d.op) ct3 (by rw [hb4.cell]; exact rn_op d) trivial ?_
    (conv => whnf); rw [hop]
    (conv => whnf); refine re_load hl hp4 ag39 trivial (h1.frame (st4.old.mono hS)) fun v5 hv5 => ?_
    (conv => whnf); refine fa fl77_2 ?_
    (conv => whnf); refine ld1 (v := .int .i64 d.l) ct3 (by rw [hb4.cell, Nat.zero_add]; exact rn_l d) trivial ?_
    (conv => whnf); rw [hl1]
    (conv => whnf); refine pures (iha (by omega) (fun k hk => st4.up (hS k hk)) hv5 hta) fun H5 ha5 => ?_
    have st5 := st4.call ha5
    (conv => whnf); rw [w64 (x := 1 + (a.nodes : Int)) (by omega) (by omega)]
    (conv => whnf)
    exact ⟨by simp only [ReM.nodes]; simp, st5.old⟩
set_option maxHeartbeats 4000000 in
theorem below_p : ∀ (r : ReM), r.plain = true → ∀ {S : Nat → Prop} {H : Heap} {v : Value} {ns : List RnM} {root : Int} {i : Nat}, (∀ k, S k → k < H.size) → ReV S H v ns root → TreeAt ns r i →
    Pure Try.prog 24 #[v, .int .i64 (i : Int)] H (.bool true) := fun r => by
  induction r with
  | eps =>
    intro hpl S H v ns root i hS hv ht
    obtain ⟨d, hd, hop⟩ := ht
    obtain ⟨hl, na, nc, rfl, h1⟩ := hv
    refine FnOk.of_vc Try.func24 rfl (Try.call24 _) ?_
    (conv => whnf); refine vbox (reL (.slice na ns.length nc) root) rfl ?_
    intro p H1 hp hs1 hb1 ha1
    have st1 := (St.nil H).box hp hs1 hb1 ha1
    (conv => whnf); refine fa fl39_0 ?_
    (conv => whnf); refine ld1 (v := .slice na ns.length nc) ct37 (by rw [(st1.blk 0 rfl).cell]; rfl) trivial ?_
    (conv => whnf); refine ixr (i := i) sl37 (h1.frame (st1.old.mono hS)) hd rfl ?_
    rintro b2 o2 c2 hS2 hc2 ⟨rfl, hok⟩
    (conv => whnf); refine ldN (cs := rnL d) (by rw [rnL_len]; exact ag77) hc2 trivial ?_
    (conv => whnf); refine valloc _ rnZ rn_z rfl ?_
    intro x H3 hx hs3 hb3 ha3
    have st3 := st1.box hx hs3 hb3 ha3
    (conv => whnf); refine stNB (cs := rnL d) st3 1 (by rw [rnL_len]; rfl) rfl (by rw [rnL_len, rnZ_len]; decide) (rn_ones d) fun H4 st4 => ?_
    rw [splice_all (show (rnL d).length = rnZ.length by rw [rnL_len, rnZ_len])] at st4
    have hb4 := st4.blk 1 rfl
    have hp4 := st4.blk 0 rfl
    have hxl := hb4.lt
    have hpl := hp4.lt
    (conv => whnf); refine fa fl77_0 ?_
    (conv => whnf); refine ld1 (v := .int .i64 d.op) ct3 (by rw [hb4.cell]; exact rn_op d) trivial ?_
    (conv => whnf); rw [hop]
    (conv => whnf); refine VSeq.run ?_
    (conv => whnf)
    exact ⟨rfl, st4.old⟩
  | cls s =>
    intro hpl S H v ns root i hS hv ht
    obtain ⟨d, hd, hop, hset⟩ := ht
    obtain ⟨hl, na, nc, rfl, h1⟩ := hv
    refine FnOk.of_vc Try.func24 rfl (Try.call24 _) ?_
    (conv => whnf); refine vbox (reL (.slice na ns.length nc) root) rfl ?_
    intro p H1 hp hs1 hb1 ha1
    have st1 := (St.nil H).box hp hs1 hb1 ha1
    (conv => whnf); refine fa fl39_0 ?_
    (conv => whnf); refine ld1 (v := .slice na ns.length nc) ct37 (by rw [(st1.blk 0 rfl).cell]; rfl) trivial ?_
    (conv => whnf); refine ixr (i := i) sl37 (h1.frame (st1.old.mono hS)) hd rfl ?_
    rintro b2 o2 c2 hS2 hc2 ⟨rfl, hok⟩
    (conv => whnf); refine ldN (cs := rnL d) (by rw [rnL_len]; exact ag77) hc2 trivial ?_
    (conv => whnf); refine valloc _ rnZ rn_z rfl ?_
    intro x H3 hx hs3 hb3 ha3
    have st3 := st1.box hx hs3 hb3 ha3
    (conv => whnf); refine stNB (cs := rnL d) st3 1 (by rw [rnL_len]; rfl) rfl (by rw [rnL_len, rnZ_len]; decide) (rn_ones d) fun H4 st4 => ?_
    rw [splice_all (show (rnL d).length = rnZ.length by rw [rnL_len, rnZ_len])] at st4
    have hb4 := st4.blk 1 rfl
    have hp4 := st4.blk 0 rfl
    have hxl := hb4.lt
    have hpl := hp4.lt
    (conv => whnf); refine fa fl77_0 ?_
    (conv => whnf); refine ld1 (v := .int .i64 d.op) ct3 (by rw [hb4.cell]; exact rn_op d) trivial ?_
    (conv => whnf); rw [hop]
    (conv => whnf); refine VSeq.run ?_
    (conv => whnf)
    exact ⟨rfl, st4.old⟩
  | cat a b iha ihb =>
    intro hpln S H v ns root i hS hv ht
    simp only [ReM.plain, Bool.and_eq_true] at hpln
    obtain ⟨d, j, k, hd, hop, hl1, hl2, hta, htb⟩ := ht
    obtain ⟨hl, na, nc, rfl, h1⟩ := hv
    refine FnOk.of_vc Try.func24 rfl (Try.call24 _) ?_
    (conv => whnf); refine vbox (reL (.slice na ns.length nc) root) rfl ?_
    intro p H1 hp hs1 hb1 ha1
    have st1 := (St.nil H).box hp hs1 hb1 ha1
    (conv => whnf); refine fa fl39_0 ?_
    (conv => whnf); refine ld1 (v := .slice na ns.length nc) ct37 (by rw [(st1.blk 0 rfl).cell]; rfl) trivial ?_
    (conv => whnf); refine ixr (i := i) sl37 (h1.frame (st1.old.mono hS)) hd rfl ?_
    rintro b2 o2 c2 hS2 hc2 ⟨rfl, hok⟩
    (conv => whnf); refine ldN (cs := rnL d) (by rw [rnL_len]; exact ag77) hc2 trivial ?_
    (conv => whnf); refine valloc _ rnZ rn_z rfl ?_
    intro x H3 hx hs3 hb3 ha3
    have st3 := st1.box hx hs3 hb3 ha3
    (conv => whnf); refine stNB (cs := rnL d) st3 1 (by rw [rnL_len]; rfl) rfl (by rw [rnL_len, rnZ_len]; decide) (rn_ones d) fun H4 st4 => ?_
    rw [splice_all (show (rnL d).length = rnZ.length by rw [rnL_len, rnZ_len])] at st4
    have hb4 := st4.blk 1 rfl
    have hp4 := st4.blk 0 rfl
    have hxl := hb4.lt
    have hpl := hp4.lt
    (conv => whnf); refine fa fl77_0 ?_
    (conv => whnf); refine ld1 (v := .int .i64 d.op) ct3 (by rw [hb4.cell]; exact rn_op d) trivial ?_
    (conv => whnf); rw [hop]
    (conv => whnf); refine VSeq.run ?_
    (conv => whnf); refine VSeq.run ?_
    (conv => whnf); refine re_load hl hp4 ag39 trivial (h1.frame (st4.old.mono hS)) fun v5 hv5 => ?_
    (conv => whnf); refine fa fl77_2 ?_
    (conv => whnf); refine ld1 (v := .int .i64 d.l) ct3 (by rw [hb4.cell, Nat.zero_add]; exact rn_l d) trivial ?_
    (conv => whnf); rw [hl1]
    (conv => whnf); refine pures (iha hpln.1 (fun k hk => st4.up (hS k hk)) hv5 hta) fun H5 ha5 => ?_
    have st5 := st4.call ha5
    have hb5 := st5.blk 1 rfl
    (conv => whnf); refine re_load hl (st5.blk 0 rfl) ag39 trivial (h1.frame (st5.old.mono hS)) fun v6 hv6 => ?_
    (conv => whnf); refine fa fl77_3 ?_
    (conv => whnf); refine ld1 (v := .int .i64 d.r) ct3 (by rw [hb5.cell, Nat.zero_add]; exact rn_r d) trivial ?_
    (conv => whnf); rw [hl2]
    (conv => whnf); refine pures (ihb hpln.2 (fun k hk => st5.up (hS k hk)) hv6 htb) fun H6 ha6 => ?_
    have st6 := st5.call ha6
    (conv => whnf)
    exact ⟨rfl, st6.old⟩
  | alt a b iha ihb =>
    intro hpln S H v ns root i hS hv ht
    simp only [ReM.plain, Bool.and_eq_true] at hpln
    obtain ⟨d, j, k, hd, hop, hl1, hl2, hta, htb⟩ := ht
    obtain ⟨hl, na, nc, rfl, h1⟩ := hv
    refine FnOk.of_vc Try.func24 rfl (Try.call24 _) ?_
    (conv => whnf); refine vbox (reL (.slice na ns.length nc) root) rfl ?_
    intro p H1 hp hs1 hb1 ha1
    have st1 := (St.nil H).box hp hs1 hb1 ha1
    (conv => whnf); refine fa fl39_0 ?_
    (conv => whnf); refine ld1 (v := .slice na ns.length nc) ct37 (by rw [(st1.blk 0 rfl).cell]; rfl) trivial ?_
    (conv => whnf); refine ixr (i := i) sl37 (h1.frame (st1.old.mono hS)) hd rfl ?_
    rintro b2 o2 c2 hS2 hc2 ⟨rfl, hok⟩
    (conv => whnf); refine ldN (cs := rnL d) (by rw [rnL_len]; exact ag77) hc2 trivial ?_
    (conv => whnf); refine valloc _ rnZ rn_z rfl ?_
    intro x H3 hx hs3 hb3 ha3
    have st3 := st1.box hx hs3 hb3 ha3
    (conv => whnf); refine stNB (cs := rnL d) st3 1 (by rw [rnL_len]; rfl) rfl (by rw [rnL_len, rnZ_len]; decide) (rn_ones d) fun H4 st4 => ?_
    rw [splice_all (show (rnL d).length = rnZ.length by rw [rnL_len, rnZ_len])] at st4
    have hb4 := st4.blk 1 rfl
    have hp4 := st4.blk 0 rfl
    have hxl := hb4.lt
    have hpl := hp4.lt
    (conv => whnf); refine fa fl77_0 ?_
    (conv => whnf); refine ld1 (v := .int .i64 d.op) ct3 (by rw [hb4.cell]; exact rn_op d) trivial ?_
    (conv => whnf); rw [hop]
    (conv => whnf); refine VSeq.run ?_
    (conv => whnf); refine VSeq.run ?_
    (conv => whnf); refine re_load hl hp4 ag39 trivial (h1.frame (st4.old.mono hS)) fun v5 hv5 => ?_
    (conv => whnf); refine fa fl77_2 ?_
    (conv => whnf); refine ld1 (v := .int .i64 d.l) ct3 (by rw [hb4.cell, Nat.zero_add]; exact rn_l d) trivial ?_
    (conv => whnf); rw [hl1]
    (conv => whnf); refine pures (iha hpln.1 (fun k hk => st4.up (hS k hk)) hv5 hta) fun H5 ha5 => ?_
    have st5 := st4.call ha5
    have hb5 := st5.blk 1 rfl
    (conv => whnf); refine re_load hl (st5.blk 0 rfl) ag39 trivial (h1.frame (st5.old.mono hS)) fun v6 hv6 => ?_
    (conv => whnf); refine fa fl77_3 ?_
    (conv => whnf); refine ld1 (v := .int .i64 d.r) ct3 (by rw [hb5.cell, Nat.zero_add]; exact rn_r d) trivial ?_
    (conv => whnf); rw [hl2]
    (conv => whnf); refine pures (ihb hpln.2 (fun k hk => st5.up (hS k hk)) hv6 htb) fun H6 ha6 => ?_
    have st6 := st5.call ha6
    (conv => whnf)
    exact ⟨rfl, st6.old⟩
  | star a iha =>
    intro hpln S H v ns root i hS hv ht
    simp only [ReM.plain] at hpln
    obtain ⟨d, j, hd, hop, hl1, hta⟩ := ht
    obtain ⟨hl, na, nc, rfl, h1⟩ := hv
    refine FnOk.of_vc Try.func24 rfl (Try.call24 _) ?_
    (conv => whnf); refine vbox (reL (.slice na ns.length nc) root) rfl ?_
    intro p H1 hp hs1 hb1 ha1
    have st1 := (St.nil H).box hp hs1 hb1 ha1
    (conv => whnf); refine fa fl39_0 ?_
    (conv => whnf); refine ld1 (v := .slice na ns.length nc) ct37 (by rw [(st1.blk 0 rfl).cell]; rfl) trivial ?_
    (conv => whnf); refine ixr (i := i) sl37 (h1.frame (st1.old.mono hS)) hd rfl ?_
    rintro b2 o2 c2 hS2 hc2 ⟨rfl, hok⟩
    (conv => whnf); refine ldN (cs := rnL d) (by rw [rnL_len]; exact ag77) hc2 trivial ?_
    (conv => whnf); refine valloc _ rnZ rn_z rfl ?_
    intro x H3 hx hs3 hb3 ha3
    have st3 := st1.box hx hs3 hb3 ha3
    (conv => whnf); refine stNB (cs := rnL d) st3 1 (by rw [rnL_len]; rfl) rfl (by rw [rnL_len, rnZ_len]; decide) (rn_ones d) fun H4 st4 => ?_
    rw [splice_all (show (rnL d).length = rnZ.length by rw [rnL_len, rnZ_len])] at st4
    have hb4 := st4.blk 1 rfl
    have hp4 := st4.blk 0 rfl
    have hxl := hb4.lt
    have hpl := hp4.lt
    (conv => whnf); refine fa fl77_0 ?_
    (conv => whnf); refine ld1 (v := .int .i64 d.op) ct3 (by rw [hb4.cell]; exact rn_op d) trivial ?_
    (conv => whnf); rw [hop]
    (conv => whnf); refine VSeq.run ?_
    (conv => whnf); refine VSeq.run ?_
    (conv => whnf); refine re_load hl hp4 ag39 trivial (h1.frame (st4.old.mono hS)) fun v5 hv5 => ?_
    (conv => whnf); refine fa fl77_2 ?_
    (conv => whnf); refine ld1 (v := .int .i64 d.l) ct3 (by rw [hb4.cell, Nat.zero_add]; exact rn_l d) trivial ?_
    (conv => whnf); rw [hl1]
    (conv => whnf); refine pures (iha hpln (fun k hk => st4.up (hS k hk)) hv5 hta) fun H5 ha5 => ?_
    have st5 := st4.call ha5
    (conv => whnf)
    exact ⟨rfl, st5.old⟩
  | and_ => intro h; cases h
  | minus => intro h; cases h
end Go.Proofs.Ytlnmhfhdjnenoaa
