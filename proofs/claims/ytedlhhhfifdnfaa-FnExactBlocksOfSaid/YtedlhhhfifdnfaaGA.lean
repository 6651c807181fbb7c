/- The structs' plain sides. -/
import Derived.Test.YtedlhhhfifdnfaaGen
set_option linter.unusedVariables false
set_option linter.unusedSimpArgs false
namespace Go.Proofs.Ytedlhhhfifdnfaa
open Go.RowKit
structure GInstr where
  op : Int
  a : Int
  b : Int
  c : Int
def GInstr.d (x : GInstr) : D := .agg [D.int .i64 x.op, D.int .i64 x.a, D.int .i64 x.b, D.int .i64 x.c]
theorem GInstr.open_ {w : World} {x : GInstr} {cs : List Value} (h : Rd w (GInstr.d x) cs) : cs = [.int .i64 x.op, .int .i64 x.a, .int .i64 x.b, .int .i64 x.c] := by
  replace h := Rd.open_agg h
  obtain ⟨_, rfl, q1⟩ := RdAll.open_int h
  obtain ⟨_, rfl, q2⟩ := RdAll.open_int q1
  obtain ⟨_, rfl, q3⟩ := RdAll.open_int q2
  obtain ⟨_, rfl, q4⟩ := RdAll.open_int q3
  obtain rfl := RdAll.open_nil q4
  exact rfl
theorem GInstrs.open_ {w : World} {e : Nat} {xs : List GInstr} {v : Value} (h : Rd w (D.slice e 4 (xs.map GInstr.d)) [v]) : ∃ A cap, v = .slice A xs.length cap ∧ xs.length ≤ maxLen ∧ ∀ i (hi : i < xs.length), ∃ b o, A = some ⟨b, o, none⟩ ∧ w.cell? ⟨b, o + i * 4, none⟩ = some (.int .i64 xs[i].op) ∧ w.cell? ⟨b, o + i * 4 + 1, none⟩ = some (.int .i64 xs[i].a) ∧ w.cell? ⟨b, o + i * 4 + 2, none⟩ = some (.int .i64 xs[i].b) ∧ w.cell? ⟨b, o + i * 4 + 3, none⟩ = some (.int .i64 xs[i].c) := by
  obtain ⟨A, cap, hv, hl, hel⟩ := rows_open h
  refine ⟨A, cap, hv, hl, fun i hi => ?_⟩
  obtain ⟨b, o, c, hA, hr, hcell⟩ := hel i hi
  obtain rfl := GInstr.open_ hr
  exact ⟨b, o, hA, hcell 0 _ rfl, hcell 1 _ rfl, hcell 2 _ rfl, hcell 3 _ rfl⟩
theorem GInstr.lay_ {x : GInstr} : Lay (GInstr.d x) [.int .i64 x.op, .int .i64 x.a, .int .i64 x.b, .int .i64 x.c] ([]) := Lay.agg_ (LayAll.int_ (LayAll.int_ (LayAll.int_ (LayAll.int_ LayAll.nil_))))
theorem GInstr.lay_open {x : GInstr} {cs : List Value} {h : Hp} (l : Lay (GInstr.d x) cs h) : cs = [.int .i64 x.op, .int .i64 x.a, .int .i64 x.b, .int .i64 x.c] ∧ h = [] := by
  replace l := Lay.open_agg l
  obtain ⟨_, rfl, q1⟩ := LayAll.open_int l
  obtain ⟨_, rfl, q2⟩ := LayAll.open_int q1
  obtain ⟨_, rfl, q3⟩ := LayAll.open_int q2
  obtain ⟨_, rfl, q4⟩ := LayAll.open_int q3
  obtain ⟨rfl, rfl⟩ := LayAll.open_nil q4
  exact ⟨rfl, rfl⟩
theorem GInstr.cnt (x : GInstr) : D.cnt (GInstr.d x) = 0 := by simp only [GInstr.d, D.cnt, D.cnts, Nat.zero_add, Nat.add_zero]
structure GBlock where
  first : Int
  last : Int
  next : List Int
def GBlock.d (x : GBlock) : D := .agg [D.int .i64 x.first, D.int .i64 x.last, D.slice 2 1 (x.next.map (D.int .i64))]
theorem GBlock.open_ {w : World} {x : GBlock} {cs : List Value} (h : Rd w (GBlock.d x) cs) : ∃ A1 p1, cs = [.int .i64 x.first, .int .i64 x.last, .slice A1 (x.next).length p1] ∧ Rd w (D.slice 2 1 (x.next.map (D.int .i64))) [.slice A1 (x.next).length p1] := by
  replace h := Rd.open_agg h
  obtain ⟨_, rfl, q1⟩ := RdAll.open_int h
  obtain ⟨_, rfl, q2⟩ := RdAll.open_int q1
  obtain ⟨v1, _, rfl, r1, q3⟩ := RdAll.open_sl q2
  obtain ⟨A1, p1, rfl⟩ := sl_any r1
  rw [List.length_map] at r1
  obtain rfl := RdAll.open_nil q3
  simp only [List.length_map]
  exact ⟨_, _, rfl, r1⟩
theorem GBlocks.open_ {w : World} {e : Nat} {xs : List GBlock} {v : Value} (h : Rd w (D.slice e 3 (xs.map GBlock.d)) [v]) : ∃ A cap, v = .slice A xs.length cap ∧ xs.length ≤ maxLen ∧ ∀ i (hi : i < xs.length), ∃ b o A1 p1, A = some ⟨b, o, none⟩ ∧ w.cell? ⟨b, o + i * 3, none⟩ = some (.int .i64 xs[i].first) ∧ w.cell? ⟨b, o + i * 3 + 1, none⟩ = some (.int .i64 xs[i].last) ∧ w.cell? ⟨b, o + i * 3 + 2, none⟩ = some (.slice A1 (xs[i].next).length p1) ∧ Rd w (D.slice 2 1 (xs[i].next.map (D.int .i64))) [.slice A1 (xs[i].next).length p1] := by
  obtain ⟨A, cap, hv, hl, hel⟩ := rows_open h
  refine ⟨A, cap, hv, hl, fun i hi => ?_⟩
  obtain ⟨b, o, c, hA, hr, hcell⟩ := hel i hi
  obtain ⟨A1, p1, rfl, r1⟩ := GBlock.open_ hr
  exact ⟨b, o, A1, p1, hA, hcell 0 _ rfl, hcell 1 _ rfl, hcell 2 _ rfl, r1⟩
theorem GBlock.lay_ {x : GBlock} {v1 : Value} {h1 : Hp} (a1 : Lay (D.slice 2 1 (x.next.map (D.int .i64))) [v1] h1) : Lay (GBlock.d x) [.int .i64 x.first, .int .i64 x.last, v1] (h1) := Lay.agg_ (LayAll.int_ (LayAll.int_ (LayAll.slast a1)))
theorem GBlock.lay_open {x : GBlock} {cs : List Value} {h : Hp} (l : Lay (GBlock.d x) cs h) : ∃ A1 p1 h1, cs = [.int .i64 x.first, .int .i64 x.last, .slice A1 (x.next).length p1] ∧ h = h1 ∧ Lay (D.slice 2 1 (x.next.map (D.int .i64))) [.slice A1 (x.next).length p1] h1 := by
  replace l := Lay.open_agg l
  obtain ⟨_, rfl, q1⟩ := LayAll.open_int l
  obtain ⟨_, rfl, q2⟩ := LayAll.open_int q1
  obtain ⟨v1, _, h1, _, rfl, rfl, r1, q3⟩ := LayAll.open_sl q2
  obtain ⟨A1, p1, rfl⟩ := lay_sl_any r1
  rw [List.length_map] at r1
  obtain ⟨rfl, rfl⟩ := LayAll.open_nil q3
  simp only [List.length_map, List.append_nil]
  exact ⟨_, _, _, rfl, rfl, r1⟩
theorem GBlock.cnt (x : GBlock) : D.cnt (GBlock.d x) = D.cnt (D.slice 2 1 (x.next.map (D.int .i64))) := by simp only [GBlock.d, D.cnt, D.cnts, Nat.zero_add, Nat.add_zero]
structure GConst where
  ty : Int
  word : Int
def GConst.d (x : GConst) : D := .agg [D.int .i64 x.ty, D.int .u32 x.word]
theorem GConst.open_ {w : World} {x : GConst} {cs : List Value} (h : Rd w (GConst.d x) cs) : cs = [.int .i64 x.ty, .int .u32 x.word] := by
  replace h := Rd.open_agg h
  obtain ⟨_, rfl, q1⟩ := RdAll.open_int h
  obtain ⟨_, rfl, q2⟩ := RdAll.open_int q1
  obtain rfl := RdAll.open_nil q2
  exact rfl
theorem GConsts.open_ {w : World} {e : Nat} {xs : List GConst} {v : Value} (h : Rd w (D.slice e 2 (xs.map GConst.d)) [v]) : ∃ A cap, v = .slice A xs.length cap ∧ xs.length ≤ maxLen ∧ ∀ i (hi : i < xs.length), ∃ b o, A = some ⟨b, o, none⟩ ∧ w.cell? ⟨b, o + i * 2, none⟩ = some (.int .i64 xs[i].ty) ∧ w.cell? ⟨b, o + i * 2 + 1, none⟩ = some (.int .u32 xs[i].word) := by
  obtain ⟨A, cap, hv, hl, hel⟩ := rows_open h
  refine ⟨A, cap, hv, hl, fun i hi => ?_⟩
  obtain ⟨b, o, c, hA, hr, hcell⟩ := hel i hi
  obtain rfl := GConst.open_ hr
  exact ⟨b, o, hA, hcell 0 _ rfl, hcell 1 _ rfl⟩
theorem GConst.lay_ {x : GConst} : Lay (GConst.d x) [.int .i64 x.ty, .int .u32 x.word] ([]) := Lay.agg_ (LayAll.int_ (LayAll.int_ LayAll.nil_))
theorem GConst.lay_open {x : GConst} {cs : List Value} {h : Hp} (l : Lay (GConst.d x) cs h) : cs = [.int .i64 x.ty, .int .u32 x.word] ∧ h = [] := by
  replace l := Lay.open_agg l
  obtain ⟨_, rfl, q1⟩ := LayAll.open_int l
  obtain ⟨_, rfl, q2⟩ := LayAll.open_int q1
  obtain ⟨rfl, rfl⟩ := LayAll.open_nil q2
  exact ⟨rfl, rfl⟩
theorem GConst.cnt (x : GConst) : D.cnt (GConst.d x) = 0 := by simp only [GConst.d, D.cnt, D.cnts, Nat.zero_add, Nat.add_zero]
structure GFunc where
  params : List Int
  result : Int
  locals : List Int
  code : List GInstr
def GFunc.d (x : GFunc) : D := .agg [D.slice 2 1 (x.params.map (D.int .i64)), D.int .i64 x.result, D.slice 2 1 (x.locals.map (D.int .i64)), D.slice 90 4 (x.code.map GInstr.d)]
theorem GFunc.open_ {w : World} {x : GFunc} {cs : List Value} (h : Rd w (GFunc.d x) cs) : ∃ A1 p1 A2 p2 A3 p3, cs = [.slice A1 (x.params).length p1, .int .i64 x.result, .slice A2 (x.locals).length p2, .slice A3 (x.code).length p3] ∧ Rd w (D.slice 2 1 (x.params.map (D.int .i64))) [.slice A1 (x.params).length p1] ∧ Rd w (D.slice 2 1 (x.locals.map (D.int .i64))) [.slice A2 (x.locals).length p2] ∧ Rd w (D.slice 90 4 (x.code.map GInstr.d)) [.slice A3 (x.code).length p3] := by
  replace h := Rd.open_agg h
  obtain ⟨v1, _, rfl, r1, q1⟩ := RdAll.open_sl h
  obtain ⟨A1, p1, rfl⟩ := sl_any r1
  rw [List.length_map] at r1
  obtain ⟨_, rfl, q2⟩ := RdAll.open_int q1
  obtain ⟨v2, _, rfl, r2, q3⟩ := RdAll.open_sl q2
  obtain ⟨A2, p2, rfl⟩ := sl_any r2
  rw [List.length_map] at r2
  obtain ⟨v3, _, rfl, r3, q4⟩ := RdAll.open_sl q3
  obtain ⟨A3, p3, rfl⟩ := sl_any r3
  rw [List.length_map] at r3
  obtain rfl := RdAll.open_nil q4
  simp only [List.length_map]
  exact ⟨_, _, _, _, _, _, rfl, r1, r2, r3⟩
theorem GFuncs.open_ {w : World} {e : Nat} {xs : List GFunc} {v : Value} (h : Rd w (D.slice e 4 (xs.map GFunc.d)) [v]) : ∃ A cap, v = .slice A xs.length cap ∧ xs.length ≤ maxLen ∧ ∀ i (hi : i < xs.length), ∃ b o A1 p1 A2 p2 A3 p3, A = some ⟨b, o, none⟩ ∧ w.cell? ⟨b, o + i * 4, none⟩ = some (.slice A1 (xs[i].params).length p1) ∧ w.cell? ⟨b, o + i * 4 + 1, none⟩ = some (.int .i64 xs[i].result) ∧ w.cell? ⟨b, o + i * 4 + 2, none⟩ = some (.slice A2 (xs[i].locals).length p2) ∧ w.cell? ⟨b, o + i * 4 + 3, none⟩ = some (.slice A3 (xs[i].code).length p3) ∧ Rd w (D.slice 2 1 (xs[i].params.map (D.int .i64))) [.slice A1 (xs[i].params).length p1] ∧ Rd w (D.slice 2 1 (xs[i].locals.map (D.int .i64))) [.slice A2 (xs[i].locals).length p2] ∧ Rd w (D.slice 90 4 (xs[i].code.map GInstr.d)) [.slice A3 (xs[i].code).length p3] := by
  obtain ⟨A, cap, hv, hl, hel⟩ := rows_open h
  refine ⟨A, cap, hv, hl, fun i hi => ?_⟩
  obtain ⟨b, o, c, hA, hr, hcell⟩ := hel i hi
  obtain ⟨A1, p1, A2, p2, A3, p3, rfl, r1, r2, r3⟩ := GFunc.open_ hr
  exact ⟨b, o, A1, p1, A2, p2, A3, p3, hA, hcell 0 _ rfl, hcell 1 _ rfl, hcell 2 _ rfl, hcell 3 _ rfl, r1, r2, r3⟩
theorem GFunc.lay_ {x : GFunc} {v1 : Value} {h1 : Hp} {v2 : Value} {h2 : Hp} {v3 : Value} {h3 : Hp} (a1 : Lay (D.slice 2 1 (x.params.map (D.int .i64))) [v1] h1) (a2 : Lay (D.slice 2 1 (x.locals.map (D.int .i64))) [v2] h2) (a3 : Lay (D.slice 90 4 (x.code.map GInstr.d)) [v3] h3) : Lay (GFunc.d x) [v1, .int .i64 x.result, v2, v3] (h1 ++ (h2 ++ (h3))) := Lay.agg_ (LayAll.sl_ a1 (LayAll.int_ (LayAll.sl_ a2 (LayAll.slast a3))))
theorem GFunc.lay_open {x : GFunc} {cs : List Value} {h : Hp} (l : Lay (GFunc.d x) cs h) : ∃ A1 p1 h1 A2 p2 h2 A3 p3 h3, cs = [.slice A1 (x.params).length p1, .int .i64 x.result, .slice A2 (x.locals).length p2, .slice A3 (x.code).length p3] ∧ h = h1 ++ (h2 ++ (h3)) ∧ Lay (D.slice 2 1 (x.params.map (D.int .i64))) [.slice A1 (x.params).length p1] h1 ∧ Lay (D.slice 2 1 (x.locals.map (D.int .i64))) [.slice A2 (x.locals).length p2] h2 ∧ Lay (D.slice 90 4 (x.code.map GInstr.d)) [.slice A3 (x.code).length p3] h3 := by
  replace l := Lay.open_agg l
  obtain ⟨v1, _, h1, _, rfl, rfl, r1, q1⟩ := LayAll.open_sl l
  obtain ⟨A1, p1, rfl⟩ := lay_sl_any r1
  rw [List.length_map] at r1
  obtain ⟨_, rfl, q2⟩ := LayAll.open_int q1
  obtain ⟨v2, _, h2, _, rfl, rfl, r2, q3⟩ := LayAll.open_sl q2
  obtain ⟨A2, p2, rfl⟩ := lay_sl_any r2
  rw [List.length_map] at r2
  obtain ⟨v3, _, h3, _, rfl, rfl, r3, q4⟩ := LayAll.open_sl q3
  obtain ⟨A3, p3, rfl⟩ := lay_sl_any r3
  rw [List.length_map] at r3
  obtain ⟨rfl, rfl⟩ := LayAll.open_nil q4
  simp only [List.length_map, List.append_nil]
  exact ⟨_, _, _, _, _, _, _, _, _, rfl, rfl, r1, r2, r3⟩
theorem GFunc.cnt (x : GFunc) : D.cnt (GFunc.d x) = D.cnt (D.slice 2 1 (x.params.map (D.int .i64))) + D.cnt (D.slice 2 1 (x.locals.map (D.int .i64))) + D.cnt (D.slice 90 4 (x.code.map GInstr.d)) := by simp only [GFunc.d, D.cnt, D.cnts, Nat.zero_add, Nat.add_zero]; try omega
structure GCert where
  func : Int
  head : Int
  counter : Int
  init : Int
def GCert.d (x : GCert) : D := .agg [D.int .i64 x.func, D.int .i64 x.head, D.int .i64 x.counter, D.int .u32 x.init]
theorem GCert.open_ {w : World} {x : GCert} {cs : List Value} (h : Rd w (GCert.d x) cs) : cs = [.int .i64 x.func, .int .i64 x.head, .int .i64 x.counter, .int .u32 x.init] := by
  replace h := Rd.open_agg h
  obtain ⟨_, rfl, q1⟩ := RdAll.open_int h
  obtain ⟨_, rfl, q2⟩ := RdAll.open_int q1
  obtain ⟨_, rfl, q3⟩ := RdAll.open_int q2
  obtain ⟨_, rfl, q4⟩ := RdAll.open_int q3
  obtain rfl := RdAll.open_nil q4
  exact rfl
theorem GCerts.open_ {w : World} {e : Nat} {xs : List GCert} {v : Value} (h : Rd w (D.slice e 4 (xs.map GCert.d)) [v]) : ∃ A cap, v = .slice A xs.length cap ∧ xs.length ≤ maxLen ∧ ∀ i (hi : i < xs.length), ∃ b o, A = some ⟨b, o, none⟩ ∧ w.cell? ⟨b, o + i * 4, none⟩ = some (.int .i64 xs[i].func) ∧ w.cell? ⟨b, o + i * 4 + 1, none⟩ = some (.int .i64 xs[i].head) ∧ w.cell? ⟨b, o + i * 4 + 2, none⟩ = some (.int .i64 xs[i].counter) ∧ w.cell? ⟨b, o + i * 4 + 3, none⟩ = some (.int .u32 xs[i].init) := by
  obtain ⟨A, cap, hv, hl, hel⟩ := rows_open h
  refine ⟨A, cap, hv, hl, fun i hi => ?_⟩
  obtain ⟨b, o, c, hA, hr, hcell⟩ := hel i hi
  obtain rfl := GCert.open_ hr
  exact ⟨b, o, hA, hcell 0 _ rfl, hcell 1 _ rfl, hcell 2 _ rfl, hcell 3 _ rfl⟩
theorem GCert.lay_ {x : GCert} : Lay (GCert.d x) [.int .i64 x.func, .int .i64 x.head, .int .i64 x.counter, .int .u32 x.init] ([]) := Lay.agg_ (LayAll.int_ (LayAll.int_ (LayAll.int_ (LayAll.int_ LayAll.nil_))))
theorem GCert.lay_open {x : GCert} {cs : List Value} {h : Hp} (l : Lay (GCert.d x) cs h) : cs = [.int .i64 x.func, .int .i64 x.head, .int .i64 x.counter, .int .u32 x.init] ∧ h = [] := by
  replace l := Lay.open_agg l
  obtain ⟨_, rfl, q1⟩ := LayAll.open_int l
  obtain ⟨_, rfl, q2⟩ := LayAll.open_int q1
  obtain ⟨_, rfl, q3⟩ := LayAll.open_int q2
  obtain ⟨_, rfl, q4⟩ := LayAll.open_int q3
  obtain ⟨rfl, rfl⟩ := LayAll.open_nil q4
  exact ⟨rfl, rfl⟩
theorem GCert.cnt (x : GCert) : D.cnt (GCert.d x) = 0 := by simp only [GCert.d, D.cnt, D.cnts, Nat.zero_add, Nat.add_zero]
structure GProgram where
  regions : List (List Int)
  consts : List GConst
  funcs : List GFunc
  certs : List GCert
def GProgram.d (x : GProgram) : D := .agg [D.slice 63 1 (x.regions.map (fun y : List Int => D.slice 2 1 (y.map (D.int .i64)))), D.slice 154 2 (x.consts.map GConst.d), D.slice 121 4 (x.funcs.map GFunc.d), D.slice 159 4 (x.certs.map GCert.d)]
theorem GProgram.open_ {w : World} {x : GProgram} {cs : List Value} (h : Rd w (GProgram.d x) cs) : ∃ A1 p1 A2 p2 A3 p3 A4 p4, cs = [.slice A1 (x.regions).length p1, .slice A2 (x.consts).length p2, .slice A3 (x.funcs).length p3, .slice A4 (x.certs).length p4] ∧ Rd w (D.slice 63 1 (x.regions.map (fun y : List Int => D.slice 2 1 (y.map (D.int .i64))))) [.slice A1 (x.regions).length p1] ∧ Rd w (D.slice 154 2 (x.consts.map GConst.d)) [.slice A2 (x.consts).length p2] ∧ Rd w (D.slice 121 4 (x.funcs.map GFunc.d)) [.slice A3 (x.funcs).length p3] ∧ Rd w (D.slice 159 4 (x.certs.map GCert.d)) [.slice A4 (x.certs).length p4] := by
  replace h := Rd.open_agg h
  obtain ⟨v1, _, rfl, r1, q1⟩ := RdAll.open_sl h
  obtain ⟨A1, p1, rfl⟩ := sl_any r1
  rw [List.length_map] at r1
  obtain ⟨v2, _, rfl, r2, q2⟩ := RdAll.open_sl q1
  obtain ⟨A2, p2, rfl⟩ := sl_any r2
  rw [List.length_map] at r2
  obtain ⟨v3, _, rfl, r3, q3⟩ := RdAll.open_sl q2
  obtain ⟨A3, p3, rfl⟩ := sl_any r3
  rw [List.length_map] at r3
  obtain ⟨v4, _, rfl, r4, q4⟩ := RdAll.open_sl q3
  obtain ⟨A4, p4, rfl⟩ := sl_any r4
  rw [List.length_map] at r4
  obtain rfl := RdAll.open_nil q4
  simp only [List.length_map]
  exact ⟨_, _, _, _, _, _, _, _, rfl, r1, r2, r3, r4⟩
theorem GPrograms.open_ {w : World} {e : Nat} {xs : List GProgram} {v : Value} (h : Rd w (D.slice e 4 (xs.map GProgram.d)) [v]) : ∃ A cap, v = .slice A xs.length cap ∧ xs.length ≤ maxLen ∧ ∀ i (hi : i < xs.length), ∃ b o A1 p1 A2 p2 A3 p3 A4 p4, A = some ⟨b, o, none⟩ ∧ w.cell? ⟨b, o + i * 4, none⟩ = some (.slice A1 (xs[i].regions).length p1) ∧ w.cell? ⟨b, o + i * 4 + 1, none⟩ = some (.slice A2 (xs[i].consts).length p2) ∧ w.cell? ⟨b, o + i * 4 + 2, none⟩ = some (.slice A3 (xs[i].funcs).length p3) ∧ w.cell? ⟨b, o + i * 4 + 3, none⟩ = some (.slice A4 (xs[i].certs).length p4) ∧ Rd w (D.slice 63 1 (xs[i].regions.map (fun y : List Int => D.slice 2 1 (y.map (D.int .i64))))) [.slice A1 (xs[i].regions).length p1] ∧ Rd w (D.slice 154 2 (xs[i].consts.map GConst.d)) [.slice A2 (xs[i].consts).length p2] ∧ Rd w (D.slice 121 4 (xs[i].funcs.map GFunc.d)) [.slice A3 (xs[i].funcs).length p3] ∧ Rd w (D.slice 159 4 (xs[i].certs.map GCert.d)) [.slice A4 (xs[i].certs).length p4] := by
  obtain ⟨A, cap, hv, hl, hel⟩ := rows_open h
  refine ⟨A, cap, hv, hl, fun i hi => ?_⟩
  obtain ⟨b, o, c, hA, hr, hcell⟩ := hel i hi
  obtain ⟨A1, p1, A2, p2, A3, p3, A4, p4, rfl, r1, r2, r3, r4⟩ := GProgram.open_ hr
  exact ⟨b, o, A1, p1, A2, p2, A3, p3, A4, p4, hA, hcell 0 _ rfl, hcell 1 _ rfl, hcell 2 _ rfl, hcell 3 _ rfl, r1, r2, r3, r4⟩
theorem GProgram.lay_ {x : GProgram} {v1 : Value} {h1 : Hp} {v2 : Value} {h2 : Hp} {v3 : Value} {h3 : Hp} {v4 : Value} {h4 : Hp} (a1 : Lay (D.slice 63 1 (x.regions.map (fun y : List Int => D.slice 2 1 (y.map (D.int .i64))))) [v1] h1) (a2 : Lay (D.slice 154 2 (x.consts.map GConst.d)) [v2] h2) (a3 : Lay (D.slice 121 4 (x.funcs.map GFunc.d)) [v3] h3) (a4 : Lay (D.slice 159 4 (x.certs.map GCert.d)) [v4] h4) : Lay (GProgram.d x) [v1, v2, v3, v4] (h1 ++ (h2 ++ (h3 ++ (h4)))) := Lay.agg_ (LayAll.sl_ a1 (LayAll.sl_ a2 (LayAll.sl_ a3 (LayAll.slast a4))))
theorem GProgram.lay_open {x : GProgram} {cs : List Value} {h : Hp} (l : Lay (GProgram.d x) cs h) : ∃ A1 p1 h1 A2 p2 h2 A3 p3 h3 A4 p4 h4, cs = [.slice A1 (x.regions).length p1, .slice A2 (x.consts).length p2, .slice A3 (x.funcs).length p3, .slice A4 (x.certs).length p4] ∧ h = h1 ++ (h2 ++ (h3 ++ (h4))) ∧ Lay (D.slice 63 1 (x.regions.map (fun y : List Int => D.slice 2 1 (y.map (D.int .i64))))) [.slice A1 (x.regions).length p1] h1 ∧ Lay (D.slice 154 2 (x.consts.map GConst.d)) [.slice A2 (x.consts).length p2] h2 ∧ Lay (D.slice 121 4 (x.funcs.map GFunc.d)) [.slice A3 (x.funcs).length p3] h3 ∧ Lay (D.slice 159 4 (x.certs.map GCert.d)) [.slice A4 (x.certs).length p4] h4 := by
  replace l := Lay.open_agg l
  obtain ⟨v1, _, h1, _, rfl, rfl, r1, q1⟩ := LayAll.open_sl l
  obtain ⟨A1, p1, rfl⟩ := lay_sl_any r1
  rw [List.length_map] at r1
  obtain ⟨v2, _, h2, _, rfl, rfl, r2, q2⟩ := LayAll.open_sl q1
  obtain ⟨A2, p2, rfl⟩ := lay_sl_any r2
  rw [List.length_map] at r2
  obtain ⟨v3, _, h3, _, rfl, rfl, r3, q3⟩ := LayAll.open_sl q2
  obtain ⟨A3, p3, rfl⟩ := lay_sl_any r3
  rw [List.length_map] at r3
  obtain ⟨v4, _, h4, _, rfl, rfl, r4, q4⟩ := LayAll.open_sl q3
  obtain ⟨A4, p4, rfl⟩ := lay_sl_any r4
  rw [List.length_map] at r4
  obtain ⟨rfl, rfl⟩ := LayAll.open_nil q4
  simp only [List.length_map, List.append_nil]
  exact ⟨_, _, _, _, _, _, _, _, _, _, _, _, rfl, rfl, r1, r2, r3, r4⟩
theorem GProgram.cnt (x : GProgram) : D.cnt (GProgram.d x) = D.cnt (D.slice 63 1 (x.regions.map (fun y : List Int => D.slice 2 1 (y.map (D.int .i64))))) + D.cnt (D.slice 154 2 (x.consts.map GConst.d)) + D.cnt (D.slice 121 4 (x.funcs.map GFunc.d)) + D.cnt (D.slice 159 4 (x.certs.map GCert.d)) := by simp only [GProgram.d, D.cnt, D.cnts, Nat.zero_add, Nat.add_zero]; try omega
structure GMemory where
  inn : List Int
  out : List Int
  keep : List Int
def GMemory.d (x : GMemory) : D := .agg [D.slice 151 1 (x.inn.map (D.int .u32)), D.slice 151 1 (x.out.map (D.int .u32)), D.slice 151 1 (x.keep.map (D.int .u32))]
theorem GMemory.open_ {w : World} {x : GMemory} {cs : List Value} (h : Rd w (GMemory.d x) cs) : ∃ A1 p1 A2 p2 A3 p3, cs = [.slice A1 (x.inn).length p1, .slice A2 (x.out).length p2, .slice A3 (x.keep).length p3] ∧ Rd w (D.slice 151 1 (x.inn.map (D.int .u32))) [.slice A1 (x.inn).length p1] ∧ Rd w (D.slice 151 1 (x.out.map (D.int .u32))) [.slice A2 (x.out).length p2] ∧ Rd w (D.slice 151 1 (x.keep.map (D.int .u32))) [.slice A3 (x.keep).length p3] := by
  replace h := Rd.open_agg h
  obtain ⟨v1, _, rfl, r1, q1⟩ := RdAll.open_sl h
  obtain ⟨A1, p1, rfl⟩ := sl_any r1
  rw [List.length_map] at r1
  obtain ⟨v2, _, rfl, r2, q2⟩ := RdAll.open_sl q1
  obtain ⟨A2, p2, rfl⟩ := sl_any r2
  rw [List.length_map] at r2
  obtain ⟨v3, _, rfl, r3, q3⟩ := RdAll.open_sl q2
  obtain ⟨A3, p3, rfl⟩ := sl_any r3
  rw [List.length_map] at r3
  obtain rfl := RdAll.open_nil q3
  simp only [List.length_map]
  exact ⟨_, _, _, _, _, _, rfl, r1, r2, r3⟩
theorem GMemorys.open_ {w : World} {e : Nat} {xs : List GMemory} {v : Value} (h : Rd w (D.slice e 3 (xs.map GMemory.d)) [v]) : ∃ A cap, v = .slice A xs.length cap ∧ xs.length ≤ maxLen ∧ ∀ i (hi : i < xs.length), ∃ b o A1 p1 A2 p2 A3 p3, A = some ⟨b, o, none⟩ ∧ w.cell? ⟨b, o + i * 3, none⟩ = some (.slice A1 (xs[i].inn).length p1) ∧ w.cell? ⟨b, o + i * 3 + 1, none⟩ = some (.slice A2 (xs[i].out).length p2) ∧ w.cell? ⟨b, o + i * 3 + 2, none⟩ = some (.slice A3 (xs[i].keep).length p3) ∧ Rd w (D.slice 151 1 (xs[i].inn.map (D.int .u32))) [.slice A1 (xs[i].inn).length p1] ∧ Rd w (D.slice 151 1 (xs[i].out.map (D.int .u32))) [.slice A2 (xs[i].out).length p2] ∧ Rd w (D.slice 151 1 (xs[i].keep.map (D.int .u32))) [.slice A3 (xs[i].keep).length p3] := by
  obtain ⟨A, cap, hv, hl, hel⟩ := rows_open h
  refine ⟨A, cap, hv, hl, fun i hi => ?_⟩
  obtain ⟨b, o, c, hA, hr, hcell⟩ := hel i hi
  obtain ⟨A1, p1, A2, p2, A3, p3, rfl, r1, r2, r3⟩ := GMemory.open_ hr
  exact ⟨b, o, A1, p1, A2, p2, A3, p3, hA, hcell 0 _ rfl, hcell 1 _ rfl, hcell 2 _ rfl, r1, r2, r3⟩
theorem GMemory.lay_ {x : GMemory} {v1 : Value} {h1 : Hp} {v2 : Value} {h2 : Hp} {v3 : Value} {h3 : Hp} (a1 : Lay (D.slice 151 1 (x.inn.map (D.int .u32))) [v1] h1) (a2 : Lay (D.slice 151 1 (x.out.map (D.int .u32))) [v2] h2) (a3 : Lay (D.slice 151 1 (x.keep.map (D.int .u32))) [v3] h3) : Lay (GMemory.d x) [v1, v2, v3] (h1 ++ (h2 ++ (h3))) := Lay.agg_ (LayAll.sl_ a1 (LayAll.sl_ a2 (LayAll.slast a3)))
theorem GMemory.lay_open {x : GMemory} {cs : List Value} {h : Hp} (l : Lay (GMemory.d x) cs h) : ∃ A1 p1 h1 A2 p2 h2 A3 p3 h3, cs = [.slice A1 (x.inn).length p1, .slice A2 (x.out).length p2, .slice A3 (x.keep).length p3] ∧ h = h1 ++ (h2 ++ (h3)) ∧ Lay (D.slice 151 1 (x.inn.map (D.int .u32))) [.slice A1 (x.inn).length p1] h1 ∧ Lay (D.slice 151 1 (x.out.map (D.int .u32))) [.slice A2 (x.out).length p2] h2 ∧ Lay (D.slice 151 1 (x.keep.map (D.int .u32))) [.slice A3 (x.keep).length p3] h3 := by
  replace l := Lay.open_agg l
  obtain ⟨v1, _, h1, _, rfl, rfl, r1, q1⟩ := LayAll.open_sl l
  obtain ⟨A1, p1, rfl⟩ := lay_sl_any r1
  rw [List.length_map] at r1
  obtain ⟨v2, _, h2, _, rfl, rfl, r2, q2⟩ := LayAll.open_sl q1
  obtain ⟨A2, p2, rfl⟩ := lay_sl_any r2
  rw [List.length_map] at r2
  obtain ⟨v3, _, h3, _, rfl, rfl, r3, q3⟩ := LayAll.open_sl q2
  obtain ⟨A3, p3, rfl⟩ := lay_sl_any r3
  rw [List.length_map] at r3
  obtain ⟨rfl, rfl⟩ := LayAll.open_nil q3
  simp only [List.length_map, List.append_nil]
  exact ⟨_, _, _, _, _, _, _, _, _, rfl, rfl, r1, r2, r3⟩
theorem GMemory.cnt (x : GMemory) : D.cnt (GMemory.d x) = D.cnt (D.slice 151 1 (x.inn.map (D.int .u32))) + D.cnt (D.slice 151 1 (x.out.map (D.int .u32))) + D.cnt (D.slice 151 1 (x.keep.map (D.int .u32))) := by simp only [GMemory.d, D.cnt, D.cnts, Nat.zero_add, Nat.add_zero]; try omega
structure GLoop where
  head : Int
  back : List Int
  blocks : List Int
def GLoop.d (x : GLoop) : D := .agg [D.int .i64 x.head, D.slice 2 1 (x.back.map (D.int .i64)), D.slice 2 1 (x.blocks.map (D.int .i64))]
theorem GLoop.open_ {w : World} {x : GLoop} {cs : List Value} (h : Rd w (GLoop.d x) cs) : ∃ A1 p1 A2 p2, cs = [.int .i64 x.head, .slice A1 (x.back).length p1, .slice A2 (x.blocks).length p2] ∧ Rd w (D.slice 2 1 (x.back.map (D.int .i64))) [.slice A1 (x.back).length p1] ∧ Rd w (D.slice 2 1 (x.blocks.map (D.int .i64))) [.slice A2 (x.blocks).length p2] := by
  replace h := Rd.open_agg h
  obtain ⟨_, rfl, q1⟩ := RdAll.open_int h
  obtain ⟨v1, _, rfl, r1, q2⟩ := RdAll.open_sl q1
  obtain ⟨A1, p1, rfl⟩ := sl_any r1
  rw [List.length_map] at r1
  obtain ⟨v2, _, rfl, r2, q3⟩ := RdAll.open_sl q2
  obtain ⟨A2, p2, rfl⟩ := sl_any r2
  rw [List.length_map] at r2
  obtain rfl := RdAll.open_nil q3
  simp only [List.length_map]
  exact ⟨_, _, _, _, rfl, r1, r2⟩
theorem GLoops.open_ {w : World} {e : Nat} {xs : List GLoop} {v : Value} (h : Rd w (D.slice e 3 (xs.map GLoop.d)) [v]) : ∃ A cap, v = .slice A xs.length cap ∧ xs.length ≤ maxLen ∧ ∀ i (hi : i < xs.length), ∃ b o A1 p1 A2 p2, A = some ⟨b, o, none⟩ ∧ w.cell? ⟨b, o + i * 3, none⟩ = some (.int .i64 xs[i].head) ∧ w.cell? ⟨b, o + i * 3 + 1, none⟩ = some (.slice A1 (xs[i].back).length p1) ∧ w.cell? ⟨b, o + i * 3 + 2, none⟩ = some (.slice A2 (xs[i].blocks).length p2) ∧ Rd w (D.slice 2 1 (xs[i].back.map (D.int .i64))) [.slice A1 (xs[i].back).length p1] ∧ Rd w (D.slice 2 1 (xs[i].blocks.map (D.int .i64))) [.slice A2 (xs[i].blocks).length p2] := by
  obtain ⟨A, cap, hv, hl, hel⟩ := rows_open h
  refine ⟨A, cap, hv, hl, fun i hi => ?_⟩
  obtain ⟨b, o, c, hA, hr, hcell⟩ := hel i hi
  obtain ⟨A1, p1, A2, p2, rfl, r1, r2⟩ := GLoop.open_ hr
  exact ⟨b, o, A1, p1, A2, p2, hA, hcell 0 _ rfl, hcell 1 _ rfl, hcell 2 _ rfl, r1, r2⟩
theorem GLoop.lay_ {x : GLoop} {v1 : Value} {h1 : Hp} {v2 : Value} {h2 : Hp} (a1 : Lay (D.slice 2 1 (x.back.map (D.int .i64))) [v1] h1) (a2 : Lay (D.slice 2 1 (x.blocks.map (D.int .i64))) [v2] h2) : Lay (GLoop.d x) [.int .i64 x.head, v1, v2] (h1 ++ (h2)) := Lay.agg_ (LayAll.int_ (LayAll.sl_ a1 (LayAll.slast a2)))
theorem GLoop.lay_open {x : GLoop} {cs : List Value} {h : Hp} (l : Lay (GLoop.d x) cs h) : ∃ A1 p1 h1 A2 p2 h2, cs = [.int .i64 x.head, .slice A1 (x.back).length p1, .slice A2 (x.blocks).length p2] ∧ h = h1 ++ (h2) ∧ Lay (D.slice 2 1 (x.back.map (D.int .i64))) [.slice A1 (x.back).length p1] h1 ∧ Lay (D.slice 2 1 (x.blocks.map (D.int .i64))) [.slice A2 (x.blocks).length p2] h2 := by
  replace l := Lay.open_agg l
  obtain ⟨_, rfl, q1⟩ := LayAll.open_int l
  obtain ⟨v1, _, h1, _, rfl, rfl, r1, q2⟩ := LayAll.open_sl q1
  obtain ⟨A1, p1, rfl⟩ := lay_sl_any r1
  rw [List.length_map] at r1
  obtain ⟨v2, _, h2, _, rfl, rfl, r2, q3⟩ := LayAll.open_sl q2
  obtain ⟨A2, p2, rfl⟩ := lay_sl_any r2
  rw [List.length_map] at r2
  obtain ⟨rfl, rfl⟩ := LayAll.open_nil q3
  simp only [List.length_map, List.append_nil]
  exact ⟨_, _, _, _, _, _, rfl, rfl, r1, r2⟩
theorem GLoop.cnt (x : GLoop) : D.cnt (GLoop.d x) = D.cnt (D.slice 2 1 (x.back.map (D.int .i64))) + D.cnt (D.slice 2 1 (x.blocks.map (D.int .i64))) := by simp only [GLoop.d, D.cnt, D.cnts, Nat.zero_add, Nat.add_zero]; try omega
structure GFlow where
  code : Int
  at_ : Int
  blocks : List GBlock
  order : List Int
  idom : List Int
  loops : List GLoop
def GFlow.d (x : GFlow) : D := .agg [D.int .i64 x.code, D.int .i64 x.at_, D.slice 92 3 (x.blocks.map GBlock.d), D.slice 2 1 (x.order.map (D.int .i64)), D.slice 2 1 (x.idom.map (D.int .i64)), D.slice 131 3 (x.loops.map GLoop.d)]
theorem GFlow.open_ {w : World} {x : GFlow} {cs : List Value} (h : Rd w (GFlow.d x) cs) : ∃ A1 p1 A2 p2 A3 p3 A4 p4, cs = [.int .i64 x.code, .int .i64 x.at_, .slice A1 (x.blocks).length p1, .slice A2 (x.order).length p2, .slice A3 (x.idom).length p3, .slice A4 (x.loops).length p4] ∧ Rd w (D.slice 92 3 (x.blocks.map GBlock.d)) [.slice A1 (x.blocks).length p1] ∧ Rd w (D.slice 2 1 (x.order.map (D.int .i64))) [.slice A2 (x.order).length p2] ∧ Rd w (D.slice 2 1 (x.idom.map (D.int .i64))) [.slice A3 (x.idom).length p3] ∧ Rd w (D.slice 131 3 (x.loops.map GLoop.d)) [.slice A4 (x.loops).length p4] := by
  replace h := Rd.open_agg h
  obtain ⟨_, rfl, q1⟩ := RdAll.open_int h
  obtain ⟨_, rfl, q2⟩ := RdAll.open_int q1
  obtain ⟨v1, _, rfl, r1, q3⟩ := RdAll.open_sl q2
  obtain ⟨A1, p1, rfl⟩ := sl_any r1
  rw [List.length_map] at r1
  obtain ⟨v2, _, rfl, r2, q4⟩ := RdAll.open_sl q3
  obtain ⟨A2, p2, rfl⟩ := sl_any r2
  rw [List.length_map] at r2
  obtain ⟨v3, _, rfl, r3, q5⟩ := RdAll.open_sl q4
  obtain ⟨A3, p3, rfl⟩ := sl_any r3
  rw [List.length_map] at r3
  obtain ⟨v4, _, rfl, r4, q6⟩ := RdAll.open_sl q5
  obtain ⟨A4, p4, rfl⟩ := sl_any r4
  rw [List.length_map] at r4
  obtain rfl := RdAll.open_nil q6
  simp only [List.length_map]
  exact ⟨_, _, _, _, _, _, _, _, rfl, r1, r2, r3, r4⟩
theorem GFlows.open_ {w : World} {e : Nat} {xs : List GFlow} {v : Value} (h : Rd w (D.slice e 6 (xs.map GFlow.d)) [v]) : ∃ A cap, v = .slice A xs.length cap ∧ xs.length ≤ maxLen ∧ ∀ i (hi : i < xs.length), ∃ b o A1 p1 A2 p2 A3 p3 A4 p4, A = some ⟨b, o, none⟩ ∧ w.cell? ⟨b, o + i * 6, none⟩ = some (.int .i64 xs[i].code) ∧ w.cell? ⟨b, o + i * 6 + 1, none⟩ = some (.int .i64 xs[i].at_) ∧ w.cell? ⟨b, o + i * 6 + 2, none⟩ = some (.slice A1 (xs[i].blocks).length p1) ∧ w.cell? ⟨b, o + i * 6 + 3, none⟩ = some (.slice A2 (xs[i].order).length p2) ∧ w.cell? ⟨b, o + i * 6 + 4, none⟩ = some (.slice A3 (xs[i].idom).length p3) ∧ w.cell? ⟨b, o + i * 6 + 5, none⟩ = some (.slice A4 (xs[i].loops).length p4) ∧ Rd w (D.slice 92 3 (xs[i].blocks.map GBlock.d)) [.slice A1 (xs[i].blocks).length p1] ∧ Rd w (D.slice 2 1 (xs[i].order.map (D.int .i64))) [.slice A2 (xs[i].order).length p2] ∧ Rd w (D.slice 2 1 (xs[i].idom.map (D.int .i64))) [.slice A3 (xs[i].idom).length p3] ∧ Rd w (D.slice 131 3 (xs[i].loops.map GLoop.d)) [.slice A4 (xs[i].loops).length p4] := by
  obtain ⟨A, cap, hv, hl, hel⟩ := rows_open h
  refine ⟨A, cap, hv, hl, fun i hi => ?_⟩
  obtain ⟨b, o, c, hA, hr, hcell⟩ := hel i hi
  obtain ⟨A1, p1, A2, p2, A3, p3, A4, p4, rfl, r1, r2, r3, r4⟩ := GFlow.open_ hr
  exact ⟨b, o, A1, p1, A2, p2, A3, p3, A4, p4, hA, hcell 0 _ rfl, hcell 1 _ rfl, hcell 2 _ rfl, hcell 3 _ rfl, hcell 4 _ rfl, hcell 5 _ rfl, r1, r2, r3, r4⟩
theorem GFlow.lay_ {x : GFlow} {v1 : Value} {h1 : Hp} {v2 : Value} {h2 : Hp} {v3 : Value} {h3 : Hp} {v4 : Value} {h4 : Hp} (a1 : Lay (D.slice 92 3 (x.blocks.map GBlock.d)) [v1] h1) (a2 : Lay (D.slice 2 1 (x.order.map (D.int .i64))) [v2] h2) (a3 : Lay (D.slice 2 1 (x.idom.map (D.int .i64))) [v3] h3) (a4 : Lay (D.slice 131 3 (x.loops.map GLoop.d)) [v4] h4) : Lay (GFlow.d x) [.int .i64 x.code, .int .i64 x.at_, v1, v2, v3, v4] (h1 ++ (h2 ++ (h3 ++ (h4)))) := Lay.agg_ (LayAll.int_ (LayAll.int_ (LayAll.sl_ a1 (LayAll.sl_ a2 (LayAll.sl_ a3 (LayAll.slast a4))))))
theorem GFlow.lay_open {x : GFlow} {cs : List Value} {h : Hp} (l : Lay (GFlow.d x) cs h) : ∃ A1 p1 h1 A2 p2 h2 A3 p3 h3 A4 p4 h4, cs = [.int .i64 x.code, .int .i64 x.at_, .slice A1 (x.blocks).length p1, .slice A2 (x.order).length p2, .slice A3 (x.idom).length p3, .slice A4 (x.loops).length p4] ∧ h = h1 ++ (h2 ++ (h3 ++ (h4))) ∧ Lay (D.slice 92 3 (x.blocks.map GBlock.d)) [.slice A1 (x.blocks).length p1] h1 ∧ Lay (D.slice 2 1 (x.order.map (D.int .i64))) [.slice A2 (x.order).length p2] h2 ∧ Lay (D.slice 2 1 (x.idom.map (D.int .i64))) [.slice A3 (x.idom).length p3] h3 ∧ Lay (D.slice 131 3 (x.loops.map GLoop.d)) [.slice A4 (x.loops).length p4] h4 := by
  replace l := Lay.open_agg l
  obtain ⟨_, rfl, q1⟩ := LayAll.open_int l
  obtain ⟨_, rfl, q2⟩ := LayAll.open_int q1
  obtain ⟨v1, _, h1, _, rfl, rfl, r1, q3⟩ := LayAll.open_sl q2
  obtain ⟨A1, p1, rfl⟩ := lay_sl_any r1
  rw [List.length_map] at r1
  obtain ⟨v2, _, h2, _, rfl, rfl, r2, q4⟩ := LayAll.open_sl q3
  obtain ⟨A2, p2, rfl⟩ := lay_sl_any r2
  rw [List.length_map] at r2
  obtain ⟨v3, _, h3, _, rfl, rfl, r3, q5⟩ := LayAll.open_sl q4
  obtain ⟨A3, p3, rfl⟩ := lay_sl_any r3
  rw [List.length_map] at r3
  obtain ⟨v4, _, h4, _, rfl, rfl, r4, q6⟩ := LayAll.open_sl q5
  obtain ⟨A4, p4, rfl⟩ := lay_sl_any r4
  rw [List.length_map] at r4
  obtain ⟨rfl, rfl⟩ := LayAll.open_nil q6
  simp only [List.length_map, List.append_nil]
  exact ⟨_, _, _, _, _, _, _, _, _, _, _, _, rfl, rfl, r1, r2, r3, r4⟩
theorem GFlow.cnt (x : GFlow) : D.cnt (GFlow.d x) = D.cnt (D.slice 92 3 (x.blocks.map GBlock.d)) + D.cnt (D.slice 2 1 (x.order.map (D.int .i64))) + D.cnt (D.slice 2 1 (x.idom.map (D.int .i64))) + D.cnt (D.slice 131 3 (x.loops.map GLoop.d)) := by simp only [GFlow.d, D.cnt, D.cnts, Nat.zero_add, Nat.add_zero]; try omega
end Go.Proofs.Ytedlhhhfifdnfaa
