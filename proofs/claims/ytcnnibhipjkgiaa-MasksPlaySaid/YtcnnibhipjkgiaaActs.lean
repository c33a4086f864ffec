/-
  Acts that came in: structs with a type in their midst.
-/
import Derived.Test.YtcnnibhipjkgiaaOpen
import Derived.Test.YtcnnibhipjkgiaaTruths
import Derived.Deep.Slices
import Derived.SizedLaws
namespace Go.Proofs.Ytcnnibhipjkgiaa
open Go.ChangeShapes Go.WideShapes Go.ChangeAt Go.RowKit Go.Deep

/-- an act's six cells: what, address, bytes, words, mask, how many -/
structure Av where
  what : Int
  addr : Nat
  bytes : Nat
  words : Int
  bs : List Bool
  a : Option Addr
  c : Nat
  n : Nat

/-- what is known of an act's numbers -/
structure Av.Ok (v : Av) : Prop where
  what : (Lit.int .i64 v.what).wf = true
  addr : v.addr ≤ 18446744073709551615
  bytes : v.bytes ≤ 18446744073709551615
  words : (Lit.int .i64 v.words).wf = true
  len : v.bs.length ≤ 140737488351232
  n : v.n ≤ 18446744073709551615

def Av.cells (v : Av) : List Value := [.int .i64 v.what, .int .u64 (v.addr : Nat), .int .u64 (v.bytes : Nat), .int .i64 v.words, .slice v.a v.bs.length v.c, .int .u64 (v.n : Nat)]

/-- the acts of an argument -/
def Acts (w : World) (v : Value) (len : Nat) : Prop :=
  ∃ ad c, v = .slice ad len c ∧ len ≤ 9223372036854775807 ∧ ∀ i, i < len → ∃ (b o : Nat) (x : Av), ad = some ⟨b, o, none⟩ ∧ x.Ok ∧ Rd w 1 (.slice x.a x.bs.length x.c) x.bs.length (x.bs.map .bool) ∧
    ∀ j u, x.cells[j]? = some u → w.cell? ⟨b, o + i * 6 + j, none⟩ = some u

section
variable {H : Type} {enc : TypeId × Value → H} {P : Program} {w : World} {base : Nat} {held : Bool}

theorem drop_take_one {cs : List Value} {k : Nat} (h : k < cs.length) : (cs.drop k).take 1 = [cs[k]] := by
  rw [List.drop_eq_getElem_cons h]; rfl

theorem weights_mem_all {e : TypeId} {d : DataW H} {n : Nat} (hn : n ∈ d.weights P e) : ∀ {l : List (DataW H)}, d ∈ l → n ∈ DataW.weightsAll P e l
  | x :: l, hd => by
    simp only [DataW.weightsAll, List.mem_append]
    rcases List.mem_cons.1 hd with rfl | h
    · exact .inl hn
    · exact .inr (weights_mem_all hn h)

theorem open_acts {t e q m b : TypeId} {u i : TypeId} {fs gs : Array Field} {fuel : Nat} {a0 : Option Addr} {len cap : Nat} {x : DataW H × List MemPlace}
    (ht : P.underlying t = some (.slice e)) (he : P.underlying e = some (.struct fs)) (hq : P.underlying q = some (.struct gs)) (hi : P.underlying i = some (.int .i64)) (hu : P.underlying u = some (.int .u64)) (hm : P.underlying m = some (.slice b)) (hb : P.underlying b = some .bool)
    (ce : P.cellsOf e = 6) (cq : P.cellsOf q = 2) (ci : P.cellsOf i = 1) (cu : P.cellsOf u = 1) (cm : P.cellsOf m = 1) (cb : P.cellsOf b = 1)
    (f0 : ∃ f, fs[0]? = some f ∧ f.type = i ∧ f.offset = 0) (f1 : ∃ f, fs[1]? = some f ∧ f.type = u ∧ f.offset = 1) (f2 : ∃ f, fs[2]? = some f ∧ f.type = u ∧ f.offset = 2) (f3 : ∃ f, fs[3]? = some f ∧ f.type = q ∧ f.offset = 3) (f4 : ∃ f, fs[4]? = some f ∧ f.type = u ∧ f.offset = 5)
    (g0 : ∃ f, gs[0]? = some f ∧ f.type = i ∧ f.offset = 0) (g1 : ∃ f, gs[1]? = some f ∧ f.type = m ∧ f.offset = 1)
    (hbb : P.bytesOf b = 1) (hwt : ∀ n ∈ x.1.weights P t, n ≤ reachBytes)
    (h : DataW.trod enc P w base (fun _ => true) held fuel t (Value.cells (.slice a0 len cap)).toList = some x) : Acts w (.slice a0 len cap) len := by
  rcases open_slice ht h with ⟨hcs, _⟩ | ⟨a, l, c, mm, n, D, Pl, hcs, _, hl, hmx, hmm, hxe, hx⟩
  · simp [Value.cells] at hcs
    obtain ⟨rfl, rfl, rfl⟩ := hcs
    exact ⟨none, 0, rfl, by omega, fun i hi => absurd hi (Nat.not_lt_zero i)⟩
  · simp [Value.cells] at hcs
    obtain ⟨rfl, rfl, rfl⟩ := hcs
    simp only [if_true] at hmm
    simp only [maxLen] at hmx
    refine ⟨some a, cap, rfl, by omega, fun k hk => ?_⟩
    have key : ∀ k, k < len → ∃ x : Av, x.Ok ∧ Rd w 1 (.slice x.a x.bs.length x.c) x.bs.length (x.bs.map .bool) ∧ ∀ j u, x.cells[j]? = some u → w.cell? (a.add (k * 6 + j)) = some u := by
      intro k hk
      obtain ⟨cs, hc, ht'⟩ := hx k (by omega)
      rw [ce] at hc
      obtain ⟨_, hcl, hat⟩ := World.cells?_some hc
      obtain ⟨ys, n', _, hDk, hlen, hyl, hf⟩ := DataW.trod_struct he ht'
      have hw1 : ∀ n ∈ (D k).weights P e, n ≤ reachBytes := fun n hn => hwt n (by
        rw [hxe]
        simp only [DataW.weights, ht, List.mem_cons, List.mem_append]
        exact .inr (.inl (weights_mem_all hn (List.mem_map.2 ⟨k, List.mem_range.2 hk, rfl⟩))))
      have hDk1 : D k = .agg (ys.map (·.1)) := congrArg Prod.fst hDk
      obtain ⟨F0, e0, t0, o0⟩ := f0
      obtain ⟨F1, e1, t1, o1⟩ := f1
      obtain ⟨F2, e2, t2, o2⟩ := f2
      obtain ⟨F3, e3, t3, o3⟩ := f3
      obtain ⟨F4, e4, t4, o4⟩ := f4
      have some_of : ∀ (i : Nat) (f : Field), fs[i]? = some f → ∃ y, ys[i]? = some y := fun i f hi => ⟨_, List.getElem?_eq_getElem (by rw [hyl]; exact (Array.getElem?_eq_some_iff.1 hi).1)⟩
      obtain ⟨y0, z0⟩ := some_of 0 _ e0
      obtain ⟨y1, z1⟩ := some_of 1 _ e1
      obtain ⟨y2, z2⟩ := some_of 2 _ e2
      obtain ⟨y3, z3⟩ := some_of 3 _ e3
      obtain ⟨y4, z4⟩ := some_of 4 _ e4
      have k0 := hf 0 F0 e0
      have k1 := hf 1 F1 e1
      have k2 := hf 2 F2 e2
      have k3 := hf 3 F3 e3
      have k4 := hf 4 F4 e4
      rw [t0, o0, ci, drop_take_one (by omega), z0] at k0
      rw [t1, o1, cu, drop_take_one (by omega), z1] at k1
      rw [t2, o2, cu, drop_take_one (by omega), z2] at k2
      rw [t3, o3, cq, z3] at k3
      rw [t4, o4, cu, drop_take_one (by omega), z4] at k4
      obtain ⟨v0, h0, w0⟩ := trod_int_cell hi k0
      obtain ⟨v1, h1, w1⟩ := trod_int_cell hu k1
      obtain ⟨v2, h2, w2⟩ := trod_int_cell hu k2
      obtain ⟨v4, h4, w4⟩ := trod_int_cell hu k4
      obtain ⟨us, n2, _, hqe, hlen2, hul, hg⟩ := DataW.trod_struct hq k3
      have hw2 : ∀ n ∈ y3.1.weights P q, n ≤ reachBytes := fun n hn => hw1 n (by
        rw [hDk1]
        simp only [DataW.weights, he]
        exact DataW.weights_mem_each (j := 3) (t := q) (d := y3.1) (by simp [e3, t3]) (by simp [z3]) n hn)
      have hy3 : y3.1 = .agg (us.map (·.1)) := congrArg Prod.fst hqe
      obtain ⟨G0, d0, s0, p0⟩ := g0
      obtain ⟨G1, d1, s1, p1⟩ := g1
      obtain ⟨q0, r0⟩ : ∃ y, us[0]? = some y := ⟨_, List.getElem?_eq_getElem (by rw [hul]; exact (Array.getElem?_eq_some_iff.1 d0).1)⟩
      obtain ⟨q1, r1⟩ : ∃ y, us[1]? = some y := ⟨_, List.getElem?_eq_getElem (by rw [hul]; exact (Array.getElem?_eq_some_iff.1 d1).1)⟩
      have m0 := hg 0 G0 d0
      have m1 := hg 1 G1 d1
      have hl2 : ((cs.drop 3).take 2).length = 2 := by rw [List.length_take, List.length_drop]; omega
      rw [s0, p0, ci, drop_take_one (by omega), r0] at m0
      rw [s1, p1, cm, drop_take_one (by omega), r1] at m1
      obtain ⟨v3, h3, w3⟩ := trod_int_cell hi m0
      have i3 : ((cs.drop 3).take 2)[0] = cs[3] := by rw [List.getElem_take, List.getElem_drop]
      have i4 : ((cs.drop 3).take 2)[1] = cs[4] := by rw [List.getElem_take, List.getElem_drop]
      rw [i3] at h3
      rw [i4] at m1
      have hw3 : ∀ n ∈ q1.1.weights P m, n ≤ reachBytes := fun n hn => hw2 n (by
        rw [hy3]
        simp only [DataW.weights, hq]
        exact DataW.weights_mem_each (j := 1) (t := m) (d := q1.1) (by simp [d1, s1]) (by simp [r1]) n hn)
      have hsl : ∃ ad sl sc, cs[4] = .slice ad sl sc ∧ sl ≤ reachBytes := by
        rcases open_slice hm m1 with ⟨hcs, _⟩ | ⟨ad, sl, sc, _, _, D2, _, hcs, _, _, _, _, hqq, _⟩
        · simp only [List.cons.injEq, and_true] at hcs; exact ⟨_, _, _, hcs, Nat.zero_le _⟩
        · simp only [List.cons.injEq, and_true] at hcs
          refine ⟨_, _, _, hcs, Nat.le_trans ?_ (hw3 _ (by rw [hqq]; simp only [DataW.weights, hm, List.mem_cons]; exact .inl rfl))⟩
          rw [hbb, List.length_map, List.length_range]; omega
      obtain ⟨ad, sl, sc, hsl, hslr⟩ := hsl
      rw [hsl] at m1
      obtain ⟨b1, b2, b3, b4⟩ := open_bool_row (a0 := ad) (len := sl) (cap := sc) hm hb cb (by simpa [Value.cells] using m1)
      obtain ⟨bs, hbl, hrd⟩ := rd_of_bools b1 b3 b4
      obtain ⟨n1, rfl, l1⟩ := nat_of_u64 w1
      obtain ⟨n2', rfl, l2⟩ := nat_of_u64 w2
      obtain ⟨n4, rfl, l4⟩ := nat_of_u64 w4
      refine ⟨⟨v0, n1, n2', v3, bs, ad, sc, n4⟩, ⟨w0, l1, l2, w3, by simp only [reachBytes] at hslr; simp only; omega, l4⟩, by simp only; rw [hbl]; exact hrd, fun j u hu => ?_⟩
      have hj : j < 6 := by have := (List.getElem?_eq_some_iff.1 hu).1; simpa [Av.cells] using this
      have hcell := hat j hj
      rw [Go.Deep.add_add] at hcell
      rw [hcell]
      unfold Av.cells at hu
      simp only at hu
      rw [hbl] at hu
      rw [← hu]
      have hcs6 : cs = [cs[0], cs[1], cs[2], cs[3], cs[4], cs[5]] := by
        refine List.ext_getElem (by simp; omega) (fun i h1 h2 => ?_)
        have : i < 6 := by omega
        match i, this with
        | 0, _ => rfl
        | 1, _ => rfl
        | 2, _ => rfl
        | 3, _ => rfl
        | 4, _ => rfl
        | 5, _ => rfl
      have hget : cs[j]? = ([.int .i64 v0, .int .u64 (n1 : Nat), .int .u64 (n2' : Nat), .int .i64 v3, .slice ad sl sc, .int .u64 (n4 : Nat)] : List Value)[j]? := by
        conv => lhs; rw [hcs6]
        rw [h0, h1, h2, h3, hsl, h4]
      rw [← hget, List.getElem?_eq_getElem (by omega)]
      try simp [List.getD, List.getElem?_eq_getElem (show j < cs.length by omega)]
    obtain ⟨b, o, spot⟩ := a
    have hspot : spot = none := by
      obtain ⟨x, _, _, h0⟩ := key 0 (by omega)
      have := World.cell?_spot (h0 0 _ rfl)
      simpa [Addr.add] using this
    subst hspot
    obtain ⟨x, h1, h2, h3⟩ := key k hk
    exact ⟨b, o, x, rfl, h1, h2, fun j u hu => by have := h3 j u hu; rw [add_plain', ← Nat.add_assoc] at this; exact this⟩
end
end Go.Proofs.Ytcnnibhipjkgiaa
