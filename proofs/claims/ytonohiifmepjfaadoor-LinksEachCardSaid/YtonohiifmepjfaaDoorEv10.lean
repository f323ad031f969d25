/-
  Own framework, part 10: append goes as it says.
-/
import Derived.Test.YtonohiifmepjfaaDoorEv9
namespace Go.Proofs.YtonohiifmepjfaaDoor.Ev
open Go Go.RowKit

section
variable {P : Program} {E : Env} {H : List Ob} {w : World}

/-- The slice that append yields, told by what its cells are. -/
theorem app_cells {st len st2 m sz : Nat} {cols cols2 rs : List Col} (h : appCols st len st2 m cols cols2 = some rs) (hsz : rs.length = sz) {i j : Nat} {r : Col} (hi : i < len + m) (hj : rs[j]? = some r) :
    ∃ c d, cols[j]? = some c ∧ cols2[j]? = some d ∧ ((i < len ∧ r.at i = c.at (st + i)) ∨ (len ≤ i ∧ i - len < m ∧ r.at i = d.at (st2 + (i - len)))) := by
  obtain ⟨_, _, h3⟩ := appCols_at h
  obtain ⟨c, d, h4, h5, h6, h7⟩ := h3 j r hj
  refine ⟨c, d, h4, h5, ?_⟩
  rcases Nat.lt_or_ge i len with hlt | hge
  · exact .inl ⟨hlt, h6 i hlt⟩
  · refine .inr ⟨hge, by omega, ?_⟩
    have := h7 (i - len) (by omega)
    rwa [show len + (i - len) = i by omega] at this

theorem append_grow (hr : Rep E H w) (el : TypeId) (st len st2 m sz cap c : Nat) (cols cols2 rs : List Col) (rest : Array Value)
    (happ : appCols st len st2 m cols cols2 = some rs) (hsz : rs.length = sz)
    (hw1 : WFs E H.length (elemsL st len cols)) (h1 : (elemsL st len cols).all V.one = true) (hw2 : WFs E H.length (elemsL st2 m cols2)) (h2 : (elemsL st2 m cols2).all V.one = true)
    (hrest : rest.size = (c - (len + m)) * sz) (hc : len + m ≤ c) :
    Rep (setE E H.length ⟨w.heap.size, 0, sz, c, true⟩) (H ++ [.mem true el [] (len + m) rs]) (w.alloc (.cells ((embs E (elemsL st len cols)).toArray ++ (embs E (elemsL st2 m cols2)).toArray ++ rest) el)) ∧
    Ext E H w (setE E H.length ⟨w.heap.size, 0, sz, c, true⟩) (H ++ [.mem true el [] (len + m) rs]) (w.alloc (.cells ((embs E (elemsL st len cols)).toArray ++ (embs E (elemsL st2 m cols2)).toArray ++ rest) el)) := by
  obtain ⟨a1, a2, _⟩ := appCols_at happ
  have l1 : (embs E (elemsL st len cols)).toArray.size = len * sz := by simp [embs_eq, elems_length]; rw [← a1, hsz]
  have l2 : (embs E (elemsL st2 m cols2)).toArray.size = m * sz := by simp [embs_eq, elems_length]; rw [a2, ← a1, hsz]
  refine hr.push _ _ _ (fun _ => rfl) (mem_new (by simp [hsz]) (fun j v hj => by simp at hj) (fun i hi j r hj => ?_) hc ?_ rfl)
  · obtain ⟨x, y, hx, hy, hcase⟩ := app_cells happ hsz hi hj
    have hjs : j < sz := by rw [← hsz]; exact (List.getElem?_eq_some_iff.1 hj).1
    simp only [List.length_nil, Nat.zero_add]
    rcases hcase with ⟨hlt, hat⟩ | ⟨hge, hlt, hat⟩
    · have hg := elems_get (st := st) hlt hx
      have hm := List.mem_of_getElem? hg
      have hwv := WFs_iff.1 hw1 _ hm
      rw [hat, emb_ext (fun l hl => setE_old hl) _ hwv]
      refine ⟨?_, all_one h1 _ hm, WF.ext (fun l hl => setE_old hl) (by omega) _ hwv⟩
      have hpos : i * rs.length + j < len * sz := by
        rw [hsz]
        have : (i + 1) * sz ≤ len * sz := Nat.mul_le_mul_right _ hlt
        rw [Nat.add_mul] at this; omega
      rw [Array.getElem?_append_left (by rw [Array.size_append]; omega), Array.getElem?_append_left (by omega), a1]
      exact embs_get hg
    · have hg := elems_get (st := st2) hlt hy
      have hm := List.mem_of_getElem? hg
      have hwv := WFs_iff.1 hw2 _ hm
      rw [hat, emb_ext (fun l hl => setE_old hl) _ hwv]
      refine ⟨?_, all_one h2 _ hm, WF.ext (fun l hl => setE_old hl) (by omega) _ hwv⟩
      have e1 : i * rs.length + j = len * sz + ((i - len) * sz + j) := by
        rw [hsz, show i = len + (i - len) by omega, Nat.add_mul, show len + (i - len) - len = i - len by omega]; omega
      have hpos : (i - len) * sz + j < m * sz := by
        have : (i - len + 1) * sz ≤ m * sz := Nat.mul_le_mul_right _ hlt
        rw [Nat.add_mul] at this; omega
      rw [Array.getElem?_append_left (by rw [Array.size_append]; omega), Array.getElem?_append_right (by omega), l1, e1, show len * sz + ((i - len) * sz + j) - len * sz = (i - len) * cols2.length + j by rw [a2, ← a1, hsz]; omega]
      exact embs_get hg
  · simp only [List.length_nil, Nat.zero_add, Array.size_append, l1, l2, hrest, hsz]
    rw [← Nat.add_mul, ← Nat.add_mul]
    exact Nat.mul_le_mul_right _ (by omega)

theorem append_fits (hr : Rep E H w) {l : Nat} (el : TypeId) (st len st2 m sz cap n : Nat) (cols cols2 rs : List Col) (hl : H[l]? = some (.mem true el [] n cols)) (hre : (E l).real = true)
    (happ : appCols st len st2 m cols cols2 = some rs) (hsz : rs.length = sz) (hn : st + len ≤ n) (hcap : st + cap ≤ (E l).cap) (hlc : len + m ≤ cap)
    (hw2 : WFs E H.length (elemsL st2 m cols2)) (h2 : (elemsL st2 m cols2).all V.one = true) :
    ∃ w', (storeCells (((E l).at st 0).add (len * sz)) (embs E (elemsL st2 m cols2))).run P w = .ok () w' ∧
      Rep (setE E H.length ⟨(E l).block, (E l).off + st * sz, sz, cap, true⟩) (H.set l .dead ++ [.mem true el [] (len + m) rs]) w' ∧
      Ext E H w (setE E H.length ⟨(E l).block, (E l).off + st * sz, sz, cap, true⟩) (H.set l .dead ++ [.mem true el [] (len + m) rs]) w' := by
  obtain ⟨a1, a2, _⟩ := appCols_at happ
  obtain ⟨o1, o2, _, o4, o5, _⟩ := hr.ob l _ hl
  obtain ⟨p1, p4⟩ := o5 rfl
  obtain ⟨arr, p2, p3⟩ := p4 hre
  have hll : l < H.length := (List.getElem?_eq_some_iff.1 hl).1
  have hc : cols.length = sz := by rw [← a1, hsz]
  have hstr : (E l).stride = sz := by rw [o2, hc]
  have hvl : (embs E (elemsL st2 m cols2)).length = m * sz := by simp [embs_eq, elems_length]; rw [a2, ← a1, hsz]
  let q := (E l).off + st * sz + len * sz
  have haddr : ((E l).at st 0).add (len * sz) = ⟨(E l).block, q, none⟩ := by
    rw [at_add]; unfold Loc.at; rw [hstr]; simp [q]
  have hroom : q + 0 + (embs E (elemsL st2 m cols2)).length ≤ arr.size := by
    rw [hvl]
    have h3 : (st + cap) * sz ≤ (E l).cap * sz := Nat.mul_le_mul_right _ hcap
    have h4 : (len + m) * sz ≤ cap * sz := Nat.mul_le_mul_right _ hlc
    rw [Nat.add_mul] at h3 h4
    rw [hc] at p3
    simp only [List.length_nil, Nat.add_zero] at p3
    simp only [q]; omega
  have hone : ∀ v ∈ embs E (elemsL st2 m cols2), v.oneCell' = true := by
    intro v hv
    rw [embs_eq] at hv
    obtain ⟨u, hu, rfl⟩ := List.mem_map.1 hv
    exact emb_one (all_one h2 u hu)
  have hrun := run_storeCells_at (P := P) (E l).block q el (embs E (elemsL st2 m cols2)) 0 arr w p2 hroom hone
  rw [← haddr] at hrun
  refine ⟨_, hrun, ?_⟩
  simp only [Nat.add_zero] at hrun ⊢
  generalize hA : (arr.toList.take q ++ embs E (elemsL st2 m cols2) ++ arr.toList.drop (q + (embs E (elemsL st2 m cols2)).length)).toArray = arr'
  have hsize' : arr'.size = arr.size := by
    rw [← hA]
    simp only [List.size_toArray, List.length_append, List.length_take, List.length_drop, Array.length_toList]
    simp only [Nat.add_zero] at hroom
    omega
  have hlow : ∀ p, p < q → arr'[p]? = arr[p]? := by
    intro p hp
    rw [← hA, List.getElem?_toArray, List.getElem?_append_left (by simp; simp only [Nat.add_zero] at hroom; omega), List.getElem?_append_left (by simp; simp only [Nat.add_zero] at hroom; omega), List.getElem?_take_of_lt hp]
    simp
  have hmid : ∀ p v, (elemsL st2 m cols2)[p]? = some v → arr'[q + p]? = some (emb E v) := by
    intro p v hp
    have hpl : p < (embs E (elemsL st2 m cols2)).length := by rw [embs_eq, List.length_map]; exact (List.getElem?_eq_some_iff.1 hp).1
    have htl : (arr.toList.take q).length = q := by simp; simp only [Nat.add_zero] at hroom; omega
    rw [← hA, List.getElem?_toArray, List.getElem?_append_left (by rw [List.length_append, htl]; omega), List.getElem?_append_right (by rw [htl]; omega), htl, show q + p - q = p by omega, embs_eq, List.getElem?_map, hp]
    rfl
  have hheap : ∀ b, b ≠ (E l).block → (w.setRow (E l).block arr').heap[b]? = w.heap[b]? := fun b hb => setRow_other w _ b arr' hb
  have hnew : (w.setRow (E l).block arr').heap[(E l).block]? = some (.cells arr' el (0, 0)) := setRow_heap w _ arr arr' el (0, 0) p2
  -- the old label is dead
  obtain ⟨k1, k2⟩ := hr.kill l
  have hdead : ∀ (l' : Nat) (o : Ob), (H.set l .dead)[l']? = some o → o.live = true → (E l').real = true → (E l').block ≠ (E l).block := by
    intro l' o h' hlive hre'
    rw [List.getElem?_set] at h'
    split at h'
    · injection h' with h'; subst h'; simp [Ob.live] at hlive
    · rename_i hne
      exact (hr.sep l l' _ o hne hl h' rfl hlive hre hre').symm
  have k3 : Rep E (H.set l .dead) (w.setRow (E l).block arr') := by
    refine ⟨fun l' o h' => ?_, k1.sep⟩
    cases hlive : o.live with
    | false => cases o <;> simp_all [Ob.live, RepOb]
    | true => exact (k1.ob l' o h').keep (fun _ _ => rfl) (Nat.le_refl _) (fun hre' => hheap _ (hdead l' o h' hlive hre')) (by simp)
  have hN : (H.set l .dead).length = H.length := by simp
  have k4 := k3.add (.mem true el [] (len + m) rs) ⟨(E l).block, (E l).off + st * sz, sz, cap, true⟩ (fun l' o h' hlive hre' _ => hdead l' o h' hlive hre')
    ⟨fun _ => by simpa using o1 hre, hsz.symm, fun j v hj => by simp at hj, fun i hi j r hj => by
      obtain ⟨x, y, hx, hy, hcase⟩ := app_cells happ hsz hi hj
      have hjs : j < sz := by rw [← hsz]; exact (List.getElem?_eq_some_iff.1 hj).1
      have hcellb : ∀ p, (w.setRow (E l).block arr').cell? ⟨(E l).block, p, none⟩ = arr'[p]? := fun p => cell_of_row _ _ p arr' el (0, 0) hnew
      simp only [Loc.at, List.length_nil, Nat.zero_add, hcellb, hN]
      rcases hcase with ⟨hlt, hat⟩ | ⟨hge, hlt, hat⟩
      · obtain ⟨c1, c2, c3⟩ := o4 (st + i) (by omega) j x hx
        rw [hat, emb_ext (fun l hl => setE_old hl) _ c3]
        refine ⟨?_, c2, WF.ext (fun l hl => setE_old hl) (by omega) _ c3⟩
        have hpos : i * sz + j < len * sz := by
          have : (i + 1) * sz ≤ len * sz := Nat.mul_le_mul_right _ hlt
          rw [Nat.add_mul] at this; omega
        rw [hlow _ (by simp only [q]; omega), ← c1]
        have := cell_of_row w (E l).block ((E l).off + st * sz + i * sz + j) arr el (0, 0) p2
        rw [← this]
        congr 1
        unfold Loc.at
        rw [hstr, Nat.add_mul]
        simp; omega
      · have hg := elems_get (st := st2) hlt hy
        have hm := List.mem_of_getElem? hg
        have hwv := WFs_iff.1 hw2 _ hm
        rw [hat, emb_ext (fun l hl => setE_old hl) _ hwv]
        refine ⟨?_, all_one h2 _ hm, WF.ext (fun l hl => setE_old hl) (by omega) _ hwv⟩
        have e1 : (E l).off + st * sz + i * sz + j = q + ((i - len) * cols2.length + j) := by
          rw [a2, ← a1, hsz]
          simp only [q]
          rw [show i = len + (i - len) by omega, Nat.add_mul, show len + (i - len) - len = i - len by omega]; omega
        rw [e1]
        exact hmid _ _ hg,
     fun _ => ⟨hlc, fun _ => ⟨arr', hnew, by
      rw [hsize', hsz]
      have h3 : (st + cap) * sz ≤ (E l).cap * sz := Nat.mul_le_mul_right _ hcap
      rw [Nat.add_mul] at h3
      rw [hc] at p3
      simp only [List.length_nil, Nat.add_zero] at p3 ⊢
      omega⟩⟩, fun h => (by cases h), fun h => (by cases h)⟩
  rw [hN] at k4
  refine ⟨k4, ⟨by simp, fun l' hl' => setE_old hl', rfl, rfl, rfl, by simp, fun b _ hn => hheap b (fun e => hn ⟨l, _, hl, rfl, hre, e.symm⟩), fun b hb => ?_⟩⟩
  obtain ⟨l', o', h1', h2', h0', h3'⟩ := hb
  rcases getElem?_push_cases h1' with h4' | ⟨rfl, rfl⟩
  · have hlt : l' < H.length := by rw [← hN]; exact (List.getElem?_eq_some_iff.1 h4').1
    rw [setE_old hlt] at h0' h3'
    exact (k2.owns b ⟨l', o', h4', h2', h0', h3'⟩)
  · rw [hN, setE_new] at h3'
    exact .inl ⟨l, _, hl, rfl, hre, h3'⟩

theorem srcOf_some {el : TypeId} {x : V} {lab : Option Nat} {cols : List Col} {st len n : Nat} (h : srcOf P el H x = some (lab, cols, st, len, n)) :
    (x = .nils ∧ lab = none ∧ st = 0 ∧ len = 0 ∧ n = 0 ∧ ∃ z, zeroV P el = some z ∧ cols = z.parts.map colZero) ∨
    (∃ a cap l own ty, x = .slc a cap l st len ∧ lab = some l ∧ H[l]? = some (.mem own ty [] n cols)) := by
  unfold srcOf at h
  split at h
  · split at h
    · rename_i cs hcs
      simp at h
      obtain ⟨rfl, rfl, rfl, rfl, rfl⟩ := h
      unfold colsZero at hcs
      split at hcs
      · rename_i z hz
        simp at hcs; subst hcs
        exact .inl ⟨rfl, rfl, rfl, rfl, rfl, z, hz, rfl⟩
      · simp at hcs
    · simp at h
  · split at h
    · rename_i own ty n' cols' hl
      simp at h
      obtain ⟨rfl, rfl, rfl, rfl, rfl⟩ := h
      exact .inr ⟨_, _, _, own, ty, rfl, rfl, hl⟩
    · simp at h
  · simp at h

theorem append_sound {t ty : TypeId} {s x : V} {k : V → List Ob → Prop} (hr : Rep E H w) (hs : WF E H.length s) (hx : WF E H.length x) (h : appendK P t s x H k) :
    EffOk P E H w (do pure (.value (← Builtin.append_ #[t, t] ty #[emb E s, emb E x]))) k := by
  unfold appendK at h
  split at h <;> try exact h.elim
  rename_i el hu
  split at h <;> try exact h.elim
  rename_i b hb
  split at h <;> try exact h.elim
  rename_i sz hsz
  split at h <;> try exact h.elim
  rename_i z hz
  split at h <;> try exact h.elim
  rename_i lab cols st len n hsrc
  split at h <;> try exact h.elim
  rename_i hown
  obtain ⟨i, i1, i2, i3, i4⟩ := bytesOf_info hb hsz hz
  have hsize : (sizeOf el).run P w = .ok sz w := run_sizeOf' hsz
  split at h
  · -- the second is nil
    refine ⟨s, H, E, w, h, hr, hs, Ext.refl E H w, .inl ?_⟩
    rcases srcOf_some hsrc with ⟨rfl, -, -, -, -, -⟩ | ⟨a, cap, l, own, ty', rfl, -, hl⟩
    · simp [Builtin.append_, run_underlying hu, emb, hsize, Builtin.lenOf, Builtin.firstCells]
    · simp only [WF] at hs
      cases a <;> simp [Builtin.append_, run_underlying hu, emb, hsize, Builtin.lenOf, Builtin.firstCells, hs.2.1, storeCells]
  · split at h <;> try exact h.elim
    rename_i hnn _ lab2 cols2 st2 m n2 hsrc2
    split at h <;> try exact h.elim
    rename_i rs happ
    split at h <;> try exact h.elim
    rename_i hd
    simp only [decide_eq_true_eq] at hd
    obtain ⟨hd1, hd2, hd3, hd4⟩ := hd
    obtain ⟨v1, v2, v3, v4, v5⟩ := h
    obtain ⟨a1, a2, _⟩ := appCols_at happ
    rcases srcOf_some hsrc2 with ⟨rfl, -, -, -, -, -⟩ | ⟨aa, cap2, l2, own2, ty2, rfl, -, hl2⟩
    · exact absurd rfl hnn
    obtain ⟨w21, w22, hnews, w23⟩ := slice_cells (P := P) hr hl2 hx v2
    have hc2 : cols2.length = sz := by rw [a2, ← a1, hd1]
    rw [hc2] at w23
    have hnl : (embs E (elemsL st2 m cols2)).length = m * i.size := by simp [embs_eq, elems_length, hc2, i3]
    have hzsz : (emb E z).cells.size = sz := by rw [emb_parts]; simp [embs_eq, hd2]
    have hx' := hx
    simp only [WF] at hx'
    have hsome : 0 < m → ∃ x2, aa = some x2 := fun hm => ⟨_, (hx'.2.2.2 (by omega)).1⟩
    rcases srcOf_some hsrc with ⟨rfl, rfl, rfl, rfl, rfl, z', hz', hcz⟩ | ⟨a, cap, l, own, ty', rfl, rfl, hl⟩
    · -- the first is nil
      simp only at v5
      by_cases hm : m = 0
      · subst hm
        have hn : embs E (elemsL st2 0 cols2) = [] := by simp [elemsL, embs]
        obtain ⟨g1, g2⟩ := add_ghost hr el rs
        refine ⟨_, _, _, w, v5 none 0 (Nat.le_refl _), g1, ?_, g2, .inl ?_⟩
        · simp [WF]
        · rw [hn] at w23
          simp [Builtin.append_, run_underlying hu, emb, hsize, Builtin.lenOf, w23]
      · obtain ⟨x2, rfl⟩ := hsome (by omega)
        have hfits : Builtin.nextslicecap m 0 * b ≤ 281474976710656 := growslice_fits (by omega) (by simpa using v3)
        rw [nextslicecap_zero (by omega)] at hfits
        have hrun := run_append_nil (P := P) (ty := ty) w t el i (emb E z) hu i1 (i4 E) x2 m cap2 (embs E (elemsL st2 m cols2)) hnl (hnews x2 rfl) (by omega) (by omega) (by rw [i2]; exact hfits)
        have hcge : 0 + m ≤ grownCap w m 0 el := by
          show 0 + m ≤ m + _
          omega
        obtain ⟨g1, g2⟩ := append_grow hr.drew el 0 0 st2 m sz 0 (grownCap w m 0 el) cols cols2 rs (Builtin.zeroCells (emb E z).cells (grownCap w m 0 el - m)) happ hd1 trivial rfl w21 w22
          (by simp [Builtin.zeroCells, hzsz]) hcge
        have hel0 : (embs E (elemsL 0 0 cols)).toArray = #[] := by simp [elemsL, embs]
        rw [hel0, Array.empty_append] at g1 g2
        simp only [Nat.zero_add] at g1 g2
        refine ⟨_, _, _, _, v5 (some ⟨w.heap.size, 0, none⟩) (grownCap w m 0 el) (by omega), g1, ?_, (Ext.refl E H w).drew.trans g2, .inl ?_⟩
        · simp only [WF]
          refine ⟨by simp, by omega, by rw [setE_new]; simp, fun _ => by rw [setE_new]; simp [Loc.at]⟩
        · simp only [emb, Sem.run_bind, hrun, Result.andThen_ok, Sem.run_pure]
    · have hs' := hs
      simp only [WF] at hs'
      obtain ⟨s1, s2, s3, s4⟩ := hs'
      simp only at v5
      have htrue : own = true ∧ ty' = el := by
        simp only [ownAt, hl] at hown
        cases own with
        | false => simp at hown
        | true => exact ⟨rfl, Nat.eq_of_beq_eq_true hown⟩
      obtain ⟨rfl, rfl⟩ := htrue
      obtain ⟨w11, w12, holds, w13⟩ := slice_cells (P := P) hr hl hs v1
      have hc1 : cols.length = sz := by rw [← a1, hd1]
      rw [hc1] at w13
      have hN : (H.set l .dead).length = H.length := by simp
      by_cases hfit : len + m ≤ cap
      · by_cases h0 : 0 < cap
        · obtain ⟨s5, s6⟩ := s4 h0
          obtain ⟨w', f1, f2, f3⟩ := append_fits (P := P) hr ty' st len st2 m sz cap n cols cols2 rs hl s6 happ hd1 v1 s3 hfit w21 w22
          refine ⟨.slc a cap H.length 0 (len + m), _, _, w', v5 a cap hfit, f2, ?_, f3, .inl ?_⟩
          · simp only [WF]
            refine ⟨by simp, hfit, by rw [setE_new]; simp, fun hpos => ?_⟩
            rw [setE_new, s5]
            have hstr : (E l).stride = sz := by rw [(hr.ob l _ hl).2.1, hc1]
            simp [Loc.at, hstr]
          · subst s5
            rw [i3] at hnl
            simp [Builtin.append_, run_underlying hu, emb, hsize, Builtin.lenOf, hfit, w23, f1]
        · -- no room at all: nothing is appended
          have hm0 : m = 0 := by omega
          have hl0 : len = 0 := by omega
          have hcap0 : cap = 0 := by omega
          subst hm0; subst hl0; subst hcap0
          have hn : embs E (elemsL st2 0 cols2) = [] := by simp [elemsL, embs]
          obtain ⟨k1, k2⟩ := hr.kill l
          obtain ⟨g1, g2⟩ := add_ghost k1 ty' rs
          rw [hN] at g1 g2
          refine ⟨.slc a 0 H.length 0 (0 + 0), _, _, w, v5 a 0 hfit, g1, ?_, k2.trans g2, .inl ?_⟩
          · simp [WF]
          · rw [hn] at w23
            cases a with
            | none => simp [Builtin.append_, run_underlying hu, emb, hsize, Builtin.lenOf, w23]
            | some x => simp [Builtin.append_, run_underlying hu, emb, hsize, Builtin.lenOf, w23, storeCells]
      · have hm : 0 < m := by omega
        obtain ⟨x2, rfl⟩ := hsome hm
        have hnl' := hnl
        have hfits : Builtin.nextslicecap (len + m) cap * b ≤ 281474976710656 := growslice_fits (by omega) v3
        obtain ⟨k1, k2⟩ := hr.drew.kill l
        have hcge : len + m ≤ grownCap w (len + m) cap ty' := by
          show len + m ≤ len + m + _
          omega
        obtain ⟨g1, g2⟩ := append_grow k1 ty' st len st2 m sz cap (grownCap w (len + m) cap ty') cols cols2 rs (Builtin.zeroCells (emb E z).cells (grownCap w (len + m) cap ty' - (len + m))) happ hd1
          (by rw [hN]; exact w11) w12 (by rw [hN]; exact w21) w22 (by simp [Builtin.zeroCells, hzsz]) hcge
        rw [hN] at g1 g2
        refine ⟨_, _, _, _, v5 (some ⟨w.heap.size, 0, none⟩) (grownCap w (len + m) cap ty') hcge, g1, ?_, ((Ext.refl E H w).drew.trans k2).trans g2, .inl ?_⟩
        · simp only [WF]
          refine ⟨by simp, by omega, by rw [setE_new]; simp, fun _ => by rw [setE_new]; simp [Loc.at]⟩
        · cases a with
          | none =>
            have hcap0 : cap = 0 := by
              rcases Nat.eq_zero_or_pos cap with h | h
              · exact h
              · have := (s4 h).1; cases this
            have hl0 : len = 0 := by omega
            subst hcap0; subst hl0
            rw [Nat.zero_add] at hfits ⊢
            rw [nextslicecap_zero (by omega)] at hfits
            have hrun := run_append_nil (P := P) (ty := ty) w t ty' i (emb E z) hu i1 (i4 E) x2 m cap2 (embs E (elemsL st2 m cols2)) hnl (hnews x2 rfl) (by omega) (by omega) (by rw [i2]; exact hfits)
            have hel0 : (embs E (elemsL st 0 cols)).toArray = #[] := by simp [elemsL, embs]
            simp only [emb, Sem.run_bind, hrun, Result.andThen_ok, Sem.run_pure, hel0, Array.empty_append]
          | some x =>
            have hol : (embs E (elemsL st len cols)).length = len * i.size := by simp [embs_eq, elems_length, hc1, i3]
            have hrun := run_append_grow (P := P) (ty := ty) w t ty' i (emb E z) hu i1 (i4 E) x len cap (embs E (elemsL st len cols)) hol (holds x rfl) x2 m cap2 (embs E (elemsL st2 m cols2)) hnl (hnews x2 rfl) (by omega) (by omega) (by rw [i2]; exact hfits)
            simp only [emb, Sem.run_bind, hrun, Result.andThen_ok, Sem.run_pure]
end
end Go.Proofs.YtonohiifmepjfaaDoor.Ev
