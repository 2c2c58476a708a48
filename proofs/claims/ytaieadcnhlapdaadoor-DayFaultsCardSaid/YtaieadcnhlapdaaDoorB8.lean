/- Literals, new variables, stores, make: that the real operation does what is told of it. -/
import Derived.Test.YtaieadcnhlapdaaDoorB7
namespace Go.AB

theorem run_listMapM {P : Program} {w : World} {α β : Type} {f : α → Sem β} {h : α → β} : ∀ (l : List α), (∀ x ∈ l, (f x).run P w = .ok (h x) w) → (l.mapM f).run P w = .ok (l.map h) w
  | [], _ => by simp
  | x :: l, hx => by
    rw [List.mapM_cons, Sem.run_bind, hx x (by simp), Result.andThen_ok, Sem.run_bind, run_listMapM l (fun y hy => hx y (by simp [hy]))]
    rfl

theorem run_arrayMapM {P : Program} {w : World} {α β : Type} {f : α → Sem β} {h : α → β} (l : Array α) (hx : ∀ x ∈ l, (f x).run P w = .ok (h x) w) : (l.mapM f).run P w = .ok (l.map h) w := by
  have h1 := run_listMapM (P := P) (w := w) (f := f) (h := h) l.toList (fun x hm => hx x (Array.mem_toList_iff.1 hm))
  rw [← Array.toList_mapM, Sem.run_map] at h1
  cases hm : (l.mapM f).run P w with
  | ok a w' =>
    rw [hm] at h1
    simp only [Result.andThen_ok, Result.ok.injEq] at h1
    obtain ⟨e, rfl⟩ := h1
    congr 1
    apply Array.ext'
    simp [e]
  | halt x w' => rw [hm] at h1; cases h1

/-- All fields' types are known. -/
def fsOk (P : Program) (t : Nat) : Bool := match P.underlying t with
  | some (.struct fs) => fs.toList.all fun f => (P.info? f.type).isSome
  | some (.array _ e) => (P.info? e).isSome
  | _ => false

theorem exBuild_ok {P : Program} {G : Gh} {w : World} {t : Nat} {ps : List (Nat × AV)} {qs : Array (Nat × Value)} {K : AV → Prop} (hok : fsOk P t = true) (h : exBuild P t ps K) (hl : qs.toList.length = ps.length)
    (hq : ∀ (i : Nat) (p : Nat × AV) (q : Nat × Value), ps[i]? = some p → qs.toList[i]? = some q → p.1 = q.1 ∧ RepA G w p.2 q.2) :
    ∃ v u, (Instr.build t qs).run P w = .ok u w ∧ RepA G w v u ∧ K v := by
  unfold exBuild at h
  split at h
  · rename_i zs hz
    split at h
    · rename_i cs hf
      obtain ⟨i, zv, hi, hzv, hzs, hrep⟩ := zeroA_of hz
      obtain ⟨out, ho, hr⟩ := fillA_ok (G := G) (w := w) ps zs zv.cells qs.toList cs hf (hrep G w) hl hq
      have hzr : (zeroValue t).run P w = .ok zv w := by simp [zeroValue, typeInfo, hi, hzv]
      refine ⟨_, .agg out.toList.toArray, ?_, hr.toAgg, h⟩
      unfold fsOk at hok
      split at hok
      · rename_i fs hu
        have hpl : (fun j => (fs.map fun f => (f.offset, ((P.info? f.type).map (·.size)).getD 0))[j]?) = plA P t := by
          funext j
          simp only [plA, hu, Array.getElem?_map]
          cases hj : fs[j]? with
          | none => rfl
          | some f =>
            have hm : f ∈ fs.toList := by
              have := Array.mem_of_getElem? hj
              exact Array.mem_toList_iff.2 this
            have := List.all_eq_true.1 hok f hm
            obtain ⟨x, hx⟩ := Option.isSome_iff_exists.1 this
            simp [hx]
        have hmap : (fs.mapM fun f => (do pure (f.offset, ← sizeOf f.type) : Sem (Nat × Nat))).run P w = .ok (fs.map fun f => (f.offset, ((P.info? f.type).map (·.size)).getD 0)) w := by
          refine run_arrayMapM fs (fun f hm => ?_)
          have := List.all_eq_true.1 hok f (Array.mem_toList_iff.2 hm)
          obtain ⟨x, hx⟩ := Option.isSome_iff_exists.1 this
          simp [sizeOf, typeInfo, hx]
        simp only [Instr.build, Sem.run_bind, hzr, Result.andThen_ok, run_underlying hu, hmap]
        rw [show (fun x : Nat => (fs.map fun f => (f.offset, ((P.info? f.type).map (·.size)).getD 0))[x]?) = plA P t from hpl, ho]
        simp
      · rename_i n e hu
        obtain ⟨x, hx⟩ := Option.isSome_iff_exists.1 hok
        have hpl : (fun j => some (j * x.size, x.size)) = plA P t := by funext j; simp [plA, hu, hx]
        simp only [Instr.build, Sem.run_bind, hzr, Result.andThen_ok, run_underlying hu]
        simp only [sizeOf, typeInfo, Sem.run_bind, run_program, Result.andThen_ok, hx, Sem.run_pure]
        rw [hpl, ho]
        simp
      · cases hok
    · exact h.elim
  · exact h.elim

theorem toDV_rep {G : Gh} {w : World} {a : AV} {d : DV} {x : Value} (h : toDV a = some d) (hc : isCell a = true) (hr : RepA G w a x) :
    x.cells.size = (dcells d).length ∧ (∀ v ∈ x.cells.toList, oneCell v = true) ∧ ∀ (j : Nat) (e : DV), (dcells d)[j]? = some e → ∃ y, x.cells.toList[j]? = some y ∧ RepD G.st w e y := by
  have hL := hr.cells hc
  have hone := hL.one
  have main : ∀ (cs : List AV) (ds : List DV), acells a = cs → dcells d = ds → ds.length = cs.length → (∀ (j : Nat) (e : DV), ds[j]? = some e → ∃ c, cs[j]? = some c ∧ toD1 c = some e) →
      x.cells.size = (dcells d).length ∧ (∀ v ∈ x.cells.toList, oneCell v = true) ∧ ∀ (j : Nat) (e : DV), (dcells d)[j]? = some e → ∃ y, x.cells.toList[j]? = some y ∧ RepD G.st w e y := by
    intro cs ds hcs hds hl hg
    have hlen := hL.len
    rw [hcs] at hlen
    refine ⟨by rw [hds, hl, ← hlen]; simp, hone, fun j e he => ?_⟩
    rw [hds] at he
    obtain ⟨c, hc1, hc2⟩ := hg j e he
    have hjl : j < x.cells.toList.length := by rw [hlen]; exact (List.getElem?_eq_some_iff.1 hc1).1
    have hy := List.getElem?_eq_getElem hjl
    refine ⟨_, hy, toD1_rep hc2 (hL.rep j c _ (by rw [hcs]; exact hc1) hy) (hone _ (List.getElem_mem hjl))⟩
  cases a with
  | agg cs =>
    simp only [toDV] at h
    split at h
    · cases h
    · rename_i ds hds
      cases h
      obtain ⟨h1, h2⟩ := toDs_get cs ds hds
      exact main cs ds rfl rfl h1 h2
  | int k n => exact main _ _ rfl (dcells_toD1 (a := .int k n) h) rfl (fun j e he => by cases j with | zero => simp at he; subst he; exact ⟨_, rfl, h⟩ | succ j => simp at he)
  | bool n => exact main _ _ rfl (dcells_toD1 (a := .bool n) h) rfl (fun j e he => by cases j with | zero => simp at he; subst he; exact ⟨_, rfl, h⟩ | succ j => simp at he)
  | str n => exact main _ _ rfl (dcells_toD1 (a := .str n) h) rfl (fun j e he => by cases j with | zero => simp at he; subst he; exact ⟨_, rfl, h⟩ | succ j => simp at he)
  | raw n => exact main _ _ rfl (dcells_toD1 (a := .raw n) h) rfl (fun j e he => by cases j with | zero => simp at he; subst he; exact ⟨_, rfl, h⟩ | succ j => simp at he)
  | sl z es t => exact main _ _ rfl (dcells_toD1 (a := .sl z es t) h) rfl (fun j e he => by cases j with | zero => simp at he; subst he; exact ⟨_, rfl, h⟩ | succ j => simp at he)
  | _ => cases h

/-- Parts in their order, each of z cells. -/
theorem fill_seq (z : Nat) : ∀ (qs : List (Nat × Value)) (k : Nat) (cells : Array Value), (∀ (i : Nat) (q : Nat × Value), qs[i]? = some q → q.1 = k + i ∧ q.2.cells.size = z) → (k + qs.length) * z ≤ cells.size →
    ∃ out, Instr.fill (fun i => some (i * z, z)) cells qs = some out ∧ out.toList = cells.toList.take (k * z) ++ (qs.map fun q => q.2.cells.toList).flatten ++ cells.toList.drop ((k + qs.length) * z)
  | [], k, cells, _, _ => ⟨cells, rfl, by simp⟩
  | (i, x) :: qs, k, cells, h, hf => by
    obtain ⟨h1, h2⟩ := h 0 _ rfl
    simp only [Nat.add_zero] at h1 h2
    subst h1
    simp only [List.length_cons] at hf
    have hle : i * z + z ≤ cells.size := by
      have : (i + 1) * z ≤ (i + (qs.length + 1)) * z := Nat.mul_le_mul_right _ (by omega)
      rw [Nat.add_mul] at this; omega
    have hto : ((x.cells.zipIdx).foldl (fun (cs : Array Value) (y : Value × Nat) => cs.setIfInBounds (i * z + y.2) y.1) cells).toList = splV cells.toList (i * z) x.cells.toList := by
      have hfold := foldl_set (i * z) x.cells.toList 0 cells (by simp; omega)
      rw [Nat.add_zero] at hfold
      rw [← hfold, ← Array.foldl_toList]
      congr 1
      simp
    have hsz : ((x.cells.zipIdx).foldl (fun (cs : Array Value) (y : Value × Nat) => cs.setIfInBounds (i * z + y.2) y.1) cells).size = cells.size := by
      have := congrArg List.length hto
      rw [Array.length_toList] at this
      refine this.trans ?_
      simp [splV]
      omega
    obtain ⟨out, ho, hout⟩ := fill_seq z qs (i + 1) _ (fun j q hj => by
      obtain ⟨a, b⟩ := h (j + 1) q (by simpa using hj)
      exact ⟨by omega, b⟩) (by rw [hsz, show i + 1 + qs.length = i + (qs.length + 1) from by omega]; exact hf)
    refine ⟨out, ?_, ?_⟩
    · rw [← ho]
      simp only [Instr.fill]
      simp [h2]
      intro h4
      omega
    · rw [hout, hto]
      have hxl : x.cells.toList.length = z := by simp [h2]
      have hcl : cells.toList.length = cells.size := by simp
      have e1 : (splV cells.toList (i * z) x.cells.toList).take ((i + 1) * z) = cells.toList.take (i * z) ++ x.cells.toList := by
        unfold splV
        have hl : (cells.toList.take (i * z) ++ x.cells.toList).length = (i + 1) * z := by simp [h2, Nat.add_mul]; omega
        rw [← hl, List.take_left]
      have e2 : (splV cells.toList (i * z) x.cells.toList).drop ((i + 1 + qs.length) * z) = cells.toList.drop ((i + (qs.length + 1)) * z) := by
        unfold splV
        have hl : (cells.toList.take (i * z) ++ x.cells.toList).length = i * z + z := by simp [h2]; omega
        have hge : i * z + z ≤ (i + 1 + qs.length) * z := by
          have : (i + 1) * z ≤ (i + 1 + qs.length) * z := Nat.mul_le_mul_right _ (by omega)
          rw [Nat.add_mul] at this; omega
        rw [List.drop_append, List.drop_eq_nil_of_le (by omega), List.nil_append, List.drop_drop, hl, hxl]
        congr 1
        rw [show i + 1 + qs.length = i + (qs.length + 1) from by omega] at hge ⊢
        omega
      rw [e1, e2]
      simp

theorem flatten_get {z : Nat} : ∀ (ls : List (List Value)), (∀ l ∈ ls, l.length = z) → ∀ (i j : Nat) (l : List Value), ls[i]? = some l → j < z → ls.flatten[i * z + j]? = l[j]?
  | [], _, i, j, l, h, _ => by simp at h
  | l0 :: ls, hl, 0, j, l, h, hj => by
    simp at h; subst h
    have := hl l0 (by simp)
    rw [List.flatten_cons, Nat.zero_mul, Nat.zero_add, List.getElem?_append_left (by omega)]
  | l0 :: ls, hl, i + 1, j, l, h, hj => by
    have h0 := hl l0 (by simp)
    rw [List.flatten_cons, List.getElem?_append_right (by rw [h0, Nat.add_mul]; omega), h0, show (i + 1) * z + j - z = i * z + j from by rw [Nat.add_mul]; omega]
    exact flatten_get ls (fun l hm => hl l (by simp [hm])) i j l (by simpa using h) hj

theorem flatten_len {z : Nat} : ∀ (ls : List (List Value)), (∀ l ∈ ls, l.length = z) → ls.flatten.length = ls.length * z
  | [], _ => by simp
  | l0 :: ls, hl => by
    have h0 := hl l0 (by simp)
    rw [List.flatten_cons, List.length_append, h0, flatten_len ls (fun l hm => hl l (by simp [hm])), List.length_cons, Nat.add_mul]
    omega

def toDVs : List AV → Option (List DV)
  | [] => some []
  | v :: r => match toDV v with
    | none => none
    | some d => match toDVs r with
      | none => none
      | some ds => some (d :: ds)

theorem toDVs_get : ∀ (cs : List AV) (ds : List DV), toDVs cs = some ds → ds.length = cs.length ∧ ∀ (j : Nat) (d : DV), ds[j]? = some d → ∃ c, cs[j]? = some c ∧ toDV c = some d
  | [], ds, h => by cases h; exact ⟨rfl, by simp⟩
  | c :: cs, ds, h => by
    simp only [toDVs] at h
    split at h
    · cases h
    · rename_i d hd
      split at h
      · cases h
      · rename_i r hr
        cases h
        obtain ⟨h1, h2⟩ := toDVs_get cs r hr
        refine ⟨by simp [h1], fun j d' hj => ?_⟩
        cases j with
        | zero => simp at hj; subst hj; exact ⟨c, rfl, hd⟩
        | succ j => simp at hj; exact h2 j d' hj

/-- A literal of a slice: its elements, all told, in their order. -/
def exLit (P : Program) (m : AH) (t len : Nat) (ps : List (Nat × AV)) (K : AH → AV → Prop) : Prop := match apA P t with
  | some (z, _) => match toDVs (ps.map (·.2)) with
    | some ds => (ps.map (·.1) == List.range len) = true ∧ (ps.all fun p => isCell p.2) = true ∧ (ds.all fun d => (dcells d).length == z) = true ∧ len * z ≤ 16777216 ∧ len ≤ 16777216 ∧ K (m.app .no) (.sl z ds (.own m.nx))
    | none => False
  | none => False

theorem exLit_ok {P : Program} {E : Env} {G : Gh} {m : AH} {w : World} {t len : Nat} {ps : List (Nat × AV)} {qs : Array (Nat × Value)} {K : AH → AV → Prop} (h : exLit P m t len ps K) (hi : Inv E G m w) (hl : qs.toList.length = ps.length)
    (hq : ∀ (i : Nat) (p : Nat × AV) (q : Nat × Value), ps[i]? = some p → qs.toList[i]? = some q → p.1 = q.1 ∧ RepA G w p.2 q.2) :
    ∃ G' m' w' v u, (Instr.buildSlice t len qs).run P w = .ok u w' ∧ Ext G w G' w' ∧ Inv E G' m' w' ∧ RepA G' w' v u ∧ K m' v := by
  unfold exLit at h
  split at h
  · rename_i z y hap
    split at h
    · rename_i ds hds
      obtain ⟨h1, h2, h3, h4, h5, hK⟩ := h
      obtain ⟨e, inf, zv, hu, hinf, hzv, hzc, hsz, hby, hy⟩ := apA_of hap
      obtain ⟨dl, dg⟩ := toDVs_get _ _ hds
      have h1' : ps.map (·.1) = List.range len := by simpa using h1
      have hlen : ps.length = len := by have := congrArg List.length h1'; simpa using this
      have hdz : ∀ (i : Nat) (d : DV), ds[i]? = some d → (dcells d).length = z := fun i d hd => by
        have := List.all_eq_true.1 h3 d (List.mem_of_getElem? hd)
        simpa using this
      have each : ∀ (i : Nat) (q : Nat × Value), qs.toList[i]? = some q → q.1 = 0 + i ∧ q.2.cells.size = z ∧ (∀ v ∈ q.2.cells.toList, oneCell v = true) ∧ ∃ d, ds[i]? = some d ∧ ∀ (j : Nat) (e : DV), (dcells d)[j]? = some e → ∃ y, q.2.cells.toList[j]? = some y ∧ RepD G.st w e y := by
        intro i q hqi
        have hil : i < ps.length := by rw [← hl]; exact (List.getElem?_eq_some_iff.1 hqi).1
        have hp := List.getElem?_eq_getElem hil
        obtain ⟨e1, e2⟩ := hq i _ q hp hqi
        have hd' : i < ds.length := by rw [dl]; simpa using hil
        have hd := List.getElem?_eq_getElem hd'
        obtain ⟨c, hc1, hc2⟩ := dg i _ hd
        rw [List.getElem?_map, hp] at hc1
        cases hc1
        have hcell : isCell ps[i].2 = true := List.all_eq_true.1 h2 _ (List.getElem_mem hil)
        obtain ⟨r1, r2, r3⟩ := toDV_rep hc2 hcell e2
        refine ⟨?_, by rw [r1]; exact hdz i _ hd, r2, _, hd, r3⟩
        rw [← e1]
        have : (ps.map (·.1))[i]? = some ps[i].1 := by rw [List.getElem?_map, hp]; rfl
        rw [h1', List.getElem?_range (by omega)] at this
        have := Option.some.inj this
        omega
      have hql : qs.toList.length = len := by rw [hl, hlen]
      let cells0 : Array Value := (Array.range (len * z)).map fun i => (if len * z = 0 then (#[] : Array Value) else zv.cells)[i % (if len * z = 0 then (#[] : Array Value) else zv.cells).size]!
      have hc0 : cells0.size = len * z := by simp [cells0]
      obtain ⟨out, ho, hout⟩ := fill_seq z qs.toList 0 cells0 (fun i q hqi => ⟨(each i q hqi).1, (each i q hqi).2.1⟩) (by rw [hc0, hql, Nat.zero_add]; exact Nat.le_refl _)
      rw [Nat.zero_mul, Nat.zero_add, hql, List.take_zero, List.nil_append, List.drop_eq_nil_of_le (by simp [hc0]), List.append_nil] at hout
      let us := (qs.toList.map fun q => q.2.cells.toList).flatten
      have husl : ∀ l ∈ qs.toList.map (fun q => q.2.cells.toList), l.length = z := by
        intro l hm
        obtain ⟨q, hqm, rfl⟩ := List.mem_map.1 hm
        obtain ⟨i, hqi⟩ := List.getElem?_of_mem hqm
        have := (each i q hqi).2.1
        simpa using this
      have hdsl : ds.length = len := by rw [dl]; simpa using hlen
      have hul : us.length = len * z := by
        have := flatten_len _ husl
        rw [List.length_map, hql] at this
        exact this
      obtain ⟨G', g1, g2, g3⟩ := hi.newArr .no z ds len e us [] hdz (fun i d hd j c hc => by
        have hiq : i < qs.toList.length := by rw [hql, ← hdsl]; exact (List.getElem?_eq_some_iff.1 hd).1
        have hqi := List.getElem?_eq_getElem hiq
        obtain ⟨_, _, _, d', hd', hr⟩ := each i _ hqi
        rw [hd] at hd'
        cases hd'
        obtain ⟨y, hy1, hy2⟩ := hr j c hc
        have hj : j < z := by rw [← hdz i d hd]; exact (List.getElem?_eq_some_iff.1 hc).1
        exact ⟨y, by rw [flatten_get _ husl i j _ (by rw [List.getElem?_map, hqi]; rfl) hj]; exact hy1, hy2⟩) (by omega) (by simp [maxLen]; omega) (by simp [hul])
      have hdsl' : ds.length = len := hdsl
      rw [List.append_nil] at g1 g2 g3
      refine ⟨G', _, _, _, .slice (some ⟨w.heap.size, 0, none⟩) len len, ?_, g1, g2, ?_, hK⟩
      · have hus : us.toArray = out := by apply Array.ext'; rw [hout]
        have hgt : ¬ (len * z > 2 ^ 24) := by omega
        have hzr : (zeroValue e).run P w = .ok zv w := by simp [zeroValue, typeInfo, hinf, hzv]
        rw [hus]
        simp only [Instr.buildSlice, Sem.run_bind, run_underlying hu, Result.andThen_ok, sizeOf, typeInfo, run_program, hinf, Sem.run_pure, hsz, if_neg hgt]
        by_cases h0 : len * z = 0
        · have hc : cells0 = (Array.range (len * z)).map fun x => (#[] : Array Value)[x % (#[] : Array Value).size]! := by simp only [cells0, if_pos h0]
          simp only [if_pos h0, Sem.run_bind, Sem.run_pure, Result.andThen_ok]
          rw [hc] at ho
          rw [ho]
          simp [newRow]
        · have hc : cells0 = (Array.range (len * z)).map fun x => zv.cells[x % zv.cells.size]! := by simp only [cells0, if_neg h0]
          simp only [if_neg h0, Sem.run_bind, Sem.run_pure, hzr, Result.andThen_ok]
          rw [hc] at ho
          rw [ho]
          simp [newRow]
      · rw [hdsl'] at g3; exact g3
    · exact h.elim
  · exact h.elim

end Go.AB
