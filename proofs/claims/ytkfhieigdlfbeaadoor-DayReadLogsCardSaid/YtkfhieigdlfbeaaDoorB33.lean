/- The library's builder of strings: what its methods come to, block by block. -/
import Derived.Test.YtkfhieigdlfbeaaDoorB32
import Derived.Shelf.Strings.BuilderK
set_option linter.unusedVariables false
set_option linter.unusedSimpArgs false
namespace Go.AB
open Go.RowKit Go.Shelf Go.Proofs

/-- A builder's buffer, in a world. -/
def RowW (w : World) (b e : Nat) (s : List UInt8) (v : Value) : Prop :=
  (v = .slice none 0 0 ∧ s = []) ∨ ∃ g cap cur fz, v = .slice (some ⟨g, 0, none⟩) s.length cap ∧ s ≠ [] ∧ g ≠ b ∧
    w.heap[g]? = some (.cells cur e fz) ∧ fz.2 ≤ s.length ∧ s.length ≤ cap ∧ cap ≤ maxLen ∧ cur.size = cap ∧ cur.toList.take s.length = s.map (fun x => Value.int .u8 x.toNat)

/-- All but two blocks stays. -/
structure Foot (w w' : World) (b : Nat) (r : Option Nat) : Prop where
  os : w'.os = w.os
  tape : w'.tape = w.tape
  output : w'.output = w.output
  size : w.heap.size ≤ w'.heap.size
  block : ∀ k, k < w.heap.size → k ≠ b → some k ≠ r → w'.heap[k]? = w.heap[k]?

theorem RowW.keep {w w' : World} {b e : Nat} {s : List UInt8} {v : Value} (h : RowW w b e s v) (hk : ∀ g, v.ownBlock = some g → g ≠ b → w'.heap[g]? = w.heap[g]?) : RowW w' b e s v := by
  rcases h with h | ⟨g, cap, cur, fz, rfl, h2, h3, h4, h5⟩
  · exact .inl h
  · exact .inr ⟨g, cap, cur, fz, rfl, h2, h3, (hk g rfl h3).trans h4, h5⟩

theorem RowW.ownF {w : World} {b e : Nat} {s : List UInt8} {v : Value} (h : RowW w b e s v) : w.ownsRowF 0 e 1 v s.length (Lib.byteCells s) := by
  refine ⟨by simp [Lib.byteCells], ?_⟩
  rcases h with ⟨rfl, rfl⟩ | ⟨g, cap, cur, fz, rfl, h2, h3, h4, h5, h6, h7, h8, h9⟩
  · exact .inl ⟨rfl, rfl⟩
  · exact .inr ⟨g, cap, cur, fz, rfl, Nat.zero_le _, h4, by omega, h6, h7, by omega, by rw [Nat.mul_one]; exact h9⟩

theorem RowW.of {w : World} {b e B n : Nat} {s : List UInt8} {v : Value} (h : w.ownsRowF B e 1 v n (Lib.byteCells s)) (hn : n = s.length) (h0 : s ≠ []) (hb : ∀ g, v.ownBlock = some g → g ≠ b) : RowW w b e s v := by
  subst hn
  rcases h.2 with ⟨_, hz⟩ | ⟨g, cap, cur, fz, rfl, _, h4, h5, h6, h7, h8, h9⟩
  · exact absurd (List.length_eq_zero_iff.1 hz) h0
  · exact .inr ⟨g, cap, cur, fz, rfl, h0, hb g rfl, h4, by omega, h6, h7, by omega, by rw [Nat.mul_one] at h9; exact h9⟩

theorem run_append_bytes {P : Program} (w : World) (t u ty e : TypeId) (i : TypeInfo) (ht : P.underlying t = some (.slice e)) (hu : P.underlying u = some .string) (hi : P.info? e = some i) (hz : i.zero = some (.int .u8 0))
    (hsize : i.size = 1) (hby : i.bytes = 1) {b : Nat} {s : List UInt8} {v : Value} (hr : RowW w b e s v) (hb : b < w.heap.size) (x : List UInt8) (hx : x ≠ []) (hl : s.length + x.length ≤ 140737488355328) :
    ∃ v' w', (Builtin.append_ #[t, u] ty #[v, .string ⟨x.toArray⟩]).run P w = .ok v' w' ∧ RowW w' b e (s ++ x) v' ∧ w.grownBy w' v.ownBlock ∧ (v'.ownBlock = v.ownBlock ∨ ∀ g, v'.ownBlock = some g → w.heap.size ≤ g) := by
  have hxs : (⟨x.toArray⟩ : ByteArray).size = x.length := by rw [Lib.size_eq]
  have hsc : Lib.strCells ⟨x.toArray⟩ = Lib.byteCells x := by rw [Lib.strCells_eq]
  have h0 : s ++ x ≠ [] := fun h => hx (List.append_eq_nil_iff.1 h).2
  have hm : s.length + (⟨x.toArray⟩ : ByteArray).size ≤ maxLen := by rw [hxs]; unfold maxLen; omega
  have hm2 : s.length + (⟨x.toArray⟩ : ByteArray).size ≤ 140737488355328 := by rw [hxs]; omega
  have fin : ∀ B v' w', w'.ownsRowF B e 1 v' (s.length + (⟨x.toArray⟩ : ByteArray).size) (Lib.byteCells s ++ Lib.strCells ⟨x.toArray⟩) → (∀ g, v'.ownBlock = some g → g ≠ b) → RowW w' b e (s ++ x) v' := by
    intro B v' w' h hne
    rw [hsc, ← Lib.byteCells_append] at h
    exact RowW.of h (by rw [hxs, List.length_append]) h0 hne
  rcases hr with ⟨rfl, rfl⟩ | ⟨g, cap, cur, fz, rfl, h2, h3, h4, h5, h6, h7, h8, h9⟩
  · obtain ⟨v', w', k1, k2, k3, k4⟩ := Lib.run_append_own_stringF (P := P) w w.heap.size t u ty e i ht hu hi hz hsize hby (.slice none 0 0) 0 [] ⟨rfl, .inl ⟨rfl, rfl⟩⟩ ⟨x.toArray⟩ (by simpa using hm) (by simpa using hm2) (Nat.le_refl _)
    have hf : ∀ g, v'.ownBlock = some g → w.heap.size ≤ g := by
      intro g hg
      rcases k2.2 with ⟨hv, hz⟩ | ⟨g', cap, cur, fz, rfl, hbg, _⟩
      · rw [hxs] at hz; exact absurd (List.length_eq_zero_iff.1 (by omega)) hx
      · cases hg; exact hbg
    exact ⟨v', w', k1, fin _ v' w' (by simpa [Lib.byteCells] using k2) (fun g hg => by have := hf g hg; omega), k3, .inr hf⟩
  · have hown := RowW.ownF (.inr ⟨g, cap, cur, fz, rfl, h2, h3, h4, h5, h6, h7, h8, h9⟩ : RowW w b e s _)
    obtain ⟨v', w', k1, k2, k3, _⟩ := Lib.run_append_own_stringF (P := P) w 0 t u ty e i ht hu hi hz hsize hby _ _ _ hown ⟨x.toArray⟩ hm hm2 (Nat.zero_le _)
    by_cases hroom : s.length + (⟨x.toArray⟩ : ByteArray).size ≤ cap
    · have hr := Lib.run_append_room_stringF (P := P) w t u ty e i ht hu hi hsize g s.length cap cur fz h4 h5 ⟨x.toArray⟩ hroom (by omega)
      rw [k1] at hr
      have e1 : v' = .slice (some ⟨g, 0, none⟩) (s.length + (⟨x.toArray⟩ : ByteArray).size) cap := by injection hr
      have e2 : v'.ownBlock = some g := by rw [e1]; rfl
      exact ⟨v', w', k1, fin _ v' w' k2 (fun g' hg' => by rw [e2] at hg'; cases hg'; exact h3), k3, .inl e2⟩
    · have holds : ∀ j u, (Lib.byteCells s)[j]? = some u → w.cell? ((⟨g, 0, none⟩ : Addr).add j) = some u := hown.cells (g := g) rfl
      have hr := Lib.run_append_grow_string (P := P) w t u ty e i (.int .u8 0) ht hu hi hz ⟨g, 0, none⟩ s.length cap (Lib.byteCells s) (by rw [hsize]; simp [Lib.byteCells]) holds ⟨x.toArray⟩ (by omega) (by unfold maxLen at hm; omega) (by rw [hby]; exact growslice_fits (by omega) (by omega))
      rw [k1] at hr
      have e1 : v'.ownBlock = some w.heap.size := by injection hr with e1 e2; rw [e1]; rfl
      exact ⟨v', w', k1, fin _ v' w' k2 (fun g' hg' => by rw [e1] at hg'; cases hg'; omega), k3, .inr (fun g' hg' => by rw [e1] at hg'; cases hg'; exact Nat.le_refl _)⟩

theorem wpList_append_bytes {P : Program} {w : World} {ops : Array Oper} {rest : List Oper} {o : Oper} {a : Act} {Q : Exit → Act → World → Prop} (hgd : o.guard = none) (sl x : Operand) (t u : TypeId)
    (ho : o.op = .call { callee := .builtin .append, args := #[sl, x], argTypes := #[t, u] })
    (e : TypeId) (i : TypeInfo) (ht : P.underlying t = some (.slice e)) (hu : P.underlying u = some .string) (hi : P.info? e = some i) (hz : i.zero = some (.int .u8 0)) (hsize : i.size = 1) (hby : i.bytes = 1)
    {b : Nat} {s : List UInt8} {v : Value} (hs : a.eval sl = v) (hr : RowW w b e s v) (hb : b < w.heap.size) (xs : List UInt8) (hx : a.eval x = .string ⟨xs.toArray⟩) (hx0 : xs ≠ []) (hl : s.length + xs.length ≤ 140737488355328)
    (h : ∀ v' w', RowW w' b e (s ++ xs) v' → w.grownBy w' v.ownBlock → (v'.ownBlock = v.ownBlock ∨ ∀ g, v'.ownBlock = some g → w.heap.size ≤ g) → wpList P ops Q rest (a.put o.dst v') w') : wpList P ops Q (o :: rest) a w := by
  refine wpList_plain hgd fun K hK => ?_
  obtain ⟨v', w', h1, h2, h3, h4⟩ := run_append_bytes (P := P) w t u o.type e i ht hu hi hz hsize hby hr hb xs hx0 hl
  unfold Oper.wp execOp
  simp only [ho, resolve, invoke, builtin, Sem.run_bind, Sem.run_pure, Result.andThen_ok, List.map_toArray, List.map_cons, List.map_nil, hs, hx, h1]
  exact hK _ _ (h v' w' h2 h3 h4)

/-- A builder in a world. -/
def BldW (w : World) (b T e : Nat) (s : List UInt8) (p v : Value) : Prop := w.heap[b]? = some (.cells #[p, v] T (0, 0)) ∧ (p = .pointer none ∨ p = .pointer (some ⟨b, 0, none⟩)) ∧ RowW w b e s v

theorem BldW.lt {w : World} {b T e : Nat} {s : List UInt8} {p v : Value} (h : BldW w b T e s p v) : b < w.heap.size := (Array.getElem?_eq_some_iff.1 h.1).1

section
variable {P : Program} {ρ : Go.Shelf.Ren}

theorem bld_copyCheck (L : Lays.n240 P ρ) (X : Builder.X72 P ρ) {b : Nat} {w : World} {s : List UInt8} {p v : Value} (h : BldW w b (ρ.t 72) (ρ.t 5) s p v) :
    Calls P (ρ.f 240) #[.pointer (some ⟨b, 0, none⟩)] w fun r w' => r = .returned (.tuple #[]) ∧ Foot w w' b none ∧ BldW w' b (ρ.t 72) (ρ.t 5) s (.pointer (some ⟨b, 0, none⟩)) v ∧ w'.heap.size = w.heap.size ∧ ∀ k, k ≠ b → w'.heap[k]? = w.heap[k]? := by
  obtain ⟨h1, h2 | h2, h3⟩ := h
  · subst h2
    have c0 : w.cell? ⟨b, 0, none⟩ = some (.pointer none) := by simp [World.cell?, h1]
    refine (Any.Builder_copyCheck_fresh L X b w c0 (by simp [World.shape?, h1]) (by simp [World.frozen?, h1])).mono ?_
    rintro e w' ⟨rfl, rfl⟩
    have ho : ∀ k, k ≠ b → (w.setCell ⟨b, 0, none⟩ (.pointer (some ⟨b, 0, none⟩))).heap[k]? = w.heap[k]? := fun k hk => heap_setCell_other w ⟨b, 0, none⟩ k _ hk
    refine ⟨rfl, ⟨rfl, rfl, rfl, by simp [World.setCell], fun k _ hk _ => ho k hk⟩, ⟨?_, .inr rfl, h3.keep (fun g _ hg => ho g hg)⟩, by simp [World.setCell], ho⟩
    rw [heap_setCell_same w b 0 _ _ _ h1]
    rfl
  · subst h2
    have c0 : w.cell? ⟨b, 0, none⟩ = some (.pointer (some ⟨b, 0, none⟩)) := by simp [World.cell?, h1]
    refine (Any.Builder_copyCheck_used L X b w c0).mono ?_
    rintro e w' ⟨rfl, rfl⟩
    exact ⟨rfl, ⟨rfl, rfl, rfl, Nat.le_refl _, fun _ _ _ _ => rfl⟩, ⟨h1, .inr rfl, h3⟩, rfl, fun _ _ => rfl⟩

set_option maxHeartbeats 2000000 in
set_option maxRecDepth 100000 in
theorem bld_write (L : Lays.n166 P ρ) (X : Builder.Extra P ρ) {b : Nat} {w : World} {s : List UInt8} {p v : Value} (h : BldW w b (ρ.t 72) (ρ.t 5) s p v) (x : List UInt8) (hx : x ≠ []) (hl : s.length + x.length ≤ 140737488355328) :
    Calls P (ρ.f 166) #[.pointer (some ⟨b, 0, none⟩), .string ⟨x.toArray⟩] w fun r w' => r = .returned (.tuple #[.int .i64 x.length, .nilIface]) ∧ Foot w w' b v.ownBlock ∧ ∃ v', BldW w' b (ρ.t 72) (ρ.t 5) (s ++ x) (.pointer (some ⟨b, 0, none⟩)) v' ∧ (v'.ownBlock = v.ownBlock ∨ ∀ g, v'.ownBlock = some g → w.heap.size ≤ g) := by
  obtain ⟨i0, hi, hz0, hz1, hz2⟩ := info_parts X.infoByte
  have hlt := h.lt
  have mixed := L.mixed
  have t72 := L.t72; have a72 := L.a72; have z72 := L.z72; have v72 := L.v72; have u72 := run_underlying L.t72
  have t70 := L.t70; have a70 := L.a70; have z70 := L.z70; have v70 := L.v70; have u70 := run_underlying L.t70
  have t37 := L.t37; have a37 := L.a37; have z37 := L.z37; have v37 := L.v37; have u37 := run_underlying L.t37
  have t3 := L.t3; have a3 := L.a3; have z3 := L.z3; have v3 := L.v3; have u3 := run_underlying L.t3
  have t9 := L.t9; have a9 := L.a9; have z9 := L.z9; have v9 := L.v9; have u9 := run_underlying L.t9
  have t4 := L.t4; have a4 := L.a4; have z4 := L.z4; have v4 := L.v4; have u4 := run_underlying L.t4
  have t164 := L.t164; have a164 := L.a164; have z164 := L.z164; have v164 := L.v164; have u164 := run_underlying L.t164
  have t5 := X.t5; have a5 := X.a5; have z5 := X.z5; have v5 := X.v5; have u5 := run_underlying X.t5
  have e240 : ∀ args w, (callFunc (ρ.f 240) args).run P w = .ok (.enter (ρ.f 240) args) w := enters_of L.f240 (by kernel_rfl) rfl
  have hxs : (⟨x.toArray⟩ : ByteArray).size = x.length := by rw [Lib.size_eq]
  go_enter L.f166, Body.n166_ntmps ρ
  go_wp2_with (go_at_fn (ρ.f 240); refine (bld_copyCheck { L with } X.toX72 h).mono ?_)
  rintro e w1 ⟨rfl, hf1, ⟨hbk, _, hrow⟩, hs1, ho1⟩
  have hlt1 : b < w1.heap.size := by rw [hs1]; exact hlt
  have c0 : w1.cell? ⟨b, 0, none⟩ = some (.pointer (some ⟨b, 0, none⟩)) := by rw [Lib.cell_of_heap hbk]; rfl
  have c1 : w1.cell? ⟨b, 1, none⟩ = some v := by rw [Lib.cell_of_heap hbk]; rfl
  go_wp2_with (at_builtin; refine wpList_append_bytes rfl _ _ (ρ.t 37) (ρ.t 9) rfl (ρ.t 5) i0 L.t37 L.t9 hi hz0 hz1 hz2 rfl hrow hlt1 x rfl hx hl ?_)
  intro v' w2 hrow' hgrow hfr
  have hvb : v.ownBlock ≠ some b := by
    rcases hrow with ⟨rfl, _⟩ | ⟨g, cap, cur, fz, rfl, _, h3, _⟩
    · intro e; cases e
    · intro e; cases e; exact h3 rfl
  have hb2 : w2.heap[b]? = some (.cells #[.pointer (some ⟨b, 0, none⟩), v] (ρ.t 72) (0, 0)) := by
    rw [hgrow.block b hlt1 (fun e => hvb e.symm)]
    exact hbk
  have d0 : w2.cell? ⟨b, 0, none⟩ = some (.pointer (some ⟨b, 0, none⟩)) := by rw [Lib.cell_of_heap hb2]; rfl
  have d1 : w2.cell? ⟨b, 1, none⟩ = some v := by rw [Lib.cell_of_heap hb2]; rfl
  have f1 : w2.frozen? ⟨b, 1, none⟩ = false := Lib.frozen_of_heap hb2 1
  obtain ⟨ao, n', cap, rfl⟩ : ∃ ao n' cap, v' = .slice ao n' cap := by
    rcases hrow' with ⟨hv, _⟩ | ⟨g, cap, cur, fz, hv, _⟩
    · exact ⟨_, _, _, hv⟩
    · exact ⟨_, _, _, hv⟩
  go_wp2
  go_ret2
  have ho : ∀ k, k ≠ b → (w2.setCell ⟨b, 1, none⟩ (.slice ao n' cap)).heap[k]? = w2.heap[k]? := fun k hk => heap_setCell_other w2 ⟨b, 1, none⟩ k _ hk
  refine ⟨rfl, ⟨?_, ?_, ?_, ?_, fun k hk hkb hkr => ?_⟩, _, ⟨?_, .inr rfl, hrow'.keep (fun g _ hg => ho g hg)⟩, ?_⟩
  · exact hgrow.os.trans hf1.os
  · exact hgrow.tape.trans hf1.tape
  · exact hgrow.output.trans hf1.output
  · have := hgrow.size; simp [World.setCell]; omega
  · rw [ho k hkb, hgrow.block k (by omega) hkr, ho1 k hkb]
  · rw [heap_setCell_same w2 b 1 _ _ _ hb2]; rfl
  · exact hfr

set_option maxHeartbeats 2000000 in
set_option maxRecDepth 100000 in
theorem bld_string (L : Lays.n169 P ρ) (X : Builder.Extra P ρ) {b : Nat} {w : World} {s : List UInt8} {p v : Value} (h : BldW w b (ρ.t 72) (ρ.t 5) s p v) :
    Calls P (ρ.f 169) #[.pointer (some ⟨b, 0, none⟩)] w fun r w' => r = .returned (.string ⟨s.toArray⟩) ∧ Foot w w' b v.ownBlock ∧ BldW w' b (ρ.t 72) (ρ.t 5) s p v := by
  obtain ⟨hbk, hp, hrow⟩ := h
  have mixed := L.mixed
  have t72 := L.t72; have a72 := L.a72; have z72 := L.z72; have v72 := L.v72; have u72 := run_underlying L.t72
  have t70 := L.t70; have a70 := L.a70; have z70 := L.z70; have v70 := L.v70; have u70 := run_underlying L.t70
  have t37 := L.t37; have a37 := L.a37; have z37 := L.z37; have v37 := L.v37; have u37 := run_underlying L.t37
  have t127 := L.t127; have a127 := L.a127; have z127 := L.z127; have v127 := L.v127; have u127 := run_underlying L.t127
  have t3 := L.t3; have a3 := L.a3; have z3 := L.z3; have v3 := L.v3; have u3 := run_underlying L.t3
  have t9 := L.t9; have a9 := L.a9; have z9 := L.z9; have v9 := L.v9; have u9 := run_underlying L.t9
  have t5 := X.t5; have a5 := X.a5; have z5 := X.z5; have v5 := X.v5; have u5 := run_underlying X.t5
  rcases hrow with ⟨rfl, rfl⟩ | ⟨g, cap, cur, fz, rfl, h2, h3, h4, h5, h6, h7, h8, h9⟩
  · have hUS := Any.unsafeString_none L X
    have c1 : w.drew.cell? ⟨b, 1, none⟩ = some (.slice none 0 0) := by
      have : w.drew.heap[b]? = some (.cells #[p, .slice none 0 0] (ρ.t 72) (0, 0)) := hbk
      rw [Lib.cell_of_heap this]; rfl
    have hSD : (Builtin.unsafeSliceData_ #[(ρ.t 37)] (ρ.t 127) #[.slice none 0 0]).run P w.drew = .ok (.pointer none) w.drew := rfl
    go_enter L.f169, Body.n169_ntmps ρ
    go_wp2
    go_region_o
    all_goals (go_wp2; go_ret; exact ⟨rfl, ⟨rfl, rfl, rfl, Nat.le_refl _, fun _ _ _ _ => rfl⟩, hbk, hp, .inl ⟨rfl, rfl⟩⟩)
  · have hl0 : s.length ≠ 0 := fun h => h2 (List.length_eq_zero_iff.1 h)
    have hown := RowW.ownF (.inr ⟨g, cap, cur, fz, rfl, h2, h3, h4, h5, h6, h7, h8, h9⟩ : RowW w b (ρ.t 5) s _)
    have c1 : w.drew.cell? ⟨b, 1, none⟩ = some (.slice (some ⟨g, 0, none⟩) s.length cap) := by
      have : w.drew.heap[b]? = some (.cells #[p, .slice (some ⟨g, 0, none⟩) s.length cap] (ρ.t 72) (0, 0)) := hbk
      rw [Lib.cell_of_heap this]; rfl
    have hSD : (Builtin.unsafeSliceData_ #[(ρ.t 37)] (ρ.t 127) #[.slice (some ⟨g, 0, none⟩) s.length cap]).run P w.drew = .ok (.pointer (some ⟨g, 0, none⟩)) w.drew :=
      Lib.run_unsafeSliceData_row _ _ _ _ _ _ (by omega)
    have hUS : (Builtin.unsafeString_ #[(ρ.t 127), (ρ.t 3)] (ρ.t 9) #[.pointer (some ⟨g, 0, none⟩), .int .i64 s.length]).run P w.drew = .ok (.string ⟨s.toArray⟩) (w.drew.freeze ⟨g, 0, none⟩ s.length) := by
      refine Lib.run_unsafeString_row w.drew (ρ.t 127) (ρ.t 3) (ρ.t 9) (ρ.t 5) L.t127 X.cellsByte g cur.size (by have hg' : w.drew.heap[g]? = some (.cells cur (ρ.t 5) fz) := h4; simp [World.shape?, hg']) s h2 (by omega) (by unfold maxLen at h7; omega) ?_
      intro j x hx
      exact hown.cells (g := g) rfl j (.int .u8 x.toNat) (by simp [Lib.byteCells, hx])
    have hfo : ∀ k, k ≠ g → (w.drew.freeze ⟨g, 0, none⟩ s.length).heap[k]? = w.heap[k]? := fun k hk => by
      have hk' : ¬ g = k := fun e => hk e.symm
      have hd : w.drew.heap = w.heap := rfl
      simp [World.freeze, hl0, Array.getElem?_modify, hk', hd]
    have hsz : (w.drew.freeze ⟨g, 0, none⟩ s.length).heap.size = w.heap.size := by
      have hd : w.drew.heap = w.heap := rfl
      simp [World.freeze, hl0, hd]
    have hfoot : Foot w (w.drew.freeze ⟨g, 0, none⟩ s.length) b (some g) := ⟨by unfold World.freeze; rw [if_neg hl0]; rfl, by unfold World.freeze; rw [if_neg hl0]; rfl, by unfold World.freeze; rw [if_neg hl0]; rfl, by omega, fun k _ _ hk => hfo k (fun e => hk (by rw [e]))⟩
    have hrow' : RowW (w.drew.freeze ⟨g, 0, none⟩ s.length) b (ρ.t 5) s (.slice (some ⟨g, 0, none⟩) s.length cap) := by
      have hg' : w.drew.heap[g]? = some (.cells cur (ρ.t 5) fz) := h4
      obtain ⟨lo, hi'⟩ := fz
      refine .inr ⟨g, cap, cur, (if lo == hi' then (0, 0 + s.length) else (min lo 0, max hi' (0 + s.length))), rfl, h2, h3, ?_, ?_, h6, h7, h8, h9⟩
      · simp [World.freeze, hl0, Array.getElem?_modify, hg']
      · simp only at h5
        split <;> simp only <;> omega
    go_enter L.f169, Body.n169_ntmps ρ
    go_wp2
    go_region_o
    all_goals (go_wp2; go_ret; exact ⟨rfl, hfoot, (hfo b (fun e => h3 e.symm)).trans hbk, hp, hrow'⟩)
end

/-- Another content of a builder. -/
theorem Inv.setBld {E : Env} {G : Gh} {m : AH} {w w' : World} (h : Inv E G m w) {l : Loc} {cs : List AV} {b T e : Nat} {s s' : List UInt8} {p' v v' : Value} (hc : m.cells l = some cs) (hb : G.bx l = some (b, mapMark))
    (hrow : RowAt E G w b e s v) (hf : Foot w w' b v.ownBlock) (hn : BldW w' b T e s' p' v') (hfr : v'.ownBlock = v.ownBlock ∨ ∀ g, v'.ownBlock = some g → w.heap.size ≤ g) :
    ∃ G', Ext G w G' w' ∧ Inv E G' (m.setCells l [.bld T e s']) w' := by
  obtain ⟨_, hwho, hmay, hst⟩ := mref_at h hb hc
  have hlt : b < w.heap.size := who_lt h hwho
  have hold : ∀ g, v.ownBlock = some g → g < w.heap.size ∧ G.who g = some (.inl l) ∧ (∀ j, ¬ G.st g j) ∧ (E.may g ∨ E.w0.heap.size ≤ g) := by
    intro g hg
    rcases hrow with ⟨rfl, _⟩ | ⟨g', cap, cur, fz, rfl, _, _, e4, e5, e6, _⟩
    · cases hg
    · cases hg
      have := e4.trans hwho
      exact ⟨who_lt h this, this, e5, e6⟩
  have hnew : ∀ g, v'.ownBlock = some g → g < w'.heap.size ∧ (∀ j, ¬ G.st g j) ∧ (E.may g ∨ E.w0.heap.size ≤ g) ∧ ∀ x, G.who g = some x → x = .inl l := by
    intro g hg
    have h1 : g < w'.heap.size := by
      rcases hn.2.2 with ⟨rfl, _⟩ | ⟨g', cap, cur, fz, rfl, _, _, e4, _⟩
      · cases hg
      · cases hg; exact (Array.getElem?_eq_some_iff.1 e4).1
    rcases hfr with hfr | hfr
    · rw [hfr] at hg
      obtain ⟨_, a2, a3, a4⟩ := hold g hg
      exact ⟨h1, a3, a4, fun x hx => by rw [a2] at hx; exact (Option.some.inj hx).symm⟩
    · have h2 := hfr g hg
      exact ⟨h1, (h.fresh g h2).2, .inr (Nat.le_trans h.kept.size h2), fun x hx => by rw [(h.fresh g h2).1] at hx; cases hx⟩
  let wn : Nat → Option (Loc ⊕ Nat) := fun k => if v'.ownBlock = some k then some (.inl l) else G.who k
  have hwn : ∀ k x, G.who k = some x → wn k = some x := fun k x hx => by
    simp only [wn]
    split
    · rename_i hk; rw [(hnew k hk).2.2.2 x hx]
    · exact hx
  have hother : ∀ k x, G.who k = some x → x ≠ .inl l → w'.heap[k]? = w.heap[k]? := fun k x hx hne => by
    refine hf.block k (who_lt h hx) (fun e => ?_) (fun e => ?_)
    · subst e; rw [hwho] at hx; exact hne (Option.some.inj hx).symm
    · rw [(hold k e.symm).2.1] at hx; exact hne (Option.some.inj hx).symm
  have hx : Ext G w { G with who := wn } w' := by
    refine ⟨fun _ _ x => x, fun b2 o2 hs => ?_, fun _ _ x => x, Nat.le_refl _, fun _ _ _ x => x⟩
    refine cell_of_heap (hf.block b2 (st_lt h hs) (fun e => hst o2 (e ▸ hs)) (fun e => (hold b2 e.symm).2.2.1 o2 hs)) o2
  refine ⟨_, hx, ⟨?_, fun l2 cs2 hc2 => ?_, fun t g hg => ?_, fun i hi => ?_, fun i hi => ?_, ?_, fun k hk => ?_, h.ext.trans hx, h.st1⟩⟩
  · refine h.kept.heap hf.os hf.tape hf.output hf.size (fun k h1 h2 => hf.block k (Nat.lt_of_lt_of_le h1 h.kept.size) (fun e => ?_) (fun e => ?_))
    · subst e
      rcases hmay with hm | hm
      · exact h2 hm
      · omega
    · rcases (hold k e.symm).2.2.2 with hm | hm
      · exact h2 hm
      · omega
  · rw [setCells_cells _ hc] at hc2
    by_cases hl2 : l = l2
    · subst hl2
      rw [if_pos rfl] at hc2
      cases hc2
      refine ⟨b, mapMark, hb, hwn b _ hwho, hmay, hst, fun e => absurd rfl e, fun _ => .inr ⟨T, e, s', p', v', rfl, hn.1, hn.2.1, ?_⟩⟩
      rcases hn.2.2 with hr | ⟨g, cap, cur, fz, rfl, e2, e3, e4, e5⟩
      · exact .inl hr
      · obtain ⟨_, a2, a3, _⟩ := hnew g rfl
        refine .inr ⟨g, cap, cur, fz, rfl, e2, e3, ?_, a2, a3, e4, e5⟩
        show wn g = wn b
        rw [hwn b _ hwho]
        simp [wn, Value.ownBlock]
    · rw [if_neg hl2] at hc2
      refine (h.box l2 cs2 hc2).same hx (fun k hk => ⟨hwn k _ hk, fun _ x => x, hother k _ hk (fun e => ?_)⟩)
      cases e
      exact hl2 rfl
  · refine h.gen t g ?_
    have e := setCells_gen [AV.bld T e s'] hc t
    rcases hg with hg | ⟨g', cs', hg, hlt⟩
    · rw [hg] at e
      cases hh : hget m.h t with
      | none => exact .inl rfl
      | some y => rw [hh] at e; cases e
    · rw [hg] at e
      cases hh : hget m.h t with
      | none => rw [hh] at e; cases e
      | some y =>
        obtain ⟨g1, cs1⟩ := y
        rw [hh] at e
        simp only [Option.map_some, Option.some.injEq] at e
        subst e
        exact .inr ⟨_, cs1, rfl, hlt⟩
  · have hi' : m.lv i := by cases l <;> exact hi
    exact (h.tok i hi').same rfl (fun k hk => ⟨hwn k _ hk, fun _ x => x, hother k _ hk (fun e => by cases e)⟩)
  · have : m.lv i := by cases l <;> exact hi
    have := h.lt i this
    cases l <;> exact this
  · have := h.nx
    cases l <;> exact this
  · have h1 : w.heap.size ≤ k := Nat.le_trans hf.size hk
    refine ⟨?_, (h.fresh k h1).2⟩
    show wn k = none
    simp only [wn]
    split
    · rename_i hv
      have := (hnew k hv).1
      omega
    · exact (h.fresh k h1).1

theorem bref_at {E : Env} {G : Gh} {m : AH} {w : World} (hi : Inv E G m w) {l : Loc} {T e b : Nat} {s : List UInt8} (hb : G.bx l = some (b, mapMark)) (hc : m.cells l = some [.bld T e s]) :
    ∃ p v, BldW w b T e s p v ∧ RowAt E G w b e s v := by
  obtain ⟨hm, _⟩ := mref_at hi hb hc
  rcases hm with ⟨ks, vs, es, cl, h, _⟩ | ⟨T', e', s', p, v, h, h1, h2, h3⟩
  · cases h
  · cases h
    refine ⟨p, v, ⟨h1, h2, ?_⟩, h3⟩
    rcases h3 with h3 | ⟨g, cap, cur, fz, e1, e2, e3, _, _, _, e7⟩
    · exact .inl h3
    · exact .inr ⟨g, cap, cur, fz, e1, e2, e3, e7⟩

/-- What the library's writing of a string into a builder comes to. -/
def WritesB (P : Program) (k T e : Nat) : Prop := ∀ (b : Nat) (w : World) (s : List UInt8) (p v : Value), BldW w b T e s p v → ∀ (x : List UInt8), x ≠ [] → s.length + x.length ≤ 140737488355328 →
    Calls P k #[.pointer (some ⟨b, 0, none⟩), .string ⟨x.toArray⟩] w fun r w' => r = .returned (.tuple #[.int .i64 x.length, .nilIface]) ∧ Foot w w' b v.ownBlock ∧ ∃ v', BldW w' b T e (s ++ x) (.pointer (some ⟨b, 0, none⟩)) v' ∧ (v'.ownBlock = v.ownBlock ∨ ∀ g, v'.ownBlock = some g → w.heap.size ≤ g)
def ReadsB (P : Program) (k T e : Nat) : Prop := ∀ (b : Nat) (w : World) (s : List UInt8) (p v : Value), BldW w b T e s p v →
    Calls P k #[.pointer (some ⟨b, 0, none⟩)] w fun r w' => r = .returned (.string ⟨s.toArray⟩) ∧ Foot w w' b v.ownBlock ∧ BldW w' b T e s p v

theorem QCall.writeB {P : Program} {k T e : Nat} (hW : WritesB P k T e) {m : AH} {l : Loc} {s x : List UInt8} (hc : m.cells l = some [.bld T e s]) (hx : x ≠ []) (hl : s.length + x.length ≤ 140737488355328) :
    QCall P k m [.bref l, .str x] (fun m' r => m' = m.setCells l [.bld T e (s ++ x)] ∧ r = .tup [.int .i64 x.length, .raw .nilIface]) := by
  unfold QCall
  intro E G w vs _ _ _ hi hr
  obtain ⟨h1, h2⟩ := hr
  match vs, h1 with
  | [a, c], _ =>
    have ha := h2 0 _ a rfl rfl
    have hcs := h2 1 _ c rfl rfl
    cases ha with
    | bref _ b hb =>
      cases hcs with
      | str _ =>
        obtain ⟨p, v, hbw, hrow⟩ := bref_at hi hb hc
        refine (hW b w s p v hbw x hx hl).mono ?_
        rintro r w' ⟨rfl, hf, v', hn, hfr⟩
        obtain ⟨G', g1, g2⟩ := hi.setBld hc hb hrow hf hn hfr
        refine ⟨_, _, G', _, rfl, g2, ?_, rfl, rfl⟩
        exact .tup _ [.int .i64 x.length, .nilIface] rfl (fun i c v hc hv => by
          match i, hc, hv with
          | 0, hc, hv => cases hc; cases hv; exact .int _ _
          | 1, hc, hv => cases hc; cases hv; exact .raw _)

theorem QCall.readB {P : Program} {k T e : Nat} (hR : ReadsB P k T e) {m : AH} {l : Loc} {s : List UInt8} (hc : m.cells l = some [.bld T e s]) :
    QCall P k m [.bref l] (fun m' r => m' = m.setCells l [.bld T e s] ∧ r = .str s) := by
  unfold QCall
  intro E G w vs _ _ _ hi hr
  obtain ⟨h1, h2⟩ := hr
  match vs, h1 with
  | [a], _ =>
    have ha := h2 0 _ a rfl rfl
    cases ha with
    | bref _ b hb =>
      obtain ⟨p, v, hbw, hrow⟩ := bref_at hi hb hc
      refine (hR b w s p v hbw).mono ?_
      rintro r w' ⟨rfl, hf, hn⟩
      obtain ⟨G', g1, g2⟩ := hi.setBld hc hb hrow hf hn (.inl rfl)
      exact ⟨_, _, G', _, rfl, g2, .str _, rfl, rfl⟩

/-- A string is written into a builder. -/
theorem effX.writeB {P : Program} {k T e : Nat} (hW : WritesB P k T e) {σ : AS} {dst : Option Nat} {K : AS → Prop} {l : Loc} {s x : List UInt8} (hc : σ.m.cells l = some [.bld T e s]) (hx : x ≠ []) (hl : s.length + x.length ≤ 140737488355328)
    (hK : K (AS.put ⟨σ.s, σ.m.setCells l [.bld T e (s ++ x)]⟩ dst (.tup [.int .i64 x.length, .raw .nilIface]))) : effX P k [.bref l, .str x] σ dst K :=
  effX.share (QCall.writeB hW hc hx hl) (by rintro m' r ⟨rfl, rfl⟩; exact hK)
/-- What a builder holds. -/
theorem effX.readB {P : Program} {k T e : Nat} (hR : ReadsB P k T e) {σ : AS} {dst : Option Nat} {K : AS → Prop} {l : Loc} {s : List UInt8} (hc : σ.m.cells l = some [.bld T e s])
    (hK : K (AS.put ⟨σ.s, σ.m.setCells l [.bld T e s]⟩ dst (.str s))) : effX P k [.bref l] σ dst K :=
  effX.share (QCall.readB hR hc) (by rintro m' r ⟨rfl, rfl⟩; exact hK)

end Go.AB
