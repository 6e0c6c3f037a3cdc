/- Part 32 of the proof: what functions of the program come to. Conditions: none; definitions and theorems that the statement's proof uses. -/
import Derived.Test.YtleaeoncofgkjaaDoorPart31
import Derived.Test.YtleaeoncofgkjaaDoorRows
import Derived.LaidMore
import Derived.OpenShut
import Derived.LaidLaws
import Derived.Shelf.Strings.Search1
import Derived.Shelf.Strconv.Clone
/- What is said of two functions of Go's library that the program calls. Conditions: none; theorems. -/
namespace Go.Proofs.YtleaeoncofgkjaaDoor
open Go Go.Pv Go.Shelf Go.RowKit
theorem idx_lib (c : Nat) (hc : c ≤ 255) : ∀ s : List UInt8, Lib.indexByte s (((c : Int)).toNat.toUInt8) = idxByte s c
  | [] => rfl
  | x :: s => by
    have ih := idx_lib c hc s
    have hx : (x == ((c : Int)).toNat.toUInt8) = decide ((x.toNat : Int) = c) := by
      rw [Bool.eq_iff_iff, beq_iff_eq, decide_eq_true_eq]
      have h1 : (((c : Int)).toNat.toUInt8).toNat = c := by simp; omega
      rw [← UInt8.toNat_inj, h1]
      omega
    simp only [Lib.indexByte, idxByte, hx, ih, beq_iff_eq, decide_eq_true_eq]
def ren : Ren := { f := fun k => if k = 217 then 81 else if k = 266 then 93 else if k = 316 then 98 else 1000000, t := fun k => if k = 37 then 39 else if k = 127 then 174 else k, g := fun k => k }
theorem lays217 : Lays.n217 Tryd.prog ren where
  mixed := by kernel_rfl
  f217 := by kernel_rfl
  f266 := by kernel_rfl
  t3 := Tryd.underlying3
  a3 := run_isAgg_plain Tryd.underlying3 rfl
  z3 := Tryd.sizeOf3
  v3 := Tryd.zeroValue3
  t5 := Tryd.underlying5
  a5 := run_isAgg_plain Tryd.underlying5 rfl
  z5 := Tryd.sizeOf5
  v5 := Tryd.zeroValue5
  t9 := Tryd.underlying9
  a9 := run_isAgg_plain Tryd.underlying9 rfl
  z9 := Tryd.sizeOf9
  v9 := Tryd.zeroValue9
theorem lays316 : LaysM.n316 Tryd.prog ren where
  mixed := by kernel_rfl
  f316 := by kernel_rfl
  t0 := Tryd.underlying0
  a0 := run_isAgg_plain Tryd.underlying0 rfl
  z0 := Tryd.sizeOf0
  v0 := Tryd.zeroValue0
  t3 := Tryd.underlying3
  a3 := run_isAgg_plain Tryd.underlying3 rfl
  z3 := Tryd.sizeOf3
  v3 := Tryd.zeroValue3
  t4 := Tryd.underlying4
  a4 := run_isAgg_plain Tryd.underlying4 rfl
  z4 := Tryd.sizeOf4
  v4 := Tryd.zeroValue4
  t9 := Tryd.underlying9
  a9 := run_isAgg_plain Tryd.underlying9 rfl
  z9 := Tryd.sizeOf9
  v9 := Tryd.zeroValue9
  t37 := Tryd.underlying39
  a37 := run_isAgg_plain Tryd.underlying39 rfl
  z37 := Tryd.sizeOf39
  v37 := Tryd.zeroValue39
  t127 := Tryd.underlying174
  a127 := run_isAgg_plain Tryd.underlying174 rfl
  z127 := Tryd.sizeOf174
  v127 := Tryd.zeroValue174
  t5 := Tryd.underlying5
  a5 := run_isAgg_plain Tryd.underlying5 rfl
  z5 := Tryd.sizeOf5
  v5 := Tryd.zeroValue5
  i0 := by kernel_rfl
  i3 := by kernel_rfl
  i4 := by kernel_rfl
  i5 := by kernel_rfl
  i9 := by kernel_rfl
  i37 := by kernel_rfl
  i127 := by kernel_rfl
theorem ext81 : ExtOk tT 81 extIB := by
  intro vs v hg G w l hl
  unfold extIB at hg
  split at hg
  · rename_i s c
    split at hg
    · rename_i hc
      cases hg
      obtain ⟨n, rfl⟩ : ∃ n : Nat, c = n := ⟨c.toNat, by omega⟩
      simp only [RepL, RepV] at hl
      obtain ⟨_, _, rfl, rfl, _, _, rfl, rfl, rfl⟩ := hl
      have h := Any.stringslite_IndexByte lays217 ⟨⟨s⟩⟩ n w
      refine ((callsIn_wide (n := 0)).2 h).mono fun e w' ⟨h1, h2⟩ => ?_
      subst h2
      refine ⟨⟨Nat.le_refl _, fun _ _ => rfl, rfl, rfl, rfl⟩, _, h1, fun G' w' => ?_⟩
      simp only [RepV]
      rw [idx_lib n (by omega)]
    · cases hg
  · cases hg
theorem ext98 : ExtOk tT 98 extCl := by
  intro vs v hg G w l hl
  unfold extCl at hg
  split at hg
  · rename_i s
    split at hg
    · rename_i hs
      cases hg
      simp only [RepL, RepV] at hl
      obtain ⟨_, _, rfl, rfl, rfl⟩ := hl
      have h := Any.stringslite_Clone lays316 ⟨⟨s⟩⟩ w (by show s.toArray.size ≤ _; simp; omega)
      refine ((callsIn_wide (n := 0)).2 h).mono fun e w' ⟨h1, h2⟩ => ?_
      refine ⟨?_, _, h1, fun G' w' => ?_⟩
      · exact ⟨h2.size, h2.block, h2.os, h2.tape, h2.output⟩
      · simp only [RepV]
    · cases hg
  · cases hg
theorem e_iface : ∃ ms, Tryd.prog.underlying 141 = some (.interface ms) := ⟨_, Tryd.underlying141⟩
theorem e_ptr : tT.P.underlying (tT.tnum 3) = some (.pointer 177) := Tryd.underlying175
theorem own : ownKnob Tryd.prog.godebug = none := by kernel_rfl
theorem n_d32 : Tryd.prog.globalNamed "math/bits.deBruijn32tab" = some 6 := by kernel_rfl
theorem t_d32 : (Tryd.prog.globals[6]?).map (·.type) = some 194 := by kernel_rfl
theorem s_d32 : (globAll 6).bind (fun cs => shutL 0 0 cs) = globAll 6 := by kernel_rfl
theorem i_d32 : tT.gnum 6 = 6 := by kernel_rfl
theorem d_d32 : dCells Tryd.prog 8 194 (Rows.laid_math_bits_deBruijn32tab (H := Unit)) = globAll 6 := by kernel_rfl
theorem n_d64 : Tryd.prog.globalNamed "math/bits.deBruijn64tab" = some 7 := by kernel_rfl
theorem t_d64 : (Tryd.prog.globals[7]?).map (·.type) = some 195 := by kernel_rfl
theorem s_d64 : (globAll 7).bind (fun cs => shutL 0 0 cs) = globAll 7 := by kernel_rfl
theorem i_d64 : tT.gnum 7 = 7 := by kernel_rfl
theorem d_d64 : dCells Tryd.prog 8 195 (Rows.laid_math_bits_deBruijn64tab (H := Unit)) = globAll 7 := by kernel_rfl
theorem n_p10 : Tryd.prog.globalNamed "internal/strconv.uint64pow10" = some 5 := by kernel_rfl
theorem t_p10 : (Tryd.prog.globals[5]?).map (·.type) = some 189 := by kernel_rfl
theorem s_p10 : (globAll 5).bind (fun cs => shutL 0 0 cs) = globAll 5 := by kernel_rfl
theorem i_p10 : tT.gnum 5 = 5 := by kernel_rfl
theorem d_p10 : dCells Tryd.prog 8 189 (Rows.laid_internal_strconv_uint64pow10 (H := Unit)) = globAll 5 := by kernel_rfl
theorem n_rng : Tryd.prog.globalNamed "strconv.ErrRange" = some 3 := by kernel_rfl
theorem t_rng : (Tryd.prog.globals[3]?).map (·.type) = some 141 := by kernel_rfl
theorem s_rng : (globAll 3).bind (fun cs => shutL 0 0 cs) = globAll 3 := by kernel_rfl
theorem i_rng : tT.gnum 3 = 3 := by kernel_rfl
theorem n_syn : Tryd.prog.globalNamed "strconv.ErrSyntax" = some 2 := by kernel_rfl
theorem t_syn : (Tryd.prog.globals[2]?).map (·.type) = some 141 := by kernel_rfl
theorem s_syn : (globAll 2).bind (fun cs => shutL 0 0 cs) = globAll 2 := by kernel_rfl
theorem i_syn : tT.gnum 2 = 2 := by kernel_rfl
theorem n_pref : Tryd.prog.globalNamed "drachm/atoms.prefixes" = some 0 := by kernel_rfl
theorem t_pref : (Tryd.prog.globals[0]?).map (·.type) = some 128 := by kernel_rfl
theorem s_pref : (globAll 0).bind (fun cs => shutL 0 0 cs) = globAll 0 := by kernel_rfl
theorem i_pref : tT.gnum 0 = 0 := by kernel_rfl
theorem d_pref : dCells Tryd.prog 8 128 (Rows.laid_drachm_atoms_prefixes (H := Unit)) = globAll 0 := by kernel_rfl
theorem n_sty : Tryd.prog.globalNamed "drachm/style.styles" = some 1 := by kernel_rfl
theorem t_sty : (Tryd.prog.globals[1]?).map (·.type) = some 136 := by kernel_rfl
theorem s_sty : (globAll 1).bind (fun cs => shutL 0 0 cs) = globAll 1 := by kernel_rfl
theorem i_sty : tT.gnum 1 = 1 := by kernel_rfl
theorem d_sty : dCells Tryd.prog 8 136 (Rows.laid_drachm_style_styles (H := Unit)) = globAll 1 := by kernel_rfl
def laid7 : List (String × DataW Unit) := [("math/bits.deBruijn32tab", Rows.laid_math_bits_deBruijn32tab), ("math/bits.deBruijn64tab", Rows.laid_math_bits_deBruijn64tab), ("internal/strconv.uint64pow10", Rows.laid_internal_strconv_uint64pow10), ("strconv.ErrRange", Rows.laid_strconv_ErrRange), ("strconv.ErrSyntax", Rows.laid_strconv_ErrSyntax), ("drachm/atoms.prefixes", Rows.laid_drachm_atoms_prefixes), ("drachm/style.styles", Rows.laid_drachm_style_styles)]
theorem door_met7 (os : Os) (args : Array Value) : laidMetH Tryd.prog laid7 ((World.doorLaid Tryd.prog 4000 os).forCall (fun _ _ => 0) ⟨#[], args, []⟩).memory :=
  laidMetH_of_parts3 (fuel := 8) (laidMet_of_run' 8 (by kernel_rfl) (by kernel_rfl)) (by kernel_rfl) (by kernel_rfl)
theorem star_es : "*" ++ "errors.errorString" = "*errors.errorString" := by decide
theorem only_es (u : TypeId) (h : Tryd.prog.typeName? 3 u = some "*errors.errorString") : u = tT.tnum 3 := by
  have e : tT.tnum 3 = 175 := by kernel_rfl
  rw [e]
  exact typeName_ptr_named (nm := "errors.errorString") (by rw [star_es]; kernel_rfl) (by kernel_rfl) (by decide) u (by rw [star_es]; exact h)
def Met (W : World) (g : Nat) (cs : List AV) : Prop := ∃ c e fz l, W.heap[tT.gnum g]? = some (.cells c e fz) ∧ RepL tT (Ghost.met W) W cs l ∧ (∀ (i : Nat) (v : Value), l[i]? = some v → c[i]? = some v)
set_option maxRecDepth 100000 in
theorem glob_of7 {W : World} (h : laidMetH Tryd.prog laid7 W) : ∀ g cs, globAll g = some cs → Met W g cs := by
  rw [MakeChecks.laidMetH_plain _ _ _ (by kernel_rfl)] at h
  obtain ⟨ps, hl, hrest⟩ := h
  obtain ⟨_, hok⟩ := hrest
  obtain ⟨ms, e_ifc⟩ := e_iface
  have sub0 : ∀ x ∈ ps, x ∈ ps := fun x hx => hx
  obtain ⟨⟨c_d32, m_d32⟩, q1, l1, u1⟩ : (∃ cs, globAll 6 = some cs ∧ Met W 6 cs) ∧ ∃ q, DataW.LaidVars tT.P W _ q ∧ ∀ x ∈ q, x ∈ _ := by
    have hh := d_d32
    cases hc : globAll 6 with
    | none =>
      have hs : (globAll 6).isSome = true := rfl
      rw [hc] at hs
      cases hs
    | some cs =>
      rw [hc] at hh
      obtain ⟨h1, h2⟩ := laid_plain (T := tT) hl n_d32 t_d32 hh
      exact ⟨⟨cs, rfl, h1⟩, h2⟩
  have sub1 := fun x hx => sub0 x (u1 x hx)
  obtain ⟨⟨c_d64, m_d64⟩, q2, l2, u2⟩ : (∃ cs, globAll 7 = some cs ∧ Met W 7 cs) ∧ ∃ q, DataW.LaidVars tT.P W _ q ∧ ∀ x ∈ q, x ∈ _ := by
    have hh := d_d64
    cases hc : globAll 7 with
    | none =>
      have hs : (globAll 7).isSome = true := rfl
      rw [hc] at hs
      cases hs
    | some cs =>
      rw [hc] at hh
      obtain ⟨h1, h2⟩ := laid_plain (T := tT) l1 n_d64 t_d64 hh
      exact ⟨⟨cs, rfl, h1⟩, h2⟩
  have sub2 := fun x hx => sub1 x (u2 x hx)
  obtain ⟨⟨c_p10, m_p10⟩, q3, l3, u3⟩ : (∃ cs, globAll 5 = some cs ∧ Met W 5 cs) ∧ ∃ q, DataW.LaidVars tT.P W _ q ∧ ∀ x ∈ q, x ∈ _ := by
    have hh := d_p10
    cases hc : globAll 5 with
    | none =>
      have hs : (globAll 5).isSome = true := rfl
      rw [hc] at hs
      cases hs
    | some cs =>
      rw [hc] at hh
      obtain ⟨h1, h2⟩ := laid_plain (T := tT) l2 n_p10 t_p10 hh
      exact ⟨⟨cs, rfl, h1⟩, h2⟩
  have sub3 := fun x hx => sub2 x (u3 x hx)
  obtain ⟨m_rng, q4, l4, u4⟩ := laid_err (T := tT) l3 n_rng t_rng e_ifc (j := 3) only_es e_ptr (n := 8) (fun b off hm u v hc => (hok b off (sub3 _ hm)).2 u v hc) (l := [.str [118, 97, 108, 117, 101, 32, 111, 117, 116, 32, 111, 102, 32, 114, 97, 110, 103, 101]]) (by kernel_rfl) (by decide)
  have sub4 := fun x hx => sub3 x (u4 x hx)
  obtain ⟨m_syn, q5, l5, u5⟩ := laid_err (T := tT) l4 n_syn t_syn e_ifc (j := 3) only_es e_ptr (n := 8) (fun b off hm u v hc => (hok b off (sub4 _ hm)).2 u v hc) (l := [.str [105, 110, 118, 97, 108, 105, 100, 32, 115, 121, 110, 116, 97, 120]]) (by kernel_rfl) (by decide)
  have sub5 := fun x hx => sub4 x (u5 x hx)
  obtain ⟨⟨c_pref, m_pref⟩, q6, l6, u6⟩ : (∃ cs, globAll 0 = some cs ∧ Met W 0 cs) ∧ ∃ q, DataW.LaidVars tT.P W _ q ∧ ∀ x ∈ q, x ∈ _ := by
    have hh := d_pref
    cases hc : globAll 0 with
    | none =>
      have hs : (globAll 0).isSome = true := rfl
      rw [hc] at hs
      cases hs
    | some cs =>
      rw [hc] at hh
      obtain ⟨h1, h2⟩ := laid_plain (T := tT) l5 n_pref t_pref hh
      exact ⟨⟨cs, rfl, h1⟩, h2⟩
  have sub6 := fun x hx => sub5 x (u6 x hx)
  obtain ⟨⟨c_sty, m_sty⟩, q7, l7, u7⟩ : (∃ cs, globAll 1 = some cs ∧ Met W 1 cs) ∧ ∃ q, DataW.LaidVars tT.P W _ q ∧ ∀ x ∈ q, x ∈ _ := by
    have hh := d_sty
    cases hc : globAll 1 with
    | none =>
      have hs : (globAll 1).isSome = true := rfl
      rw [hc] at hs
      cases hs
    | some cs =>
      rw [hc] at hh
      obtain ⟨h1, h2⟩ := laid_plain (T := tT) l6 n_sty t_sty hh
      exact ⟨⟨cs, rfl, h1⟩, h2⟩
  have sub7 := fun x hx => sub6 x (u7 x hx)
  intro g cs hg
  have hgs : g = 0 ∨ g = 1 ∨ g = 2 ∨ g = 3 ∨ g = 5 ∨ g = 6 ∨ g = 7 := by
    unfold globAll at hg
    split at hg <;> first | omega | cases hg
  rcases hgs with rfl | rfl | rfl | rfl | rfl | rfl | rfl
  · obtain ⟨h1, h2⟩ := m_pref
    rw [h1] at hg
    cases hg
    exact h2
  · obtain ⟨h1, h2⟩ := m_sty
    rw [h1] at hg
    cases hg
    exact h2
  · have : globAll 2 = some [.iface 3 (.pin [.str [105, 110, 118, 97, 108, 105, 100, 32, 115, 121, 110, 116, 97, 120]])] := by rfl
    rw [this] at hg
    cases hg
    exact m_syn
  · have : globAll 3 = some [.iface 3 (.pin [.str [118, 97, 108, 117, 101, 32, 111, 117, 116, 32, 111, 102, 32, 114, 97, 110, 103, 101]])] := by rfl
    rw [this] at hg
    cases hg
    exact m_rng
  · obtain ⟨h1, h2⟩ := m_p10
    rw [h1] at hg
    cases hg
    exact h2
  · obtain ⟨h1, h2⟩ := m_d32
    rw [h1] at hg
    cases hg
    exact h2
  · obtain ⟨h1, h2⟩ := m_d64
    rw [h1] at hg
    cases hg
    exact h2
theorem shut7 : ∀ g cs, globAll g = some cs → shutL 0 0 cs = some cs := by
  intro g cs hg
  have hgs : g = 0 ∨ g = 1 ∨ g = 2 ∨ g = 3 ∨ g = 5 ∨ g = 6 ∨ g = 7 := by
    unfold globAll at hg
    split at hg <;> first | omega | cases hg
  rcases hgs with rfl | rfl | rfl | rfl | rfl | rfl | rfl
  · have h := s_pref
    rw [hg] at h
    exact h
  · have h := s_sty
    rw [hg] at h
    exact h
  · have h := s_syn
    rw [hg] at h
    exact h
  · have h := s_rng
    rw [hg] at h
    exact h
  · have h := s_p10
    rw [hg] at h
    exact h
  · have h := s_d32
    rw [hg] at h
    exact h
  · have h := s_d64
    rw [hg] at h
    exact h
end Go.Proofs.YtleaeoncofgkjaaDoor
