/- A part of the proof: functions of the program in the evaluator's code, and what they come to. Conditions: none; definitions and theorems that the statement's proof uses. -/
import Derived.Test.YtleaeoncofgkjaaGreatDoorSet2
import Derived.Test.YtleaeoncofgkjaaGreatDoorSet4
import Derived.Shelf.Strings.FuncGrows
import Derived.Test.YtleaeoncofgkjaaGreatDoorSet17
import Derived.Test.YtleaeoncofgkjaaGreatDoorRows
import Derived.LaidMore
import Derived.OpenShut
import Derived.LaidLaws
import Derived.Shelf.Strings.Search1
import Derived.Shelf.Strconv.Clone
/- A listed variable that holds an error. Conditions: what the program's types are; a lemma. -/
namespace Go.Pv
open Go.RowKit
variable {T : Tie} {W : World}
theorem laid_plain {name : String} {d : DataW Unit} {r : List (String × DataW Unit)} {ps : List MemPlace} (h : DataW.LaidVars T.P W ((name, d) :: r) ps) {g : Nat} (hg : T.P.globalNamed name = some g) {t : TypeId} (ht : (T.P.globals[g]?).map (·.type) = some t) {n : Nat} {l : List AV} (hd : dCells T.P n t d = some l) :
    (∃ c e fz ls, W.heap[g]? = some (.cells c e fz) ∧ RepL T (Ghost.met W) W l ls ∧ (∀ (i : Nat) (v : Value), ls[i]? = some v → c[i]? = some v)) ∧ ∃ q, DataW.LaidVars T.P W r q ∧ ∀ x ∈ q, x ∈ ps := by
  refine ⟨(laid_cells h hg ht hd (Ghost.met W)).1, ?_⟩
  simp only [DataW.LaidVars] at h
  obtain ⟨g', t', cs, fuel, p, q, h1, h2, h3, h4, h5, hps⟩ := h
  exact ⟨q, h5, fun x hx => by rw [hps]; exact List.mem_append_right _ hx⟩
theorem laid_err {name tn : String} {d : DataW Unit} {r : List (String × DataW Unit)} {ps : List MemPlace} (h : DataW.LaidVars T.P W ((name, .iface tn (.ptr d)) :: r) ps) {g : Nat} (hg : T.P.globalNamed name = some g) {t : TypeId} (ht : (T.P.globals[g]?).map (·.type) = some t)
    {ms : Array (String × TypeId)} (hi : T.P.underlying t = some (.interface ms)) {j : Nat} (hu : ∀ u, T.P.typeName? 3 u = some tn → u = T.tnum j) {e : TypeId} (hp : T.P.underlying (T.tnum j) = some (.pointer e)) (hok : ∀ b off, MemPlace.cell b off ∈ ps → ∀ u v, W.cell? ⟨b, off, none⟩ = some (.iface u v) → Value.okWide T.P W .any 0 u v) {n : Nat} {l : List AV} (hd : dCells T.P n e d = some l) (hl : 0 < l.length) :
    (∃ c e fz ls, W.heap[g]? = some (.cells c e fz) ∧ RepL T (Ghost.met W) W [.iface j (.pin l)] ls ∧ (∀ (i : Nat) (v : Value), ls[i]? = some v → c[i]? = some v)) ∧ ∃ q, DataW.LaidVars T.P W r q ∧ ∀ x ∈ q, x ∈ ps := by
  simp only [DataW.LaidVars] at h
  obtain ⟨g', t', cs, fuel, p, q, h1, h2, h3, h4, h5, hps⟩ := h
  rw [hg] at h1
  cases h1
  rw [ht] at h2
  cases h2
  refine ⟨?_, q, h5, fun x hx => by rw [hps]; exact List.mem_append_right _ hx⟩
  simp only [World.var?, hg, Option.bind_some] at h3
  split at h3
  · rename_i c el fz hb
    cases h3
    refine ⟨_, el, fz, cs.toList, hb, ?_, fun i v hv => by simpa using hv⟩
    cases fuel with
    | zero => simp [DataW.trod] at h4
    | succ fuel =>
      unfold DataW.trod at h4
      rw [hi] at h4
      simp only at h4
      generalize hcl : cs.toList = cl at h4 ⊢
      rcases cl with _ | ⟨v0, _ | ⟨v1, vs⟩⟩
      · simp at h4
      · cases v0 <;> first | (simp at h4; done) | skip
        rename_i u v
        simp only at h4
        split at h4
        · rename_i hc
          cases hc
        · rename_i nm hnm
          simp only [Option.map_eq_some_iff, Prod.mk.injEq, DataW.iface.injEq] at h4
          obtain ⟨⟨d1, p1⟩, h6, ⟨h7, h8⟩, h9⟩ := h4
          simp only at h8
          subst h7
          obtain rfl := hu u hnm
          subst h8
          cases fuel with
          | zero => simp [DataW.trod] at h6
          | succ fuel =>
            unfold DataW.trod at h6
            rw [hp] at h6
            generalize hvl : v.cells.toList = vl at h6
            rcases vl with _ | ⟨w0, _ | ⟨w1, ws⟩⟩
            · simp at h6
            · cases w0 <;> first | (simp at h6; done) | skip
              rename_i ad
              cases ad with
              | none => simp at h6
              | some a =>
                simp only [Option.map_eq_some_iff, Option.bind_eq_some_iff, Prod.mk.injEq, DataW.ptr.injEq] at h6
                obtain ⟨⟨d2, p2⟩, ⟨cs2, hc2, ht2⟩, ⟨h10, _⟩⟩ := h6
                simp only at h10
                subst h10
                have hr := dCells_rep (T := T) (W := W) (G := Ghost.met W) n fuel _ _ _ _ l ht2 hd
                obtain ⟨hb2, hn2, hall⟩ := World.cells?_some hc2
                have hlen := hr.length
                obtain ⟨ab, ao, asp⟩ := a
                have hadd : ∀ j, W.cell? (Addr.add ⟨ab, ao, asp⟩ j) = W.cell? ⟨ab, ao + j, if j = 0 then asp else none⟩ := by
                  intro j
                  unfold Addr.add
                  by_cases hj : j = 0
                  · subst hj; simp
                  · simp [hj]
                have hall' : ∀ (j : Nat) (x : Value), cs2[j]? = some x → W.cell? ⟨ab, ao + j, if j = 0 then asp else none⟩ = some x := by
                  intro j x hj
                  have hjl : j < cs2.length := (List.getElem?_eq_some_iff.1 hj).1
                  have := hall j (by omega)
                  rw [hj, hadd] at this
                  exact this
                have h0 : 0 < cs2.length := by omega
                have hc0 := hall' 0 cs2[0] (List.getElem?_eq_getElem h0)
                have hcell : ∃ c e fz, W.heap[ab]? = some (.cells c e fz) ∧ asp = none := by
                  cases hq : W.heap[ab]? with
                  | none => simp [World.cell?, hq] at hc0
                  | some ob =>
                    cases ob <;> first | (simp [World.cell?, hq] at hc0; done) | skip
                    rename_i c e fz
                    cases asp with
                    | none => exact ⟨c, e, fz, rfl, rfl⟩
                    | some z => simp [World.cell?, hq] at hc0
                obtain ⟨c2, e2, fz2, hq, rfl⟩ := hcell
                simp only [RepL, RepV]
                have hv : v = .pointer (some ⟨ab, ao, none⟩) := by
                  have hw := hok g 0 (by rw [hps]; simp [MemPlace.row]; left; have := congrArg List.length hcl; simp at this; rw [this]; exact Nat.one_pos) (T.tnum j) v (by
                    have := congrArg (·[0]?) hcl
                    simp only [World.cell?, hb]
                    simpa using this)
                  unfold Value.okWide at hw
                  rw [hp] at hw
                  simp only [Cell.okWide, hp] at hw
                  cases v <;> first | (simp [Cell.ok, hp] at hw; done) | skip
                  all_goals first | (simpa [Value.cells] using hvl) | skip
                have hall'' : ∀ (j : Nat) (x : Value), cs2[j]? = some x → W.cell? ⟨ab, ao + j, none⟩ = some x := by
                  intro j x hj
                  have := hall' j x hj
                  simpa using this
                refine ⟨_, _, rfl, ⟨v, rfl, ab, ao, c2.size, hv, by simp [Ghost.met, hq], ?_, RepM.of_list hr hall''⟩, rfl⟩
                rcases Nat.lt_or_ge c2.size (ao + l.length) with hlt | hge
                · exfalso
                  have := hall'' (l.length - 1) cs2[l.length - 1] (List.getElem?_eq_getElem (by omega))
                  simp only [World.cell?, hq] at this
                  have hsz := (Array.getElem?_eq_some_iff.1 (by simpa using this)).1
                  omega
                · exact hge
            · simp at h6
        · cases h4
      · simp at h4
  · cases h3
end Go.Pv
/- Where a text's first byte stands that is no sign from ' ' to '~': Go's library tells that. Conditions: none; theorems. -/
namespace Go.Pv
open Go
def oddR (r : Nat) : Bool := decide (r < 32) || decide (126 < r)
theorem dec_ascii (s : ByteArray) (i : Nat) (h : (s.get! i).toNat < 128) : Utf8.decode s i = ((s.get! i).toNat, 1) := by
  simp only [Utf8.decode, Nat.add_zero]
  rw [if_pos h]
theorem dec_high (s : ByteArray) (i : Nat) (h : ¬ (s.get! i).toNat < 128) : 128 ≤ (Utf8.decode s i).1 := by
  simp only [Utf8.decode, Nat.add_zero, Utf8.runeError]
  rw [if_neg h]
  split
  · split <;> (simp only; omega)
  · split
    · rename_i h1 h2
      split
      · rename_i h3
        simp only [Bool.and_eq_true, decide_eq_true_eq] at h3
        simp only
        omega
      · simp only; omega
    · split
      · split
        · rename_i h3
          simp only [Bool.and_eq_true, decide_eq_true_eq] at h3
          simp only
          omega
        · simp only; omega
      · simp only; omega
theorem odd_range : ∀ s : List UInt8, oddAt s = -1 ∨ 0 ≤ oddAt s
  | [] => .inl rfl
  | x :: s => by
    simp only [oddAt]
    have := odd_range s
    split
    · exact .inr (by decide)
    · split
      · exact .inl rfl
      · exact .inr (by omega)
theorem idx_odd (s : List UInt8) : ∀ (f pos : Nat), s.length ≤ pos + f → Lib.idxFuncFrom oddR true ⟨⟨s⟩⟩ f pos = if oddAt (s.drop pos) = -1 then -1 else (pos : Int) + oddAt (s.drop pos)
  | 0, pos, h => by
    rw [List.drop_eq_nil_of_le (by omega)]
    rfl
  | f + 1, pos, h => by
    have hsz : (⟨⟨s⟩⟩ : ByteArray).size = s.length := rfl
    unfold Lib.idxFuncFrom
    rw [hsz]
    by_cases hp : pos < s.length
    · rw [if_pos hp, List.drop_eq_getElem_cons hp]
      have hg : (⟨⟨s⟩⟩ : ByteArray).get! pos = s[pos] := by
        show (Array.mk s)[pos]! = s[pos]
        simp [hp]
      have key : (oddR (Utf8.decode ⟨⟨s⟩⟩ pos).1 = true) ↔ ((s[pos]).toNat < 32 ∨ 126 < (s[pos]).toNat) := by
        by_cases hb : (s[pos]).toNat < 128
        · have hd := dec_ascii ⟨⟨s⟩⟩ pos (by rw [hg]; exact hb)
          rw [hg] at hd
          rw [hd]
          simp [oddR]
        · have hd := dec_high ⟨⟨s⟩⟩ pos (by rw [hg]; exact hb)
          simp only [oddR, Bool.or_eq_true, decide_eq_true_eq]
          omega
      by_cases h1 : (s[pos]).toNat < 32 ∨ 126 < (s[pos]).toNat
      · have e0 : oddAt (s[pos] :: s.drop (pos + 1)) = 0 := by simp only [oddAt, if_pos h1]
        rw [if_pos (key.2 h1), e0, if_neg (by decide)]
        simp
      · have hd := dec_ascii ⟨⟨s⟩⟩ pos (by rw [hg]; omega)
        have ih := idx_odd s f (pos + 1) (by omega)
        have e0 : oddAt (s[pos] :: s.drop (pos + 1)) = if oddAt (s.drop (pos + 1)) = -1 then -1 else oddAt (s.drop (pos + 1)) + 1 := by simp only [oddAt, if_neg h1]
        rw [if_neg (fun h => h1 (key.1 h)), e0, hd, ih]
        have := odd_range (s.drop (pos + 1))
        generalize oddAt (s.drop (pos + 1)) = o at *
        split
        · rfl
        · rw [if_neg (by omega)]
          push_cast
          omega
    · rw [if_neg hp, List.drop_eq_nil_of_le (by omega)]
      rfl
theorem idx_odd0 (s : List UInt8) : Lib.idxFunc oddR true ⟨⟨s⟩⟩ = oddAt s := by
  unfold Lib.idxFunc
  rw [idx_odd s _ 0 (by show s.length ≤ 0 + s.length; omega)]
  have := odd_range s
  simp only [List.drop_zero]
  split
  · omega
  · simp
end Go.Pv
/- What is said of two functions of Go's library that the program calls. Conditions: none; theorems. -/
namespace Go.Proofs.YtleaeoncofgkjaaGreatDoor
open Go Go.Pv Go.Shelf Go.RowKit
theorem idx_lib (c : Nat) (hc : c ≤ 255) : ∀ s : List UInt8, Lib.indexByte s (((c : Int)).toNat.toUInt8) = idxByte s c
  | [] => rfl
  | x :: s => by
    have ih := idx_lib c hc s
    have hx : (x == ((c : Int)).toNat.toUInt8) = decide ((x.toNat : Int) = c) := by
      rw [Bool.eq_iff_iff, beq_iff_eq, decide_eq_true_eq]
      have h1 : (((c : Int)).toNat.toUInt8).toNat = c := by simp; omega
      rw [← UInt8.toNat_inj, h1]
      omega
    simp only [Lib.indexByte, idxByte, hx, ih, beq_iff_eq, decide_eq_true_eq]
def ren : Ren := { f := fun k => if k = 217 then 101 else if k = 266 then 118 else if k = 316 then 128 else if k = 15 then 82 else if k = 20 then 106 else 1000000, t := fun k => if k = 21 then 21 else if k = 23 then 133 else  if k = 37 then 44 else if k = 127 then 186 else k, g := fun k => k }
theorem lays217 : Lays.n217 Tryz.prog ren where
  mixed := by kernel_rfl
  f217 := by kernel_rfl
  f266 := by kernel_rfl
  t3 := Tryz.underlying3
  a3 := run_isAgg_plain Tryz.underlying3 rfl
  z3 := Tryz.sizeOf3
  v3 := Tryz.zeroValue3
  t5 := Tryz.underlying5
  a5 := run_isAgg_plain Tryz.underlying5 rfl
  z5 := Tryz.sizeOf5
  v5 := Tryz.zeroValue5
  t9 := Tryz.underlying9
  a9 := run_isAgg_plain Tryz.underlying9 rfl
  z9 := Tryz.sizeOf9
  v9 := Tryz.zeroValue9
theorem lays316 : LaysM.n316 Tryz.prog ren where
  mixed := by kernel_rfl
  f316 := by kernel_rfl
  t0 := Tryz.underlying0
  a0 := run_isAgg_plain Tryz.underlying0 rfl
  z0 := Tryz.sizeOf0
  v0 := Tryz.zeroValue0
  t3 := Tryz.underlying3
  a3 := run_isAgg_plain Tryz.underlying3 rfl
  z3 := Tryz.sizeOf3
  v3 := Tryz.zeroValue3
  t4 := Tryz.underlying4
  a4 := run_isAgg_plain Tryz.underlying4 rfl
  z4 := Tryz.sizeOf4
  v4 := Tryz.zeroValue4
  t9 := Tryz.underlying9
  a9 := run_isAgg_plain Tryz.underlying9 rfl
  z9 := Tryz.sizeOf9
  v9 := Tryz.zeroValue9
  t37 := Tryz.underlying44
  a37 := run_isAgg_plain Tryz.underlying44 rfl
  z37 := Tryz.sizeOf44
  v37 := Tryz.zeroValue44
  t127 := Tryz.underlying186
  a127 := run_isAgg_plain Tryz.underlying186 rfl
  z127 := Tryz.sizeOf186
  v127 := Tryz.zeroValue186
  t5 := Tryz.underlying5
  a5 := run_isAgg_plain Tryz.underlying5 rfl
  z5 := Tryz.sizeOf5
  v5 := Tryz.zeroValue5
  i0 := by kernel_rfl
  i3 := by kernel_rfl
  i4 := by kernel_rfl
  i5 := by kernel_rfl
  i9 := by kernel_rfl
  i37 := by kernel_rfl
  i127 := by kernel_rfl
theorem ext81 : ExtOk tT 81 extIB := by
  intro vs v hg G w l hl
  unfold extIB at hg
  split at hg
  · rename_i s c
    split at hg
    · rename_i hc
      cases hg
      obtain ⟨n, rfl⟩ : ∃ n : Nat, c = n := ⟨c.toNat, by omega⟩
      simp only [RepL, RepV] at hl
      obtain ⟨_, _, rfl, rfl, _, _, rfl, rfl, rfl⟩ := hl
      have h := Any.stringslite_IndexByte lays217 ⟨⟨s⟩⟩ n w
      refine ((callsIn_wide (n := 0)).2 h).mono fun e w' ⟨h1, h2⟩ => ?_
      subst h2
      refine ⟨⟨Nat.le_refl _, fun _ _ => rfl, rfl, rfl, rfl⟩, _, h1, fun G' w' => ?_⟩
      simp only [RepV]
      rw [idx_lib n (by omega)]
    · cases hg
  · cases hg
theorem ext98 : ExtOk tT 98 extCl := by
  intro vs v hg G w l hl
  unfold extCl at hg
  split at hg
  · rename_i s
    split at hg
    · rename_i hs
      cases hg
      simp only [RepL, RepV] at hl
      obtain ⟨_, _, rfl, rfl, rfl⟩ := hl
      have h := Any.stringslite_Clone lays316 ⟨⟨s⟩⟩ w (by show s.toArray.size ≤ _; simp; omega)
      refine ((callsIn_wide (n := 0)).2 h).mono fun e w' ⟨h1, h2⟩ => ?_
      refine ⟨?_, _, h1, fun G' w' => ?_⟩
      · exact ⟨h2.size, h2.block, h2.os, h2.tape, h2.output⟩
      · simp only [RepV]
    · cases hg
  · cases hg
theorem laysIF : LaysGw.n15 Tryz.prog ren where
  mixed := by kernel_rfl
  f15 := by kernel_rfl
  f20 := by kernel_rfl
  t0 := Tryz.underlying0
  a0 := run_isAgg_plain Tryz.underlying0 rfl
  z0 := Tryz.sizeOf0
  v0 := Tryz.zeroValue0
  i0 := by kernel_rfl
  t3 := Tryz.underlying3
  a3 := run_isAgg_plain Tryz.underlying3 rfl
  z3 := Tryz.sizeOf3
  v3 := Tryz.zeroValue3
  i3 := by kernel_rfl
  t4 := Tryz.underlying4
  a4 := run_isAgg_plain Tryz.underlying4 rfl
  z4 := Tryz.sizeOf4
  v4 := Tryz.zeroValue4
  i4 := by kernel_rfl
  t9 := Tryz.underlying9
  a9 := run_isAgg_plain Tryz.underlying9 rfl
  z9 := Tryz.sizeOf9
  v9 := Tryz.zeroValue9
  i9 := by kernel_rfl
  t21 := Tryz.underlying21
  a21 := run_isAgg_plain Tryz.underlying21 rfl
  z21 := Tryz.sizeOf21
  v21 := Tryz.zeroValue21
  i21 := by kernel_rfl
  t23 := Tryz.underlying133
  a23 := run_isAgg_plain Tryz.underlying133 rfl
  z23 := Tryz.sizeOf133
  v23 := Tryz.zeroValue133
  i23 := by kernel_rfl
def e201 : Env := { fn := fun j => if j = 201 then some f201 else none, glob := fun _ => none, ext := fun _ => none }
theorem ok201 : EnvOk tT e201 where
  mix := by kernel_rfl
  fn := fun j sf h => by
    simp only [e201] at h
    split at h
    · rename_i hj
      subst hj
      cases h
      exact ⟨k201, Tryz.f81, Tryz.func81, c201⟩
    · cases h
  glob := fun g cs h => by cases h
  ext := fun j g h => by cases h
theorem pred201 (n : Int) : EvClosed e201 (.fn (.func 201) [] []) [.int .i32 n] = some (.bool (decide (n < 32) || decide (126 < n))) := by
  rw [EvClosed_eq (sf := Pv.f201) rfl rfl (vs := [.int .i32 n]) (by simp), EvFn_eq]
  cases h : decide (n < 32) <;> simp [Pv.f201, Pv.start, h]
theorem grows201 (w : World) : PredGrows Tryz.prog 81 #[] oddR w := by
  intro W x hx hb
  have hc := calls_of (W := W) (T := tT) ok201 (pred201 (x : Int)) (inv_met (fun g cs hg => by cases hg)) (l := [.int .i32 x]) ⟨_, _, rfl, rfl, rfl⟩
  refine hc.mono fun e W' ⟨u, G', h1, h2, h3⟩ => ⟨?_, h3.os, h3.tape, h3.output, h3.size, fun k hk => h3.frame k hk (by simp [Ghost.met]) (fun _ _ _ h => by cases h)⟩
  simp only [RepV] at h2
  rw [h1, h2]
  simp only [oddR]
  congr 3
  · exact decide_eq_decide.2 (by omega)
  · exact decide_eq_decide.2 (by omega)
theorem ext202 : ExtOk tT 202 extIF := by
  intro vs v hg G w l hl
  unfold extIF at hg
  split at hg
  · rename_i s
    cases hg
    simp only [RepL, RepV] at hl
    obtain ⟨_, _, rfl, rfl, _, _, rfl, ⟨a, b, rfl, rfl, rfl⟩, rfl⟩ := hl
    have h := Any.strings_IndexFunc_grows laysIF 81 #[] (enters_of Tryz.func81 (by kernel_rfl) rfl) oddR ⟨⟨s⟩⟩ w (grows201 w)
    rw [idx_odd0] at h
    refine ((callsIn_wide (n := 0)).2 h).mono fun e w' ⟨h1, h2⟩ => ?_
    refine ⟨⟨h2.size, h2.block, h2.os, h2.tape, h2.output⟩, _, h1, fun G' w' => ?_⟩
    simp only [RepV]
  · cases hg
theorem e_iface : ∃ ms, Tryz.prog.underlying 127 = some (.interface ms) := ⟨_, Tryz.underlying127⟩
theorem e_ptr : tT.P.underlying (tT.tnum 3) = some (.pointer 189) := Tryz.underlying187
theorem own : ownKnob Tryz.prog.godebug = none := by kernel_rfl
theorem n_d32 : Tryz.prog.globalNamed "math/bits.deBruijn32tab" = some 6 := by kernel_rfl
theorem t_d32 : (Tryz.prog.globals[6]?).map (·.type) = some 216 := by kernel_rfl
theorem s_d32 : (globAll 6).bind (fun cs => shutL 0 0 cs) = globAll 6 := by kernel_rfl
theorem i_d32 : tT.gnum 6 = 6 := by kernel_rfl
theorem d_d32 : dCells Tryz.prog 8 216 (Rows.laid_math_bits_deBruijn32tab (H := Unit)) = globAll 6 := by kernel_rfl
theorem n_d64 : Tryz.prog.globalNamed "math/bits.deBruijn64tab" = some 7 := by kernel_rfl
theorem t_d64 : (Tryz.prog.globals[7]?).map (·.type) = some 217 := by kernel_rfl
theorem s_d64 : (globAll 7).bind (fun cs => shutL 0 0 cs) = globAll 7 := by kernel_rfl
theorem i_d64 : tT.gnum 7 = 7 := by kernel_rfl
theorem d_d64 : dCells Tryz.prog 8 217 (Rows.laid_math_bits_deBruijn64tab (H := Unit)) = globAll 7 := by kernel_rfl
theorem n_p10 : Tryz.prog.globalNamed "internal/strconv.uint64pow10" = some 5 := by kernel_rfl
theorem t_p10 : (Tryz.prog.globals[5]?).map (·.type) = some 211 := by kernel_rfl
theorem s_p10 : (globAll 5).bind (fun cs => shutL 0 0 cs) = globAll 5 := by kernel_rfl
theorem i_p10 : tT.gnum 5 = 5 := by kernel_rfl
theorem d_p10 : dCells Tryz.prog 8 211 (Rows.laid_internal_strconv_uint64pow10 (H := Unit)) = globAll 5 := by kernel_rfl
theorem n_rng : Tryz.prog.globalNamed "strconv.ErrRange" = some 3 := by kernel_rfl
theorem t_rng : (Tryz.prog.globals[3]?).map (·.type) = some 127 := by kernel_rfl
theorem s_rng : (globAll 3).bind (fun cs => shutL 0 0 cs) = globAll 3 := by kernel_rfl
theorem i_rng : tT.gnum 3 = 3 := by kernel_rfl
theorem n_syn : Tryz.prog.globalNamed "strconv.ErrSyntax" = some 2 := by kernel_rfl
theorem t_syn : (Tryz.prog.globals[2]?).map (·.type) = some 127 := by kernel_rfl
theorem s_syn : (globAll 2).bind (fun cs => shutL 0 0 cs) = globAll 2 := by kernel_rfl
theorem i_syn : tT.gnum 2 = 2 := by kernel_rfl
theorem n_pref : Tryz.prog.globalNamed "drachm/atoms.prefixes" = some 1 := by kernel_rfl
theorem t_pref : (Tryz.prog.globals[1]?).map (·.type) = some 171 := by kernel_rfl
theorem s_pref : (globAll 0).bind (fun cs => shutL 0 0 cs) = globAll 0 := by kernel_rfl
theorem i_pref : tT.gnum 0 = 1 := by kernel_rfl
theorem d_pref : dCells Tryz.prog 8 171 (Rows.laid_drachm_atoms_prefixes (H := Unit)) = globAll 0 := by kernel_rfl
theorem n_sty : Tryz.prog.globalNamed "drachm/style.styles" = some 0 := by kernel_rfl
theorem t_sty : (Tryz.prog.globals[0]?).map (·.type) = some 124 := by kernel_rfl
theorem s_sty : (globAll 1).bind (fun cs => shutL 0 0 cs) = globAll 1 := by kernel_rfl
theorem i_sty : tT.gnum 1 = 0 := by kernel_rfl
theorem d_sty : dCells Tryz.prog 8 124 (Rows.laid_drachm_style_styles (H := Unit)) = globAll 1 := by kernel_rfl
def laid7 : List (String × DataW Unit) := [("math/bits.deBruijn32tab", Rows.laid_math_bits_deBruijn32tab), ("math/bits.deBruijn64tab", Rows.laid_math_bits_deBruijn64tab), ("internal/strconv.uint64pow10", Rows.laid_internal_strconv_uint64pow10), ("strconv.ErrRange", Rows.laid_strconv_ErrRange), ("strconv.ErrSyntax", Rows.laid_strconv_ErrSyntax), ("drachm/atoms.prefixes", Rows.laid_drachm_atoms_prefixes), ("drachm/style.styles", Rows.laid_drachm_style_styles)]
theorem door_met7 (os : Os) (args : Array Value) : laidMetH Tryz.prog laid7 ((World.doorLaid Tryz.prog 4000 os).forCall (fun _ _ => 0) ⟨#[], args, []⟩).memory :=
  laidMetH_of_parts3 (fuel := 8) (laidMet_of_run' 8 (by kernel_rfl) (by kernel_rfl)) (by kernel_rfl) (by kernel_rfl)
theorem star_es : "*" ++ "errors.errorString" = "*errors.errorString" := by decide
theorem only_es (u : TypeId) (h : Tryz.prog.typeName? 3 u = some "*errors.errorString") : u = tT.tnum 3 := by
  have e : tT.tnum 3 = 187 := by kernel_rfl
  rw [e]
  exact typeName_ptr_named (nm := "errors.errorString") (by rw [star_es]; kernel_rfl) (by kernel_rfl) (by decide) u (by rw [star_es]; exact h)
def Met (W : World) (g : Nat) (cs : List AV) : Prop := ∃ c e fz l, W.heap[tT.gnum g]? = some (.cells c e fz) ∧ RepL tT (Ghost.met W) W cs l ∧ (∀ (i : Nat) (v : Value), l[i]? = some v → c[i]? = some v)
set_option maxRecDepth 100000 in
theorem glob_of7 {W : World} (h : laidMetH Tryz.prog laid7 W) : ∀ g cs, globAll g = some cs → Met W g cs := by
  rw [MakeChecks.laidMetH_plain _ _ _ (by kernel_rfl)] at h
  obtain ⟨ps, hl, hrest⟩ := h
  obtain ⟨_, hok⟩ := hrest
  obtain ⟨ms, e_ifc⟩ := e_iface
  have sub0 : ∀ x ∈ ps, x ∈ ps := fun x hx => hx
  obtain ⟨⟨c_d32, m_d32⟩, q1, l1, u1⟩ : (∃ cs, globAll 6 = some cs ∧ Met W 6 cs) ∧ ∃ q, DataW.LaidVars tT.P W _ q ∧ ∀ x ∈ q, x ∈ _ := by
    have hh := d_d32
    cases hc : globAll 6 with
    | none =>
      have hs : (globAll 6).isSome = true := rfl
      rw [hc] at hs
      cases hs
    | some cs =>
      rw [hc] at hh
      obtain ⟨h1, h2⟩ := laid_plain (T := tT) hl n_d32 t_d32 hh
      exact ⟨⟨cs, rfl, h1⟩, h2⟩
  have sub1 := fun x hx => sub0 x (u1 x hx)
  obtain ⟨⟨c_d64, m_d64⟩, q2, l2, u2⟩ : (∃ cs, globAll 7 = some cs ∧ Met W 7 cs) ∧ ∃ q, DataW.LaidVars tT.P W _ q ∧ ∀ x ∈ q, x ∈ _ := by
    have hh := d_d64
    cases hc : globAll 7 with
    | none =>
      have hs : (globAll 7).isSome = true := rfl
      rw [hc] at hs
      cases hs
    | some cs =>
      rw [hc] at hh
      obtain ⟨h1, h2⟩ := laid_plain (T := tT) l1 n_d64 t_d64 hh
      exact ⟨⟨cs, rfl, h1⟩, h2⟩
  have sub2 := fun x hx => sub1 x (u2 x hx)
  obtain ⟨⟨c_p10, m_p10⟩, q3, l3, u3⟩ : (∃ cs, globAll 5 = some cs ∧ Met W 5 cs) ∧ ∃ q, DataW.LaidVars tT.P W _ q ∧ ∀ x ∈ q, x ∈ _ := by
    have hh := d_p10
    cases hc : globAll 5 with
    | none =>
      have hs : (globAll 5).isSome = true := rfl
      rw [hc] at hs
      cases hs
    | some cs =>
      rw [hc] at hh
      obtain ⟨h1, h2⟩ := laid_plain (T := tT) l2 n_p10 t_p10 hh
      exact ⟨⟨cs, rfl, h1⟩, h2⟩
  have sub3 := fun x hx => sub2 x (u3 x hx)
  obtain ⟨m_rng, q4, l4, u4⟩ := laid_err (T := tT) l3 n_rng t_rng e_ifc (j := 3) only_es e_ptr (n := 8) (fun b off hm u v hc => (hok b off (sub3 _ hm)).2 u v hc) (l := [.str [118, 97, 108, 117, 101, 32, 111, 117, 116, 32, 111, 102, 32, 114, 97, 110, 103, 101]]) (by kernel_rfl) (by decide)
  have sub4 := fun x hx => sub3 x (u4 x hx)
  obtain ⟨m_syn, q5, l5, u5⟩ := laid_err (T := tT) l4 n_syn t_syn e_ifc (j := 3) only_es e_ptr (n := 8) (fun b off hm u v hc => (hok b off (sub4 _ hm)).2 u v hc) (l := [.str [105, 110, 118, 97, 108, 105, 100, 32, 115, 121, 110, 116, 97, 120]]) (by kernel_rfl) (by decide)
  have sub5 := fun x hx => sub4 x (u5 x hx)
  obtain ⟨⟨c_pref, m_pref⟩, q6, l6, u6⟩ : (∃ cs, globAll 0 = some cs ∧ Met W 0 cs) ∧ ∃ q, DataW.LaidVars tT.P W _ q ∧ ∀ x ∈ q, x ∈ _ := by
    have hh := d_pref
    cases hc : globAll 0 with
    | none =>
      have hs : (globAll 0).isSome = true := rfl
      rw [hc] at hs
      cases hs
    | some cs =>
      rw [hc] at hh
      obtain ⟨h1, h2⟩ := laid_plain (T := tT) l5 n_pref t_pref hh
      exact ⟨⟨cs, rfl, h1⟩, h2⟩
  have sub6 := fun x hx => sub5 x (u6 x hx)
  obtain ⟨⟨c_sty, m_sty⟩, q7, l7, u7⟩ : (∃ cs, globAll 1 = some cs ∧ Met W 1 cs) ∧ ∃ q, DataW.LaidVars tT.P W _ q ∧ ∀ x ∈ q, x ∈ _ := by
    have hh := d_sty
    cases hc : globAll 1 with
    | none =>
      have hs : (globAll 1).isSome = true := rfl
      rw [hc] at hs
      cases hs
    | some cs =>
      rw [hc] at hh
      obtain ⟨h1, h2⟩ := laid_plain (T := tT) l6 n_sty t_sty hh
      exact ⟨⟨cs, rfl, h1⟩, h2⟩
  have sub7 := fun x hx => sub6 x (u7 x hx)
  intro g cs hg
  have hgs : g = 0 ∨ g = 1 ∨ g = 2 ∨ g = 3 ∨ g = 5 ∨ g = 6 ∨ g = 7 := by
    unfold globAll at hg
    split at hg <;> first | omega | cases hg
  rcases hgs with rfl | rfl | rfl | rfl | rfl | rfl | rfl
  · obtain ⟨h1, h2⟩ := m_pref
    rw [h1] at hg
    cases hg
    exact h2
  · obtain ⟨h1, h2⟩ := m_sty
    rw [h1] at hg
    cases hg
    exact h2
  · have : globAll 2 = some [.iface 3 (.pin [.str [105, 110, 118, 97, 108, 105, 100, 32, 115, 121, 110, 116, 97, 120]])] := by rfl
    rw [this] at hg
    cases hg
    exact m_syn
  · have : globAll 3 = some [.iface 3 (.pin [.str [118, 97, 108, 117, 101, 32, 111, 117, 116, 32, 111, 102, 32, 114, 97, 110, 103, 101]])] := by rfl
    rw [this] at hg
    cases hg
    exact m_rng
  · obtain ⟨h1, h2⟩ := m_p10
    rw [h1] at hg
    cases hg
    exact h2
  · obtain ⟨h1, h2⟩ := m_d32
    rw [h1] at hg
    cases hg
    exact h2
  · obtain ⟨h1, h2⟩ := m_d64
    rw [h1] at hg
    cases hg
    exact h2
theorem shut7 : ∀ g cs, globAll g = some cs → shutL 0 0 cs = some cs := by
  intro g cs hg
  have hgs : g = 0 ∨ g = 1 ∨ g = 2 ∨ g = 3 ∨ g = 5 ∨ g = 6 ∨ g = 7 := by
    unfold globAll at hg
    split at hg <;> first | omega | cases hg
  rcases hgs with rfl | rfl | rfl | rfl | rfl | rfl | rfl
  · have h := s_pref
    rw [hg] at h
    exact h
  · have h := s_sty
    rw [hg] at h
    exact h
  · have h := s_syn
    rw [hg] at h
    exact h
  · have h := s_rng
    rw [hg] at h
    exact h
  · have h := s_p10
    rw [hg] at h
    exact h
  · have h := s_d32
    rw [hg] at h
    exact h
  · have h := s_d64
    rw [hg] at h
    exact h
end Go.Proofs.YtleaeoncofgkjaaGreatDoor
