/- The statement LegalRanks is proved: whatever the input, the law returns true and the input reads as it did. Conditions: none. -/
import Derived.Test.YtleaeoncofgkjaaDoorPart25
import Derived.Test.YtleaeoncofgkjaaDoorPart26
import Derived.Test.YtleaeoncofgkjaaDoorPart27
import Derived.Test.YtleaeoncofgkjaaDoorTie
import Derived.Test.YtleaeoncofgkjaaDoorCards
import Derived.ProofKit
import Derived.ChangeMaps5
import Derived.LaidMore
import Derived.OpenShut
import Derived.Stop.Joined
import Derived.SevenTiedAt
import Derived.WideKeyPair
namespace Go.Proofs.YtleaeoncofgkjaaDoor
open Go Go.Pv Go.ChangeShapes Go.WideShapes Go.ChangeAt Go.WideMaps Go.WideElems Go.RowKit Go.ChangeMaps

def OkFn (j : Nat) : Prop := ∀ sf, fnAll j = some sf → ∃ K f, tT.P.funcs[tT.fnum j]? = some f ∧ cFunc tT K sf.mode f = some sf
theorem o4 : OkFn 4 := fun sf h => by cases h; exact ⟨k4, Tryd.f4, Tryd.func4, c4⟩
theorem o8 : OkFn 8 := fun sf h => by cases h; exact ⟨k8, Tryd.f8, Tryd.func8, c8⟩
theorem o10 : OkFn 10 := fun sf h => by cases h; exact ⟨k10, Tryd.f10, Tryd.func10, c10⟩
theorem o11 : OkFn 11 := fun sf h => by cases h; exact ⟨k11, Tryd.f11, Tryd.func11, c11⟩
theorem o12 : OkFn 12 := fun sf h => by cases h; exact ⟨k12, Tryd.f12, Tryd.func12, c12⟩
theorem o13 : OkFn 13 := fun sf h => by cases h; exact ⟨k13, Tryd.f13, Tryd.func13, c13⟩
theorem o14 : OkFn 14 := fun sf h => by cases h; exact ⟨k14, Tryd.f14, Tryd.func14, c14⟩
theorem o23 : OkFn 23 := fun sf h => by cases h; exact ⟨k23, Tryd.f23, Tryd.func23, c23⟩
theorem o24 : OkFn 24 := fun sf h => by cases h; exact ⟨k24, Tryd.f24, Tryd.func24, c24⟩
theorem o25 : OkFn 25 := fun sf h => by cases h; exact ⟨k25, Tryd.f25, Tryd.func25, c25⟩
theorem o26 : OkFn 26 := fun sf h => by cases h; exact ⟨k26, Tryd.f26, Tryd.func26, c26⟩
theorem o35 : OkFn 35 := fun sf h => by cases h; exact ⟨k35, Tryd.f35, Tryd.func35, c35⟩
theorem o36 : OkFn 36 := fun sf h => by cases h; exact ⟨k36, Tryd.f36, Tryd.func36, c36⟩
theorem o37 : OkFn 37 := fun sf h => by cases h; exact ⟨k37, Tryd.f37, Tryd.func37, c37⟩
theorem o38 : OkFn 38 := fun sf h => by cases h; exact ⟨k38, Tryd.f38, Tryd.func38, c38⟩
theorem o39 : OkFn 39 := fun sf h => by cases h; exact ⟨k39, Tryd.f39, Tryd.func39, c39⟩
theorem o40 : OkFn 40 := fun sf h => by cases h; exact ⟨k40, Tryd.f40, Tryd.func40, c40⟩
theorem o41 : OkFn 41 := fun sf h => by cases h; exact ⟨k41, Tryd.f41, Tryd.func41, c41⟩
theorem o54 : OkFn 54 := fun sf h => by cases h; exact ⟨k54, Tryd.f54, Tryd.func54, c54⟩
theorem o55 : OkFn 55 := fun sf h => by cases h; exact ⟨k55, Tryd.f55, Tryd.func55, c55⟩
theorem o56 : OkFn 56 := fun sf h => by cases h; exact ⟨k56, Tryd.f56, Tryd.func56, c56⟩
theorem o57 : OkFn 57 := fun sf h => by cases h; exact ⟨k57, Tryd.f57, Tryd.func57, c57⟩
theorem o58 : OkFn 58 := fun sf h => by cases h; exact ⟨k58, Tryd.f58, Tryd.func58, c58⟩
theorem o59 : OkFn 59 := fun sf h => by cases h; exact ⟨k59, Tryd.f59, Tryd.func59, c59⟩
theorem o60 : OkFn 60 := fun sf h => by cases h; exact ⟨k60, Tryd.f60, Tryd.func60, c60⟩
theorem o61 : OkFn 61 := fun sf h => by cases h; exact ⟨k61, Tryd.f61, Tryd.func61, c61⟩
theorem o75 : OkFn 75 := fun sf h => by cases h; exact ⟨k75, Tryd.f75, Tryd.func75, c75⟩
theorem ok_rch : ∀ j ∈ rch 4, OkFn j := List.forall_mem_cons.2 ⟨o4, List.forall_mem_cons.2 ⟨o8, List.forall_mem_cons.2 ⟨o10, List.forall_mem_cons.2 ⟨o11, List.forall_mem_cons.2 ⟨o12, List.forall_mem_cons.2 ⟨o13, List.forall_mem_cons.2 ⟨o14, List.forall_mem_cons.2 ⟨o23, List.forall_mem_cons.2 ⟨o24, List.forall_mem_cons.2 ⟨o25, List.forall_mem_cons.2 ⟨o26, List.forall_mem_cons.2 ⟨o35, List.forall_mem_cons.2 ⟨o36, List.forall_mem_cons.2 ⟨o37, List.forall_mem_cons.2 ⟨o38, List.forall_mem_cons.2 ⟨o39, List.forall_mem_cons.2 ⟨o40, List.forall_mem_cons.2 ⟨o41, List.forall_mem_cons.2 ⟨o54, List.forall_mem_cons.2 ⟨o55, List.forall_mem_cons.2 ⟨o56, List.forall_mem_cons.2 ⟨o57, List.forall_mem_cons.2 ⟨o58, List.forall_mem_cons.2 ⟨o59, List.forall_mem_cons.2 ⟨o60, List.forall_mem_cons.2 ⟨o61, List.forall_mem_cons.2 ⟨o75, List.forall_mem_nil _⟩⟩⟩⟩⟩⟩⟩⟩⟩⟩⟩⟩⟩⟩⟩⟩⟩⟩⟩⟩⟩⟩⟩⟩⟩⟩⟩
def EN : Env := { fn := fun j => if (rch 4).contains j then fnAll j else none, glob := fun g => if (grch 4).contains g then globAll g else none, ext := fun _ => none }
theorem EN_code {k : Nat} {f : SFunc} (hk : k ∈ rch 4) (hf : fnAll k = some f) : EN.code k = some f := by
  simp [Env.code, EN, hk, hf]
theorem hasN : Has 4 EN where
  fn := fun k f hk hf => EN_code hk hf
  gl := fun g cs hg hc => by simp [EN, hg, hc]
  ex := fun k g hk hg => by
    have : ∀ k ∈ rch 4, extAll k = none := by decide
    rw [this k hk] at hg
    cases hg
theorem shutG0 : (globAll 0).bind (fun cs => shutL 0 0 cs) = globAll 0 := by kernel_rfl
theorem okN : EnvOk tT EN where
  mix := by kernel_rfl
  fn := fun j sf h => by
    simp only [EN] at h
    split at h
    · rename_i hc
      exact ok_rch j (by simpa using hc) sf h
    · cases h
  glob := fun g cs h => by
    simp only [EN] at h
    split at h
    · rename_i hc
      have hg : g = 0 := by
        have : (grch 4) = [0] := rfl
        rw [this] at hc
        simpa using hc
      subst hg
      have := shutG0
      rw [h] at this
      exact this
    · cases h
  ext := fun j g h => by cases h

theorem own : ownKnob Tryd.prog.godebug = none := by kernel_rfl
theorem gPref : Tryd.prog.globalNamed "drachm/atoms.prefixes" = some 0 := by kernel_rfl
theorem tPref : (Tryd.prog.globals[0]?).map (·.type) = some 128 := by kernel_rfl
theorem dPref : dCells Tryd.prog 8 128 (Rows.laid_drachm_atoms_prefixes (H := Unit)) = globAll 0 := by kernel_rfl
def laid1 : List (String × DataW Unit) := [("drachm/atoms.prefixes", Rows.laid_drachm_atoms_prefixes)]
theorem door_met (os : Os) (args : Array Value) : laidMetH Tryd.prog laid1 ((World.doorLaid Tryd.prog 4000 os).forCall (fun _ _ => 0) ⟨#[], args, []⟩).memory :=
  laidMetH_of_parts3 (fuel := 8) (laidMet_of_run' 8 (by kernel_rfl) (by kernel_rfl)) (by kernel_rfl) (by kernel_rfl)
theorem glob_of {W : World} (h : laidMetH Tryd.prog laid1 W) : ∀ g cs, EN.glob g = some cs → ∃ c e fz l, W.heap[tT.gnum g]? = some (.cells c e fz) ∧ RepL tT (Ghost.met W) W cs l ∧ (∀ (i : Nat) (v : Value), l[i]? = some v → c[i]? = some v) := by
  intro g cs hg
  rw [MakeChecks.laidMetH_plain _ _ _ (by kernel_rfl)] at h
  obtain ⟨ps, hl, _⟩ := h
  simp only [EN] at hg
  split at hg
  · rename_i hc
    have h0 : g = 0 := by
      have : (grch 4) = [0] := rfl
      rw [this] at hc
      simpa using hc
    subst h0
    obtain ⟨h1, _⟩ := laid_cells (T := tT) hl gPref tPref (dPref.trans hg) (Ghost.met W)
    exact h1
  · cases hg

theorem callsN {W : World} (h : laidMetH Tryd.prog laid1 W) (x : Int) (y : ByteArray) (z0 z1 : Int) (hy : y.size ≤ maxLen) :
    Calls Tryd.prog 4 #[.int .i64 x, .string y, .agg #[.int .i64 z0, .int .i64 z1]] W fun e W' => e = .returned (.bool true) ∧ W.keptBut W' (fun _ => False) := by
  have hc := calls_of (T := tT) okN (legalRanks_eq hasN x z0 z1 y.data.toList) (inv_met (glob_of h)) (l := [.int .i64 x, .string y, .agg #[.int .i64 z0, .int .i64 z1]]) ⟨_, _, rfl, rfl, _, _, rfl, rfl, _, _, rfl, ⟨_, rfl, _, _, rfl, rfl, _, _, rfl, rfl, rfl⟩, rfl⟩
  refine hc.mono fun e W' ⟨u, G', h1, h2, h3⟩ => ⟨?_, kept_of_ext h3 _⟩
  rw [h1]
  simp only [RepV] at h2
  rw [h2]

theorem arrN : ArrKey Tryd.prog 25 3 2 := ⟨by kernel_rfl, by kernel_rfl, by kernel_rfl, by kernel_rfl⟩
set_option maxRecDepth 100000 in
theorem legalRanks_lifted (os : Os) (started : os.Started) (H : Type) (enc : TypeId × Value → H) :
    ReturnsInHanded {} Tryd.checked os 4 .any (fun w args => (Rows.legalRanksSpec.pre enc Tryd.prog Tryd.f4 [] false w args ∧ laidMetH Tryd.prog laid1 w) ∧ sizedMet enc Tryd.prog Tryd.f4 (OpenSpec.ofChange Rows.legalRanksSpec) false w args)
      (Rows.legalRanksSpec.post enc Tryd.prog Tryd.f4 false true false false) := by
  refine returnsInHanded_of_change_and (C := Tryd.checked) (X := fun w _ => laidMetH Tryd.prog laid1 w) (fun _ _ _ hh h => h.of_heap hh) own started (by kernel_rfl) Tryd.func4
    (ChangeSpec.witness_shaped (enc := enc) (C := Tryd.checked) (os := os) (X := fun w _ => laidMetH Tryd.prog laid1 w) false (World.doorLaid Tryd.prog 4000 os) #[.int .i64 0, .string ⟨#[]⟩, .agg #[.int .i64 0, .int .i64 0]] 8 rfl (World.shaped_of_RefB (by kernel_rfl) (by kernel_rfl)) (by kernel_rfl) (by kernel_rfl) (by kernel_rfl) (door_met os _)) ?_
  intro W base args ds gs before hval0 hW _ _ hL _
  have hval : ∀ (j : Nat) t v, Tryd.f4.params[j]? = some t → args[j]? = some v → Value.okWide Tryd.prog W .any base t v := hval0
  have hW' := hW
  obtain ⟨p, q, hA0, hV, rfl, hfz, hnd⟩ := hW
  have hA : DataW.TrodAll enc Tryd.prog W 0 (fun _ => true) true Tryd.f4.params.toList args.toList ds p := hA0
  rw [Tryd.params4] at hA hval
  obtain ⟨v0, v1, v2, d0, d1, d2, p0, p1, p2, rfl, rfl, rfl, h0, h1, h2⟩ := trodAll_three hA
  obtain ⟨rfl, rfl⟩ := trodVars_none hV
  obtain ⟨x, rfl, rfl, rfl, wx⟩ := open_int Tryd.underlying3 (hval 0 3 v0 rfl rfl) h0
  obtain ⟨y, rfl, rfl, rfl, hy⟩ := open_string Tryd.underlying9 (hval 1 9 v1 rfl rfl) h1
  obtain ⟨z0, z1, rfl, rfl, rfl, waz, wbz⟩ := open_pair arrN Tryd.underlying3 (hval 2 25 v2 rfl rfl) h2
  clear hA0 hval0
  refine (callsN hL x y z0 z1 hy).mono fun e W' ⟨he, hk⟩ => ?_
  subst he
  exact ⟨_, rfl, post_new hW' (fun _ _ _ => trodAll_mk1 (shut_bool Tryd.underlying4 _)) (fun sp => trodAll_mk3 (shut_int Tryd.underlying3 wx) (shut_string Tryd.underlying9 hy) (shut_pair arrN Tryd.underlying3 waz wbz)) (fun _ => rfl) hk
    (ok_one (by kernel_rfl) rfl (okWide_bool_mk Tryd.underlying4 _))⟩
theorem legalRanks_holds : Rows.LegalRanksSaid :=
  OpenClaim.holds_of_wide 4 Tryd.f4 rfl rfl rfl rfl rfl rfl rfl ⟨rfl, rfl, rfl, rfl, rfl⟩ rfl rfl rfl rfl rfl (by kernel_rfl) Tryd.func4 (by kernel_rfl)
    (of_decide_eq_true (by kernel_rfl)) (by unfold Func.isWrapper; first | (rw [if_pos (by decide +kernel)]; kernel_rfl) | (rw [if_neg (by decide +kernel)]; exact ⟨rfl, rfl⟩))
    (fun os started H enc _ => legalRanks_lifted os started H enc)

theorem legalRanks_card : Rows.LegalRanksCardSaid :=
  Claim7.holds_tied_plain_at .later [] [.widerDeep] true (true, "bf197c2a1d281b6b74f47c9fd101f4da671637a52cd5e9b5dc2d28021c99a0c3") true
    legalRanks_holds (fun _ h => by cases h) (by kernel_rfl) (fun _ h => by cases h) legalRanks_row_tie rfl ⟨rfl, rfl⟩ (by kernel_rfl) rfl
    (fun f fn hf hfn => by
      obtain rfl : f = 4 := Option.some.inj ((show Tryd.prog.funcNamed "drachm/drachmlaw18.LegalRanks" = some 4 by kernel_rfl).symm.trans hf) |>.symm
      obtain rfl : fn = Tryd.f4 := (Option.some.inj (Tryd.func4.symm.trans hfn)).symm
      exact ⟨by kernel_rfl, fun j t ht => by
        rw [Tryd.params4] at ht
        have h3 : t = 3 ∨ t = 9 ∨ t = 25 := by
          rcases j with _ | _ | _ | j
          · exact .inl (by simpa using ht.symm)
          · exact .inr (.inl (by simpa using ht.symm))
          · exact .inr (.inr ((by simpa using ht.symm)))
          · simp at ht
        rcases h3 with rfl | rfl | rfl
        · exact (show Tryd.prog.wantsStandIn 3 = false by kernel_rfl)
        · exact (show Tryd.prog.wantsStandIn 9 = false by kernel_rfl)
        · exact (show Tryd.prog.wantsStandIn 25 = false by kernel_rfl)⟩)
    (by kernel_rfl)
#print axioms legalRanks_card
end Go.Proofs.YtleaeoncofgkjaaDoor
