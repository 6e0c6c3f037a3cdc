/- The statement ParsePowers is proved: whatever the input, the law returns true and the input reads as it did. Conditions: none. -/
import Derived.Test.YtleaeoncofgkjaaDoorPart30
import Derived.Test.YtleaeoncofgkjaaDoorPart31
import Derived.Test.YtleaeoncofgkjaaDoorTie
import Derived.Test.YtleaeoncofgkjaaDoorCards
import Derived.Test.YtleaeoncofgkjaaDoorPart32
import Derived.ProofKit
import Derived.ChangeMaps5
import Derived.LaidMore
import Derived.OpenShut
import Derived.Stop.Joined
import Derived.SevenTiedAt
import Derived.WideKeyPair
namespace Go.Proofs.YtleaeoncofgkjaaDoor
open Go Go.Pv Go.ChangeShapes Go.WideShapes Go.ChangeAt Go.WideMaps Go.WideElems Go.RowKit Go.ChangeMaps

def OkFn (j : Nat) : Prop := ∀ sf, fnAll j = some sf → ∃ K f, tT.P.funcs[tT.fnum j]? = some f ∧ cFunc tT K sf.mode f = some sf
theorem o6 : OkFn 6 := fun sf h => by cases h; exact ⟨k6, Tryd.f6, Tryd.func6, c6⟩
theorem o13 : OkFn 13 := fun sf h => by cases h; exact ⟨k13, Tryd.f13, Tryd.func13, c13⟩
theorem o17 : OkFn 17 := fun sf h => by cases h; exact ⟨k17, Tryd.f17, Tryd.func17, c17⟩
theorem o18 : OkFn 18 := fun sf h => by cases h; exact ⟨k18, Tryd.f18, Tryd.func18, c18⟩
theorem o19 : OkFn 19 := fun sf h => by cases h; exact ⟨k19, Tryd.f19, Tryd.func19, c19⟩
theorem o20 : OkFn 20 := fun sf h => by cases h; exact ⟨k20, Tryd.f20, Tryd.func20, c20⟩
theorem o25 : OkFn 25 := fun sf h => by cases h; exact ⟨k25, Tryd.f25, Tryd.func25, c25⟩
theorem o26 : OkFn 26 := fun sf h => by cases h; exact ⟨k26, Tryd.f26, Tryd.func26, c26⟩
theorem o30 : OkFn 30 := fun sf h => by cases h; exact ⟨k30, Tryd.f30, Tryd.func30, c30⟩
theorem o31 : OkFn 31 := fun sf h => by cases h; exact ⟨k31, Tryd.f31, Tryd.func31, c31⟩
theorem o32 : OkFn 32 := fun sf h => by cases h; exact ⟨k32, Tryd.f32, Tryd.func32, c32⟩
theorem o33 : OkFn 33 := fun sf h => by cases h; exact ⟨k33, Tryd.f33, Tryd.func33, c33⟩
theorem o38 : OkFn 38 := fun sf h => by cases h; exact ⟨k38, Tryd.f38, Tryd.func38, c38⟩
theorem o39 : OkFn 39 := fun sf h => by cases h; exact ⟨k39, Tryd.f39, Tryd.func39, c39⟩
theorem o40 : OkFn 40 := fun sf h => by cases h; exact ⟨k40, Tryd.f40, Tryd.func40, c40⟩
theorem o41 : OkFn 41 := fun sf h => by cases h; exact ⟨k41, Tryd.f41, Tryd.func41, c41⟩
theorem o44 : OkFn 44 := fun sf h => by cases h; exact ⟨k44, Tryd.f44, Tryd.func44, c44⟩
theorem o45 : OkFn 45 := fun sf h => by cases h; exact ⟨k45, Tryd.f45, Tryd.func45, c45⟩
theorem o46 : OkFn 46 := fun sf h => by cases h; exact ⟨k46, Tryd.f46, Tryd.func46, c46⟩
theorem o47 : OkFn 47 := fun sf h => by cases h; exact ⟨k47, Tryd.f47, Tryd.func47, c47⟩
theorem o48 : OkFn 48 := fun sf h => by cases h; exact ⟨k48, Tryd.f48, Tryd.func48, c48⟩
theorem o49 : OkFn 49 := fun sf h => by cases h; exact ⟨k49, Tryd.f49, Tryd.func49, c49⟩
theorem o50 : OkFn 50 := fun sf h => by cases h; exact ⟨k50, Tryd.f50, Tryd.func50, c50⟩
theorem o56 : OkFn 56 := fun sf h => by cases h; exact ⟨k56, Tryd.f56, Tryd.func56, c56⟩
theorem o57 : OkFn 57 := fun sf h => by cases h; exact ⟨k57, Tryd.f57, Tryd.func57, c57⟩
theorem o58 : OkFn 58 := fun sf h => by cases h; exact ⟨k58, Tryd.f58, Tryd.func58, c58⟩
theorem o59 : OkFn 59 := fun sf h => by cases h; exact ⟨k59, Tryd.f59, Tryd.func59, c59⟩
theorem o60 : OkFn 60 := fun sf h => by cases h; exact ⟨k60, Tryd.f60, Tryd.func60, c60⟩
theorem o61 : OkFn 61 := fun sf h => by cases h; exact ⟨k61, Tryd.f61, Tryd.func61, c61⟩
theorem o62 : OkFn 62 := fun sf h => by cases h; exact ⟨k62, Tryd.f62, Tryd.func62, c62⟩
theorem o63 : OkFn 63 := fun sf h => by cases h; exact ⟨k63, Tryd.f63, Tryd.func63, c63⟩
theorem o64 : OkFn 64 := fun sf h => by cases h; exact ⟨k64, Tryd.f64, Tryd.func64, c64⟩
theorem o65 : OkFn 65 := fun sf h => by cases h; exact ⟨k65, Tryd.f65, Tryd.func65, c65⟩
theorem o66 : OkFn 66 := fun sf h => by cases h; exact ⟨k66, Tryd.f66, Tryd.func66, c66⟩
theorem o67 : OkFn 67 := fun sf h => by cases h; exact ⟨k67, Tryd.f67, Tryd.func67, c67⟩
theorem o68 : OkFn 68 := fun sf h => by cases h; exact ⟨k68, Tryd.f68, Tryd.func68, c68⟩
theorem o69 : OkFn 69 := fun sf h => by cases h; exact ⟨k69, Tryd.f69, Tryd.func69, c69⟩
theorem o70 : OkFn 70 := fun sf h => by cases h; exact ⟨k70, Tryd.f70, Tryd.func70, c70⟩
theorem o75 : OkFn 75 := fun sf h => by cases h; exact ⟨k75, Tryd.f75, Tryd.func75, c75⟩
theorem o76 : OkFn 76 := fun sf h => by cases h; exact ⟨k76, Tryd.f76, Tryd.func76, c76⟩
theorem o77 : OkFn 77 := fun sf h => by cases h; exact ⟨k77, Tryd.f77, Tryd.func77, c77⟩
theorem o78 : OkFn 78 := fun sf h => by cases h; exact ⟨k78, Tryd.f78, Tryd.func78, c78⟩
theorem o79 : OkFn 79 := fun sf h => by cases h; exact ⟨k79, Tryd.f79, Tryd.func79, c79⟩
theorem o80 : OkFn 80 := fun sf h => by cases h; exact ⟨k80, Tryd.f80, Tryd.func80, c80⟩
theorem o82 : OkFn 82 := fun sf h => by cases h; exact ⟨k82, Tryd.f82, Tryd.func82, c82⟩
theorem o83 : OkFn 83 := fun sf h => by cases h; exact ⟨k83, Tryd.f83, Tryd.func83, c83⟩
theorem o84 : OkFn 84 := fun sf h => by cases h; exact ⟨k84, Tryd.f84, Tryd.func84, c84⟩
theorem o88 : OkFn 88 := fun sf h => by cases h; exact ⟨k88, Tryd.f88, Tryd.func88, c88⟩
theorem o89 : OkFn 89 := fun sf h => by cases h; exact ⟨k89, Tryd.f89, Tryd.func89, c89⟩
theorem o90 : OkFn 90 := fun sf h => by cases h; exact ⟨k90, Tryd.f90, Tryd.func90, c90⟩
theorem o91 : OkFn 91 := fun sf h => by cases h; exact ⟨k91, Tryd.f91, Tryd.func91, c91⟩
theorem o92 : OkFn 92 := fun sf h => by cases h; exact ⟨k92, Tryd.f92, Tryd.func92, c92⟩
theorem o94 : OkFn 94 := fun sf h => by cases h; exact ⟨k94, Tryd.f94, Tryd.func94, c94⟩
theorem o95 : OkFn 95 := fun sf h => by cases h; exact ⟨k95, Tryd.f95, Tryd.func95, c95⟩
theorem o96 : OkFn 96 := fun sf h => by cases h; exact ⟨k96, Tryd.f96, Tryd.func96, c96⟩
theorem o97 : OkFn 97 := fun sf h => by cases h; exact ⟨k97, Tryd.f97, Tryd.func97, c97⟩
theorem o99 : OkFn 99 := fun sf h => by cases h; exact ⟨k99, Tryd.f99, Tryd.func99, c99⟩
theorem o100 : OkFn 100 := fun sf h => by cases h; exact ⟨k100, Tryd.f100, Tryd.func100, c100⟩
theorem o101 : OkFn 101 := fun sf h => by cases h; exact ⟨k101, Tryd.f101, Tryd.func101, c101⟩
theorem o102 : OkFn 102 := fun sf h => by cases h; exact ⟨k102, Tryd.f102, Tryd.func102, c102⟩
theorem o103 : OkFn 103 := fun sf h => by cases h; exact ⟨k103, Tryd.f103, Tryd.func103, c103⟩
theorem o104 : OkFn 104 := fun sf h => by cases h; exact ⟨k104, Tryd.f104, Tryd.func104, c104⟩
theorem o105 : OkFn 105 := fun sf h => by cases h; exact ⟨k105, Tryd.f105, Tryd.func105, c105⟩
theorem o106 : OkFn 106 := fun sf h => by cases h; exact ⟨k106, Tryd.f106, Tryd.func106, c106⟩
theorem o107 : OkFn 107 := fun sf h => by cases h; exact ⟨k107, Tryd.f107, Tryd.func107, c107⟩
theorem o108 : OkFn 108 := fun sf h => by cases h; exact ⟨k108, Tryd.f108, Tryd.func108, c108⟩
theorem o109 : OkFn 109 := fun sf h => by cases h; exact ⟨k109, Tryd.f109, Tryd.func109, c109⟩
theorem o110 : OkFn 110 := fun sf h => by cases h; exact ⟨k110, Tryd.f110, Tryd.func110, c110⟩
theorem o111 : OkFn 111 := fun sf h => by cases h; exact ⟨k111, Tryd.f111, Tryd.func111, c111⟩
theorem o112 : OkFn 112 := fun sf h => by cases h; exact ⟨k112, Tryd.f112, Tryd.func112, c112⟩
theorem o113 : OkFn 113 := fun sf h => by cases h; exact ⟨k113, Tryd.f113, Tryd.func113, c113⟩
theorem o114 : OkFn 114 := fun sf h => by cases h; exact ⟨k114, Tryd.f114, Tryd.func114, c114⟩
theorem o115 : OkFn 115 := fun sf h => by cases h; exact ⟨k115, Tryd.f115, Tryd.func115, c115⟩
theorem o116 : OkFn 116 := fun sf h => by cases h; exact ⟨k116, Tryd.f116, Tryd.func116, c116⟩
theorem o81 : OkFn 81 := fun sf h => by cases h
theorem o93 : OkFn 93 := fun sf h => by cases h
theorem o98 : OkFn 98 := fun sf h => by cases h
theorem ok_rch : ∀ j ∈ rch 6, OkFn j := List.forall_mem_cons.2 ⟨o6, List.forall_mem_cons.2 ⟨o13, List.forall_mem_cons.2 ⟨o17, List.forall_mem_cons.2 ⟨o18, List.forall_mem_cons.2 ⟨o19, List.forall_mem_cons.2 ⟨o20, List.forall_mem_cons.2 ⟨o25, List.forall_mem_cons.2 ⟨o26, List.forall_mem_cons.2 ⟨o30, List.forall_mem_cons.2 ⟨o31, List.forall_mem_cons.2 ⟨o32, List.forall_mem_cons.2 ⟨o33, List.forall_mem_cons.2 ⟨o38, List.forall_mem_cons.2 ⟨o39, List.forall_mem_cons.2 ⟨o40, List.forall_mem_cons.2 ⟨o41, List.forall_mem_cons.2 ⟨o44, List.forall_mem_cons.2 ⟨o45, List.forall_mem_cons.2 ⟨o46, List.forall_mem_cons.2 ⟨o47, List.forall_mem_cons.2 ⟨o48, List.forall_mem_cons.2 ⟨o49, List.forall_mem_cons.2 ⟨o50, List.forall_mem_cons.2 ⟨o56, List.forall_mem_cons.2 ⟨o57, List.forall_mem_cons.2 ⟨o58, List.forall_mem_cons.2 ⟨o59, List.forall_mem_cons.2 ⟨o60, List.forall_mem_cons.2 ⟨o61, List.forall_mem_cons.2 ⟨o62, List.forall_mem_cons.2 ⟨o63, List.forall_mem_cons.2 ⟨o64, List.forall_mem_cons.2 ⟨o65, List.forall_mem_cons.2 ⟨o66, List.forall_mem_cons.2 ⟨o67, List.forall_mem_cons.2 ⟨o68, List.forall_mem_cons.2 ⟨o69, List.forall_mem_cons.2 ⟨o70, List.forall_mem_cons.2 ⟨o75, List.forall_mem_cons.2 ⟨o76, List.forall_mem_cons.2 ⟨o77, List.forall_mem_cons.2 ⟨o78, List.forall_mem_cons.2 ⟨o79, List.forall_mem_cons.2 ⟨o80, List.forall_mem_cons.2 ⟨o81, List.forall_mem_cons.2 ⟨o82, List.forall_mem_cons.2 ⟨o83, List.forall_mem_cons.2 ⟨o84, List.forall_mem_cons.2 ⟨o88, List.forall_mem_cons.2 ⟨o89, List.forall_mem_cons.2 ⟨o90, List.forall_mem_cons.2 ⟨o91, List.forall_mem_cons.2 ⟨o92, List.forall_mem_cons.2 ⟨o93, List.forall_mem_cons.2 ⟨o94, List.forall_mem_cons.2 ⟨o95, List.forall_mem_cons.2 ⟨o96, List.forall_mem_cons.2 ⟨o97, List.forall_mem_cons.2 ⟨o98, List.forall_mem_cons.2 ⟨o99, List.forall_mem_cons.2 ⟨o100, List.forall_mem_cons.2 ⟨o101, List.forall_mem_cons.2 ⟨o102, List.forall_mem_cons.2 ⟨o103, List.forall_mem_cons.2 ⟨o104, List.forall_mem_cons.2 ⟨o105, List.forall_mem_cons.2 ⟨o106, List.forall_mem_cons.2 ⟨o107, List.forall_mem_cons.2 ⟨o108, List.forall_mem_cons.2 ⟨o109, List.forall_mem_cons.2 ⟨o110, List.forall_mem_cons.2 ⟨o111, List.forall_mem_cons.2 ⟨o112, List.forall_mem_cons.2 ⟨o113, List.forall_mem_cons.2 ⟨o114, List.forall_mem_cons.2 ⟨o115, List.forall_mem_cons.2 ⟨o116, List.forall_mem_nil _⟩⟩⟩⟩⟩⟩⟩⟩⟩⟩⟩⟩⟩⟩⟩⟩⟩⟩⟩⟩⟩⟩⟩⟩⟩⟩⟩⟩⟩⟩⟩⟩⟩⟩⟩⟩⟩⟩⟩⟩⟩⟩⟩⟩⟩⟩⟩⟩⟩⟩⟩⟩⟩⟩⟩⟩⟩⟩⟩⟩⟩⟩⟩⟩⟩⟩⟩⟩⟩⟩⟩⟩⟩⟩⟩⟩⟩
def EN : Env := { fn := fun j => if (rch 6).contains j then fnAll j else none, glob := globAll, ext := fun j => if (rch 6).contains j then extAll j else none }
theorem EN_code {k : Nat} {f : SFunc} (hk : k ∈ rch 6) (hf : fnAll k = some f) : EN.code k = some f := by
  have hx : extAll k = none := by
    unfold extAll
    split
    · cases hf
    · cases hf
    · rfl
  simp [Env.code, EN, hk, hf, hx]
theorem hasN : Has 6 EN where
  fn := fun k f hk hf => EN_code hk hf
  gl := fun g cs hg hc => hc
  ex := fun k g hk hg => by simp [EN, hk, hg]
theorem okN : EnvOk tT EN where
  mix := by kernel_rfl
  fn := fun j sf h => by
    simp only [EN] at h
    split at h
    · rename_i hc
      exact ok_rch j (by simpa using hc) sf h
    · cases h
  glob := fun g cs h => shut7 g cs h
  ext := fun j g h => by
    simp only [EN] at h
    split at h
    · unfold extAll at h
      split at h
      · cases h
        exact ⟨_, _, Tryd.func81, rfl, by decide, ext81⟩
      · cases h
        exact ⟨_, _, Tryd.func98, rfl, by decide, ext98⟩
      · cases h
    · cases h
theorem glob_of {W : World} (h : laidMetH Tryd.prog laid7 W) : ∀ g cs, EN.glob g = some cs → ∃ c e fz l, W.heap[tT.gnum g]? = some (.cells c e fz) ∧ RepL tT (Ghost.met W) W cs l ∧ (∀ (i : Nat) (v : Value), l[i]? = some v → c[i]? = some v) := glob_of7 h

theorem callsN {W : World} (h : laidMetH Tryd.prog laid7 W) (x : Int) (y : Int) (z0 z1 : Int) :
    Calls Tryd.prog 6 #[.int .i64 x, .int .i64 y, .agg #[.int .i64 z0, .int .i64 z1]] W fun e W' => e = .returned (.bool true) ∧ W.keptBut W' (fun _ => False) := by
  have hc := calls_of (T := tT) okN (parsePowers_eq hasN x y z0 z1) (inv_met (glob_of h)) (l := [.int .i64 x, .int .i64 y, .agg #[.int .i64 z0, .int .i64 z1]]) ⟨_, _, rfl, rfl, _, _, rfl, rfl, _, _, rfl, ⟨_, rfl, _, _, rfl, rfl, _, _, rfl, rfl, rfl⟩, rfl⟩
  refine hc.mono fun e W' ⟨u, G', h1, h2, h3⟩ => ⟨?_, kept_of_ext h3 _⟩
  rw [h1]
  simp only [RepV] at h2
  rw [h2]

theorem arrN : ArrKey Tryd.prog 25 3 2 := ⟨by kernel_rfl, by kernel_rfl, by kernel_rfl, by kernel_rfl⟩
set_option maxRecDepth 100000 in
theorem parsePowers_lifted (os : Os) (started : os.Started) (H : Type) (enc : TypeId × Value → H) :
    ReturnsInHanded {} Tryd.checked os 6 .any (fun w args => (Rows.parsePowersSpec.pre enc Tryd.prog Tryd.f6 [] false w args ∧ laidMetH Tryd.prog laid7 w) ∧ sizedMet enc Tryd.prog Tryd.f6 (OpenSpec.ofChange Rows.parsePowersSpec) false w args)
      (Rows.parsePowersSpec.post enc Tryd.prog Tryd.f6 false true false false) := by
  refine returnsInHanded_of_change_and (C := Tryd.checked) (X := fun w _ => laidMetH Tryd.prog laid7 w) (fun _ _ _ hh h => h.of_heap hh) own started (by kernel_rfl) Tryd.func6
    (ChangeSpec.witness_shaped (enc := enc) (C := Tryd.checked) (os := os) (X := fun w _ => laidMetH Tryd.prog laid7 w) false (World.doorLaid Tryd.prog 4000 os) #[.int .i64 0, .int .i64 0, .agg #[.int .i64 0, .int .i64 0]] 8 rfl (World.shaped_of_RefB (by kernel_rfl) (by kernel_rfl)) (by kernel_rfl) (by kernel_rfl) (by kernel_rfl) (door_met7 os _)) ?_
  intro W base args ds gs before hval0 hW _ _ hL _
  have hval : ∀ (j : Nat) t v, Tryd.f6.params[j]? = some t → args[j]? = some v → Value.okWide Tryd.prog W .any base t v := hval0
  have hW' := hW
  obtain ⟨p, q, hA0, hV, rfl, hfz, hnd⟩ := hW
  have hA : DataW.TrodAll enc Tryd.prog W 0 (fun _ => true) true Tryd.f6.params.toList args.toList ds p := hA0
  rw [Tryd.params6] at hA hval
  obtain ⟨v0, v1, v2, d0, d1, d2, p0, p1, p2, rfl, rfl, rfl, h0, h1, h2⟩ := trodAll_three hA
  obtain ⟨rfl, rfl⟩ := trodVars_none hV
  obtain ⟨x, rfl, rfl, rfl, wx⟩ := open_int Tryd.underlying3 (hval 0 3 v0 rfl rfl) h0
  obtain ⟨y, rfl, rfl, rfl, wy⟩ := open_int Tryd.underlying3 (hval 1 3 v1 rfl rfl) h1
  obtain ⟨z0, z1, rfl, rfl, rfl, waz, wbz⟩ := open_pair arrN Tryd.underlying3 (hval 2 25 v2 rfl rfl) h2
  clear hA0 hval0
  refine (callsN hL x y z0 z1).mono fun e W' ⟨he, hk⟩ => ?_
  subst he
  exact ⟨_, rfl, post_new hW' (fun _ _ _ => trodAll_mk1 (shut_bool Tryd.underlying4 _)) (fun sp => trodAll_mk3 (shut_int Tryd.underlying3 wx) (shut_int Tryd.underlying3 wy) (shut_pair arrN Tryd.underlying3 waz wbz)) (fun _ => rfl) hk
    (ok_one (by kernel_rfl) rfl (okWide_bool_mk Tryd.underlying4 _))⟩
theorem parsePowers_holds : Rows.ParsePowersSaid :=
  OpenClaim.holds_of_wide 6 Tryd.f6 rfl rfl rfl rfl rfl rfl rfl ⟨rfl, rfl, rfl, rfl, rfl⟩ rfl rfl rfl rfl rfl (by kernel_rfl) Tryd.func6 (by kernel_rfl)
    (of_decide_eq_true (by kernel_rfl)) (by unfold Func.isWrapper; first | (rw [if_pos (by decide +kernel)]; kernel_rfl) | (rw [if_neg (by decide +kernel)]; exact ⟨rfl, rfl⟩))
    (fun os started H enc _ => parsePowers_lifted os started H enc)

theorem parsePowers_card : Rows.ParsePowersCardSaid :=
  Claim7.holds_tied_plain_at .later [] [.data, .data, .data, .sentinel, .sentinel, .widerDeep, .data] true (true, "bf197c2a1d281b6b74f47c9fd101f4da671637a52cd5e9b5dc2d28021c99a0c3") true
    parsePowers_holds (fun _ h => by cases h) (by kernel_rfl) (fun _ h => by cases h) parsePowers_row_tie rfl ⟨rfl, rfl⟩ (by kernel_rfl) rfl
    (fun f fn hf hfn => by
      obtain rfl : f = 6 := Option.some.inj ((show Tryd.prog.funcNamed "drachm/drachmlaw11.ParsePowers" = some 6 by kernel_rfl).symm.trans hf) |>.symm
      obtain rfl : fn = Tryd.f6 := (Option.some.inj (Tryd.func6.symm.trans hfn)).symm
      exact ⟨by kernel_rfl, fun j t ht => by
        rw [Tryd.params6] at ht
        have h3 : t = 3 ∨ t = 25 := by
          rcases j with _ | _ | _ | j
          · exact .inl (by simpa using ht.symm)
          · exact .inl (by simpa using ht.symm)
          · exact .inr ((by simpa using ht.symm))
          · simp at ht
        rcases h3 with rfl | rfl
        · exact (show Tryd.prog.wantsStandIn 3 = false by kernel_rfl)
        · exact (show Tryd.prog.wantsStandIn 25 = false by kernel_rfl)⟩)
    (by kernel_rfl)
#print axioms parsePowers_card
end Go.Proofs.YtleaeoncofgkjaaDoor
