/- The statement ParseJoins is proved: whatever the input, the law returns true and the input reads as it did. Conditions: none. -/
import Derived.Test.YtleaeoncofgkjaaGreatDoorSet24
import Derived.Test.YtleaeoncofgkjaaGreatDoorSet17
import Derived.Test.YtleaeoncofgkjaaGreatDoorTie
import Derived.Test.YtleaeoncofgkjaaGreatDoorCards
import Derived.Test.YtleaeoncofgkjaaGreatDoorSet18
import Derived.ProofKit
import Derived.ChangeMaps5
import Derived.LaidMore
import Derived.OpenShut
import Derived.Stop.Joined
import Derived.SevenTiedAt
import Derived.WideKeyPair
namespace Go.Proofs.YtleaeoncofgkjaaGreatDoor
open Go Go.Pv Go.ChangeShapes Go.WideShapes Go.ChangeAt Go.WideMaps Go.WideElems Go.RowKit Go.ChangeMaps
def OkFn (j : Nat) : Prop := ∀ sf, fnAll j = some sf → ∃ K f, tT.P.funcs[tT.fnum j]? = some f ∧ cFunc tT K sf.mode f = some sf
theorem o13 : OkFn 13 := fun sf h => by cases h; exact ⟨k13, Tryz.f131, Tryz.func131, c13⟩
theorem o17 : OkFn 17 := fun sf h => by cases h; exact ⟨k17, Tryz.f9, Tryz.func9, c17⟩
theorem o18 : OkFn 18 := fun sf h => by cases h; exact ⟨k18, Tryz.f10, Tryz.func10, c18⟩
theorem o19 : OkFn 19 := fun sf h => by cases h; exact ⟨k19, Tryz.f18, Tryz.func18, c19⟩
theorem o20 : OkFn 20 := fun sf h => by cases h; exact ⟨k20, Tryz.f15, Tryz.func15, c20⟩
theorem o25 : OkFn 25 := fun sf h => by cases h; exact ⟨k25, Tryz.f136, Tryz.func136, c25⟩
theorem o26 : OkFn 26 := fun sf h => by cases h; exact ⟨k26, Tryz.f137, Tryz.func137, c26⟩
theorem o30 : OkFn 30 := fun sf h => by cases h; exact ⟨k30, Tryz.f26, Tryz.func26, c30⟩
theorem o31 : OkFn 31 := fun sf h => by cases h; exact ⟨k31, Tryz.f27, Tryz.func27, c31⟩
theorem o32 : OkFn 32 := fun sf h => by cases h; exact ⟨k32, Tryz.f28, Tryz.func28, c32⟩
theorem o33 : OkFn 33 := fun sf h => by cases h; exact ⟨k33, Tryz.f29, Tryz.func29, c33⟩
theorem o38 : OkFn 38 := fun sf h => by cases h; exact ⟨k38, Tryz.f105, Tryz.func105, c38⟩
theorem o39 : OkFn 39 := fun sf h => by cases h; exact ⟨k39, Tryz.f140, Tryz.func140, c39⟩
theorem o40 : OkFn 40 := fun sf h => by cases h; exact ⟨k40, Tryz.f141, Tryz.func141, c40⟩
theorem o41 : OkFn 41 := fun sf h => by cases h; exact ⟨k41, Tryz.f142, Tryz.func142, c41⟩
theorem o44 : OkFn 44 := fun sf h => by cases h; exact ⟨k44, Tryz.f40, Tryz.func40, c44⟩
theorem o45 : OkFn 45 := fun sf h => by cases h; exact ⟨k45, Tryz.f41, Tryz.func41, c45⟩
theorem o46 : OkFn 46 := fun sf h => by cases h; exact ⟨k46, Tryz.f42, Tryz.func42, c46⟩
theorem o47 : OkFn 47 := fun sf h => by cases h; exact ⟨k47, Tryz.f43, Tryz.func43, c47⟩
theorem o48 : OkFn 48 := fun sf h => by cases h; exact ⟨k48, Tryz.f44, Tryz.func44, c48⟩
theorem o49 : OkFn 49 := fun sf h => by cases h; exact ⟨k49, Tryz.f45, Tryz.func45, c49⟩
theorem o50 : OkFn 50 := fun sf h => by cases h; exact ⟨k50, Tryz.f46, Tryz.func46, c50⟩
theorem o51 : OkFn 51 := fun sf h => by cases h; exact ⟨k51, Tryz.f54, Tryz.func54, c51⟩
theorem o52 : OkFn 52 := fun sf h => by cases h; exact ⟨k52, Tryz.f53, Tryz.func53, c52⟩
theorem o53 : OkFn 53 := fun sf h => by cases h; exact ⟨k53, Tryz.f85, Tryz.func85, c53⟩
theorem o56 : OkFn 56 := fun sf h => by cases h; exact ⟨k56, Tryz.f121, Tryz.func121, c56⟩
theorem o57 : OkFn 57 := fun sf h => by cases h; exact ⟨k57, Tryz.f122, Tryz.func122, c57⟩
theorem o58 : OkFn 58 := fun sf h => by cases h; exact ⟨k58, Tryz.f123, Tryz.func123, c58⟩
theorem o59 : OkFn 59 := fun sf h => by cases h; exact ⟨k59, Tryz.f148, Tryz.func148, c59⟩
theorem o60 : OkFn 60 := fun sf h => by cases h; exact ⟨k60, Tryz.f149, Tryz.func149, c60⟩
theorem o61 : OkFn 61 := fun sf h => by cases h; exact ⟨k61, Tryz.f150, Tryz.func150, c61⟩
theorem o62 : OkFn 62 := fun sf h => by cases h; exact ⟨k62, Tryz.f71, Tryz.func71, c62⟩
theorem o63 : OkFn 63 := fun sf h => by cases h; exact ⟨k63, Tryz.f72, Tryz.func72, c63⟩
theorem o64 : OkFn 64 := fun sf h => by cases h; exact ⟨k64, Tryz.f73, Tryz.func73, c64⟩
theorem o65 : OkFn 65 := fun sf h => by cases h; exact ⟨k65, Tryz.f74, Tryz.func74, c65⟩
theorem o66 : OkFn 66 := fun sf h => by cases h; exact ⟨k66, Tryz.f75, Tryz.func75, c66⟩
theorem o67 : OkFn 67 := fun sf h => by cases h; exact ⟨k67, Tryz.f76, Tryz.func76, c67⟩
theorem o68 : OkFn 68 := fun sf h => by cases h; exact ⟨k68, Tryz.f77, Tryz.func77, c68⟩
theorem o69 : OkFn 69 := fun sf h => by cases h; exact ⟨k69, Tryz.f78, Tryz.func78, c69⟩
theorem o70 : OkFn 70 := fun sf h => by cases h; exact ⟨k70, Tryz.f79, Tryz.func79, c70⟩
theorem o71 : OkFn 71 := fun sf h => by cases h; exact ⟨k71, Tryz.f87, Tryz.func87, c71⟩
theorem o72 : OkFn 72 := fun sf h => by cases h; exact ⟨k72, Tryz.f88, Tryz.func88, c72⟩
theorem o73 : OkFn 73 := fun sf h => by cases h; exact ⟨k73, Tryz.f89, Tryz.func89, c73⟩
theorem o74 : OkFn 74 := fun sf h => by cases h; exact ⟨k74, Tryz.f86, Tryz.func86, c74⟩
theorem o75 : OkFn 75 := fun sf h => by cases h; exact ⟨k75, Tryz.f156, Tryz.func156, c75⟩
theorem o76 : OkFn 76 := fun sf h => by cases h; exact ⟨k76, Tryz.f96, Tryz.func96, c76⟩
theorem o77 : OkFn 77 := fun sf h => by cases h; exact ⟨k77, Tryz.f97, Tryz.func97, c77⟩
theorem o78 : OkFn 78 := fun sf h => by cases h; exact ⟨k78, Tryz.f98, Tryz.func98, c78⟩
theorem o79 : OkFn 79 := fun sf h => by cases h; exact ⟨k79, Tryz.f99, Tryz.func99, c79⟩
theorem o80 : OkFn 80 := fun sf h => by cases h; exact ⟨k80, Tryz.f100, Tryz.func100, c80⟩
theorem o82 : OkFn 82 := fun sf h => by cases h; exact ⟨k82, Tryz.f102, Tryz.func102, c82⟩
theorem o83 : OkFn 83 := fun sf h => by cases h; exact ⟨k83, Tryz.f103, Tryz.func103, c83⟩
theorem o84 : OkFn 84 := fun sf h => by cases h; exact ⟨k84, Tryz.f104, Tryz.func104, c84⟩
theorem o85 : OkFn 85 := fun sf h => by cases h; exact ⟨k85, Tryz.f110, Tryz.func110, c85⟩
theorem o86 : OkFn 86 := fun sf h => by cases h; exact ⟨k86, Tryz.f108, Tryz.func108, c86⟩
theorem o87 : OkFn 87 := fun sf h => by cases h; exact ⟨k87, Tryz.f109, Tryz.func109, c87⟩
theorem o88 : OkFn 88 := fun sf h => by cases h; exact ⟨k88, Tryz.f113, Tryz.func113, c88⟩
theorem o89 : OkFn 89 := fun sf h => by cases h; exact ⟨k89, Tryz.f114, Tryz.func114, c89⟩
theorem o90 : OkFn 90 := fun sf h => by cases h; exact ⟨k90, Tryz.f115, Tryz.func115, c90⟩
theorem o91 : OkFn 91 := fun sf h => by cases h; exact ⟨k91, Tryz.f116, Tryz.func116, c91⟩
theorem o92 : OkFn 92 := fun sf h => by cases h; exact ⟨k92, Tryz.f117, Tryz.func117, c92⟩
theorem o94 : OkFn 94 := fun sf h => by cases h; exact ⟨k94, Tryz.f119, Tryz.func119, c94⟩
theorem o95 : OkFn 95 := fun sf h => by cases h; exact ⟨k95, Tryz.f120, Tryz.func120, c95⟩
theorem o96 : OkFn 96 := fun sf h => by cases h; exact ⟨k96, Tryz.f126, Tryz.func126, c96⟩
theorem o97 : OkFn 97 := fun sf h => by cases h; exact ⟨k97, Tryz.f127, Tryz.func127, c97⟩
theorem o99 : OkFn 99 := fun sf h => by cases h; exact ⟨k99, Tryz.f129, Tryz.func129, c99⟩
theorem o100 : OkFn 100 := fun sf h => by cases h; exact ⟨k100, Tryz.f130, Tryz.func130, c100⟩
theorem o101 : OkFn 101 := fun sf h => by cases h; exact ⟨k101, Tryz.f132, Tryz.func132, c101⟩
theorem o102 : OkFn 102 := fun sf h => by cases h; exact ⟨k102, Tryz.f135, Tryz.func135, c102⟩
theorem o103 : OkFn 103 := fun sf h => by cases h; exact ⟨k103, Tryz.f138, Tryz.func138, c103⟩
theorem o104 : OkFn 104 := fun sf h => by cases h; exact ⟨k104, Tryz.f139, Tryz.func139, c104⟩
theorem o105 : OkFn 105 := fun sf h => by cases h; exact ⟨k105, Tryz.f143, Tryz.func143, c105⟩
theorem o106 : OkFn 106 := fun sf h => by cases h; exact ⟨k106, Tryz.f144, Tryz.func144, c106⟩
theorem o107 : OkFn 107 := fun sf h => by cases h; exact ⟨k107, Tryz.f145, Tryz.func145, c107⟩
theorem o108 : OkFn 108 := fun sf h => by cases h; exact ⟨k108, Tryz.f146, Tryz.func146, c108⟩
theorem o109 : OkFn 109 := fun sf h => by cases h; exact ⟨k109, Tryz.f147, Tryz.func147, c109⟩
theorem o110 : OkFn 110 := fun sf h => by cases h; exact ⟨k110, Tryz.f151, Tryz.func151, c110⟩
theorem o111 : OkFn 111 := fun sf h => by cases h; exact ⟨k111, Tryz.f152, Tryz.func152, c111⟩
theorem o112 : OkFn 112 := fun sf h => by cases h; exact ⟨k112, Tryz.f153, Tryz.func153, c112⟩
theorem o113 : OkFn 113 := fun sf h => by cases h; exact ⟨k113, Tryz.f154, Tryz.func154, c113⟩
theorem o114 : OkFn 114 := fun sf h => by cases h; exact ⟨k114, Tryz.f155, Tryz.func155, c114⟩
theorem o115 : OkFn 115 := fun sf h => by cases h; exact ⟨k115, Tryz.f157, Tryz.func157, c115⟩
theorem o116 : OkFn 116 := fun sf h => by cases h; exact ⟨k116, Tryz.f158, Tryz.func158, c116⟩
theorem o151 : OkFn 151 := fun sf h => by cases h; exact ⟨k151, Tryz.f5, Tryz.func5, c151⟩
theorem o155 : OkFn 155 := fun sf h => by cases h; exact ⟨k155, Tryz.f11, Tryz.func11, c155⟩
theorem o159 : OkFn 159 := fun sf h => by cases h; exact ⟨k159, Tryz.f16, Tryz.func16, c159⟩
theorem o160 : OkFn 160 := fun sf h => by cases h; exact ⟨k160, Tryz.f17, Tryz.func17, c160⟩
theorem o162 : OkFn 162 := fun sf h => by cases h; exact ⟨k162, Tryz.f20, Tryz.func20, c162⟩
theorem o163 : OkFn 163 := fun sf h => by cases h; exact ⟨k163, Tryz.f21, Tryz.func21, c163⟩
theorem o164 : OkFn 164 := fun sf h => by cases h; exact ⟨k164, Tryz.f22, Tryz.func22, c164⟩
theorem o170 : OkFn 170 := fun sf h => by cases h; exact ⟨k170, Tryz.f32, Tryz.func32, c170⟩
theorem o171 : OkFn 171 := fun sf h => by cases h; exact ⟨k171, Tryz.f33, Tryz.func33, c171⟩
theorem o172 : OkFn 172 := fun sf h => by cases h; exact ⟨k172, Tryz.f34, Tryz.func34, c172⟩
theorem o173 : OkFn 173 := fun sf h => by cases h; exact ⟨k173, Tryz.f35, Tryz.func35, c173⟩
theorem o174 : OkFn 174 := fun sf h => by cases h; exact ⟨k174, Tryz.f36, Tryz.func36, c174⟩
theorem o175 : OkFn 175 := fun sf h => by cases h; exact ⟨k175, Tryz.f37, Tryz.func37, c175⟩
theorem o176 : OkFn 176 := fun sf h => by cases h; exact ⟨k176, Tryz.f38, Tryz.func38, c176⟩
theorem o182 : OkFn 182 := fun sf h => by cases h; exact ⟨k182, Tryz.f51, Tryz.func51, c182⟩
theorem o183 : OkFn 183 := fun sf h => by cases h; exact ⟨k183, Tryz.f52, Tryz.func52, c183⟩
theorem o184 : OkFn 184 := fun sf h => by cases h; exact ⟨k184, Tryz.f55, Tryz.func55, c184⟩
theorem o185 : OkFn 185 := fun sf h => by cases h; exact ⟨k185, Tryz.f56, Tryz.func56, c185⟩
theorem o186 : OkFn 186 := fun sf h => by cases h; exact ⟨k186, Tryz.f57, Tryz.func57, c186⟩
theorem o187 : OkFn 187 := fun sf h => by cases h; exact ⟨k187, Tryz.f58, Tryz.func58, c187⟩
theorem o188 : OkFn 188 := fun sf h => by cases h; exact ⟨k188, Tryz.f59, Tryz.func59, c188⟩
theorem o189 : OkFn 189 := fun sf h => by cases h; exact ⟨k189, Tryz.f60, Tryz.func60, c189⟩
theorem o190 : OkFn 190 := fun sf h => by cases h; exact ⟨k190, Tryz.f61, Tryz.func61, c190⟩
theorem o191 : OkFn 191 := fun sf h => by cases h; exact ⟨k191, Tryz.f62, Tryz.func62, c191⟩
theorem o192 : OkFn 192 := fun sf h => by cases h; exact ⟨k192, Tryz.f63, Tryz.func63, c192⟩
theorem o193 : OkFn 193 := fun sf h => by cases h; exact ⟨k193, Tryz.f64, Tryz.func64, c193⟩
theorem o194 : OkFn 194 := fun sf h => by cases h; exact ⟨k194, Tryz.f65, Tryz.func65, c194⟩
theorem o195 : OkFn 195 := fun sf h => by cases h; exact ⟨k195, Tryz.f66, Tryz.func66, c195⟩
theorem o196 : OkFn 196 := fun sf h => by cases h; exact ⟨k196, Tryz.f67, Tryz.func67, c196⟩
theorem o197 : OkFn 197 := fun sf h => by cases h; exact ⟨k197, Tryz.f68, Tryz.func68, c197⟩
theorem o205 : OkFn 205 := fun sf h => by cases h; exact ⟨k205, Tryz.f90, Tryz.func90, c205⟩
theorem o206 : OkFn 206 := fun sf h => by cases h; exact ⟨k206, Tryz.f91, Tryz.func91, c206⟩
theorem o207 : OkFn 207 := fun sf h => by cases h; exact ⟨k207, Tryz.f92, Tryz.func92, c207⟩
theorem o81 : OkFn 81 := fun sf h => by cases h
theorem o93 : OkFn 93 := fun sf h => by cases h
theorem o98 : OkFn 98 := fun sf h => by cases h
theorem ok_rch : ∀ j ∈ rch 151, OkFn j := List.forall_mem_cons.2 ⟨o13, List.forall_mem_cons.2 ⟨o17, List.forall_mem_cons.2 ⟨o18, List.forall_mem_cons.2 ⟨o19, List.forall_mem_cons.2 ⟨o20, List.forall_mem_cons.2 ⟨o25, List.forall_mem_cons.2 ⟨o26, List.forall_mem_cons.2 ⟨o30, List.forall_mem_cons.2 ⟨o31, List.forall_mem_cons.2 ⟨o32, List.forall_mem_cons.2 ⟨o33, List.forall_mem_cons.2 ⟨o38, List.forall_mem_cons.2 ⟨o39, List.forall_mem_cons.2 ⟨o40, List.forall_mem_cons.2 ⟨o41, List.forall_mem_cons.2 ⟨o44, List.forall_mem_cons.2 ⟨o45, List.forall_mem_cons.2 ⟨o46, List.forall_mem_cons.2 ⟨o47, List.forall_mem_cons.2 ⟨o48, List.forall_mem_cons.2 ⟨o49, List.forall_mem_cons.2 ⟨o50, List.forall_mem_cons.2 ⟨o51, List.forall_mem_cons.2 ⟨o52, List.forall_mem_cons.2 ⟨o53, List.forall_mem_cons.2 ⟨o56, List.forall_mem_cons.2 ⟨o57, List.forall_mem_cons.2 ⟨o58, List.forall_mem_cons.2 ⟨o59, List.forall_mem_cons.2 ⟨o60, List.forall_mem_cons.2 ⟨o61, List.forall_mem_cons.2 ⟨o62, List.forall_mem_cons.2 ⟨o63, List.forall_mem_cons.2 ⟨o64, List.forall_mem_cons.2 ⟨o65, List.forall_mem_cons.2 ⟨o66, List.forall_mem_cons.2 ⟨o67, List.forall_mem_cons.2 ⟨o68, List.forall_mem_cons.2 ⟨o69, List.forall_mem_cons.2 ⟨o70, List.forall_mem_cons.2 ⟨o71, List.forall_mem_cons.2 ⟨o72, List.forall_mem_cons.2 ⟨o73, List.forall_mem_cons.2 ⟨o74, List.forall_mem_cons.2 ⟨o75, List.forall_mem_cons.2 ⟨o76, List.forall_mem_cons.2 ⟨o77, List.forall_mem_cons.2 ⟨o78, List.forall_mem_cons.2 ⟨o79, List.forall_mem_cons.2 ⟨o80, List.forall_mem_cons.2 ⟨o81, List.forall_mem_cons.2 ⟨o82, List.forall_mem_cons.2 ⟨o83, List.forall_mem_cons.2 ⟨o84, List.forall_mem_cons.2 ⟨o85, List.forall_mem_cons.2 ⟨o86, List.forall_mem_cons.2 ⟨o87, List.forall_mem_cons.2 ⟨o88, List.forall_mem_cons.2 ⟨o89, List.forall_mem_cons.2 ⟨o90, List.forall_mem_cons.2 ⟨o91, List.forall_mem_cons.2 ⟨o92, List.forall_mem_cons.2 ⟨o93, List.forall_mem_cons.2 ⟨o94, List.forall_mem_cons.2 ⟨o95, List.forall_mem_cons.2 ⟨o96, List.forall_mem_cons.2 ⟨o97, List.forall_mem_cons.2 ⟨o98, List.forall_mem_cons.2 ⟨o99, List.forall_mem_cons.2 ⟨o100, List.forall_mem_cons.2 ⟨o101, List.forall_mem_cons.2 ⟨o102, List.forall_mem_cons.2 ⟨o103, List.forall_mem_cons.2 ⟨o104, List.forall_mem_cons.2 ⟨o105, List.forall_mem_cons.2 ⟨o106, List.forall_mem_cons.2 ⟨o107, List.forall_mem_cons.2 ⟨o108, List.forall_mem_cons.2 ⟨o109, List.forall_mem_cons.2 ⟨o110, List.forall_mem_cons.2 ⟨o111, List.forall_mem_cons.2 ⟨o112, List.forall_mem_cons.2 ⟨o113, List.forall_mem_cons.2 ⟨o114, List.forall_mem_cons.2 ⟨o115, List.forall_mem_cons.2 ⟨o116, List.forall_mem_cons.2 ⟨o151, List.forall_mem_cons.2 ⟨o155, List.forall_mem_cons.2 ⟨o159, List.forall_mem_cons.2 ⟨o160, List.forall_mem_cons.2 ⟨o162, List.forall_mem_cons.2 ⟨o163, List.forall_mem_cons.2 ⟨o164, List.forall_mem_cons.2 ⟨o170, List.forall_mem_cons.2 ⟨o171, List.forall_mem_cons.2 ⟨o172, List.forall_mem_cons.2 ⟨o173, List.forall_mem_cons.2 ⟨o174, List.forall_mem_cons.2 ⟨o175, List.forall_mem_cons.2 ⟨o176, List.forall_mem_cons.2 ⟨o182, List.forall_mem_cons.2 ⟨o183, List.forall_mem_cons.2 ⟨o184, List.forall_mem_cons.2 ⟨o185, List.forall_mem_cons.2 ⟨o186, List.forall_mem_cons.2 ⟨o187, List.forall_mem_cons.2 ⟨o188, List.forall_mem_cons.2 ⟨o189, List.forall_mem_cons.2 ⟨o190, List.forall_mem_cons.2 ⟨o191, List.forall_mem_cons.2 ⟨o192, List.forall_mem_cons.2 ⟨o193, List.forall_mem_cons.2 ⟨o194, List.forall_mem_cons.2 ⟨o195, List.forall_mem_cons.2 ⟨o196, List.forall_mem_cons.2 ⟨o197, List.forall_mem_cons.2 ⟨o205, List.forall_mem_cons.2 ⟨o206, List.forall_mem_cons.2 ⟨o207, List.forall_mem_nil _⟩⟩⟩⟩⟩⟩⟩⟩⟩⟩⟩⟩⟩⟩⟩⟩⟩⟩⟩⟩⟩⟩⟩⟩⟩⟩⟩⟩⟩⟩⟩⟩⟩⟩⟩⟩⟩⟩⟩⟩⟩⟩⟩⟩⟩⟩⟩⟩⟩⟩⟩⟩⟩⟩⟩⟩⟩⟩⟩⟩⟩⟩⟩⟩⟩⟩⟩⟩⟩⟩⟩⟩⟩⟩⟩⟩⟩⟩⟩⟩⟩⟩⟩⟩⟩⟩⟩⟩⟩⟩⟩⟩⟩⟩⟩⟩⟩⟩⟩⟩⟩⟩⟩⟩⟩⟩⟩⟩⟩⟩⟩⟩⟩⟩⟩⟩⟩⟩⟩
def EN : Env := { fn := fun j => if (rch 151).contains j then fnAll j else none, glob := globAll, ext := fun j => if (rch 151).contains j then extAll j else none }
theorem EN_code {k : Nat} {f : SFunc} (hk : k ∈ rch 151) (hf : fnAll k = some f) : EN.code k = some f := by
  have hx : extAll k = none := by
    unfold extAll
    split <;> first | rfl | cases hf
  simp [Env.code, EN, hk, hf, hx]
theorem hasN : Has 151 EN where
  fn := fun k f hk hf => EN_code hk hf
  gl := fun g cs hg hc => hc
  ex := fun k g hk hg => by simp [EN, hk, hg]
theorem okN : EnvOk tT EN where
  mix := by kernel_rfl
  fn := fun j sf h => by
    simp only [EN] at h
    split at h
    · rename_i hc
      exact ok_rch j (by simpa using hc) sf h
    · cases h
  glob := fun g cs h => shut7 g cs h
  ext := fun j g h => by
    simp only [EN] at h
    split at h
    · rename_i hc
      unfold extAll at h
      split at h
      · cases h
        exact ⟨_, _, Tryz.func101, rfl, by decide, ext81⟩
      · cases h
        exact ⟨_, _, Tryz.func128, rfl, by decide, ext98⟩
      · exact absurd (hc : (rch 151).contains 202 = true) (by decide)
      · cases h
    · cases h
theorem glob_of {W : World} (h : laidMetH Tryz.prog laid7 W) : ∀ g cs, EN.glob g = some cs → ∃ c e fz l, W.heap[tT.gnum g]? = some (.cells c e fz) ∧ RepL tT (Ghost.met W) W cs l ∧ (∀ (i : Nat) (v : Value), l[i]? = some v → c[i]? = some v) := glob_of7 h
theorem callsN {W : World} (h : laidMetH Tryz.prog laid7 W) {l : List Value} (n0 : Int) {a1 : AV} {L1 : List Int} (hL1 : IntsV a1 L1) {a2 : AV} {L2 : List Int} (hL2 : IntsV a2 L2) (hl : RepL tT (Ghost.met W) W [.int .i64 n0, a1, a2] l) :
    Calls Tryz.prog 5 ⟨l⟩ W fun e W' => e = .returned (.bool true) ∧ W.keptBut W' (fun _ => False) := by
  have hc := calls_of (T := tT) okN (parseJoins_eq hasN n0 hL1 hL2) (inv_met (glob_of h)) hl
  refine hc.mono fun e W' ⟨u, G', h1, h2, h3⟩ => ⟨?_, kept_of_ext h3 _⟩
  rw [h1]
  simp only [RepV] at h2
  rw [h2]
theorem ints_cell : tT.P.cellsOf 3 = 1 := by kernel_rfl
set_option maxRecDepth 100000 in
theorem parseJoins_lifted (os : Os) (started : os.Started) (H : Type) (enc : TypeId × Value → H) :
    ReturnsInHanded {} Tryz.checked os 5 .any (fun w args => (Rows.parseJoinsSpec.pre enc Tryz.prog Tryz.f5 [] false w args ∧ laidMetH Tryz.prog laid7 w) ∧ sizedMet enc Tryz.prog Tryz.f5 (OpenSpec.ofChange Rows.parseJoinsSpec) false w args)
      (Rows.parseJoinsSpec.post enc Tryz.prog Tryz.f5 false true false false) := by
  refine returnsInHanded_of_change_and (C := Tryz.checked) (X := fun w _ => laidMetH Tryz.prog laid7 w) (fun _ _ _ hh h => h.of_heap hh) own started (by kernel_rfl) Tryz.func5
    (ChangeSpec.witness_shaped (enc := enc) (C := Tryz.checked) (os := os) (X := fun w _ => laidMetH Tryz.prog laid7 w) false (World.doorLaid Tryz.prog 4000 os) #[.int .i64 0, .slice none 0 0, .slice none 0 0] 8 rfl (World.shaped_of_RefB (by kernel_rfl) (by kernel_rfl)) (by kernel_rfl) (by kernel_rfl) (by kernel_rfl) (door_met7 os _)) ?_
  intro W base args ds gs before hval0 hW _ _ hL _
  have hval : ∀ (j : Nat) t v, Tryz.f5.params[j]? = some t → args[j]? = some v → Value.okWide Tryz.prog W .any base t v := hval0
  have hW' := hW
  obtain ⟨p, q, hA0, hV, rfl, hfz, hnd⟩ := hW
  have hA : DataW.TrodAll enc Tryz.prog W 0 (fun _ => true) true Tryz.f5.params.toList args.toList ds p := hA0
  rw [Tryz.params5] at hA hval
  obtain ⟨v0, v1, v2, d0, d1, d2, p0, p1, p2, rfl, rfl, rfl, h0, h1, h2⟩ := trodAll_three hA
  obtain ⟨rfl, rfl⟩ := trodVars_none hV
  obtain ⟨n0, A0⟩ := arg_int (T := tT) Tryz.underlying3 (hval 0 3 v0 rfl rfl) h0
  obtain ⟨L1, a1, hL1, A1⟩ := arg_ints (T := tT) Tryz.underlying22 Tryz.underlying3 ints_cell (hval 1 22 v1 rfl rfl) h1
  obtain ⟨L2, a2, hL2, A2⟩ := arg_ints (T := tT) Tryz.underlying22 Tryz.underlying3 ints_cell (hval 2 22 v2 rfl rfl) h2
  clear hA0 hval0
  refine (callsN hL (l := [v0, v1, v2]) n0 hL1 hL2 ⟨_, _, rfl, A0.rep, _, _, rfl, A1.rep, _, _, rfl, A2.rep, rfl⟩).mono fun e W' ⟨he, hk⟩ => ?_
  subst he
  refine ⟨_, rfl, post_kept hW' (fun _ _ _ => trodAll_mk1 (shut_bool Tryz.underlying4 _)) (fun sp hsp => ?_) (fun _ => rfl) hk
    (ok_one (by kernel_rfl) rfl (okWide_bool_mk Tryz.underlying4 _))⟩
  have S0 := A0.shut W' hk sp (fun p hp => hsp p (List.mem_append_left _ (List.mem_append_left _ (List.mem_append_left _ hp))))
  have S1 := A1.shut W' hk sp (fun p hp => hsp p (List.mem_append_left _ (List.mem_append_left _ (List.mem_append_right _ hp))))
  have S2 := A2.shut W' hk sp (fun p hp => hsp p (List.mem_append_left _ (List.mem_append_right _ hp)))
  have S := trodAll_mk3 S0 S1 S2
  have e : p0 ++ p1 ++ p2 ++ [] = p0 ++ (p1 ++ p2) := by rw [List.append_nil, List.append_assoc]
  rw [e]
  exact S
theorem parseJoins_holds : Rows.ParseJoinsSaid :=
  OpenClaim.holds_of_wide 5 Tryz.f5 rfl rfl rfl rfl rfl rfl rfl ⟨rfl, rfl, rfl, rfl, rfl⟩ rfl rfl rfl rfl rfl (by kernel_rfl) Tryz.func5 (by kernel_rfl)
    (of_decide_eq_true (by kernel_rfl)) (by unfold Func.isWrapper; first | (rw [if_pos (by decide +kernel)]; kernel_rfl) | (rw [if_neg (by decide +kernel)]; exact ⟨rfl, rfl⟩))
    (fun os started H enc _ => parseJoins_lifted os started H enc)
theorem parseJoins_card : Rows.ParseJoinsCardSaid :=
  Claim7.holds_tied_plain_at .later [] [.data, .data, .data, .sentinel, .sentinel, .widerDeep, .data] true (true, "3bb5ccb417ec94b1b0f20f3ea41af5c2ddf4f9b8135db79d51955d2e672dc8b7") true
    parseJoins_holds (fun _ h => by cases h) (by kernel_rfl) (fun _ h => by cases h) parseJoins_row_tie rfl ⟨rfl, rfl⟩ (by kernel_rfl) rfl
    (fun f fn hf hfn => by
      obtain rfl : f = 5 := Option.some.inj ((show Tryz.prog.funcNamed "drachm/drachmlaw11.ParseJoins" = some 5 by kernel_rfl).symm.trans hf) |>.symm
      obtain rfl : fn = Tryz.f5 := (Option.some.inj (Tryz.func5.symm.trans hfn)).symm
      exact ⟨by kernel_rfl, fun j t ht => by
        rw [Tryz.params5] at ht
        have h3 : t = 3 ∨ t = 22 := by
          rcases j with _ | _ | _ | j
          · exact .inl (by simpa using ht.symm)
          · exact .inr ((by simpa using ht.symm))
          · exact .inr ((by simpa using ht.symm))
          · simp at ht
        rcases h3 with rfl | rfl
        · exact (show Tryz.prog.wantsStandIn 3 = false by kernel_rfl)
        · exact (show Tryz.prog.wantsStandIn 22 = false by kernel_rfl)⟩)
    (by kernel_rfl)
#print axioms parseJoins_card
end Go.Proofs.YtleaeoncofgkjaaGreatDoor
