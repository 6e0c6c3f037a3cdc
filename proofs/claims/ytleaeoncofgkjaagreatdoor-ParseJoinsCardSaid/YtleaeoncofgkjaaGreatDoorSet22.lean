/- A part of the proof: functions of the program in the evaluator's code, and what they come to. Conditions: none; definitions and theorems that the statement's proof uses. -/
import Derived.Test.YtleaeoncofgkjaaGreatDoorSet9
/- How deep brackets stand in a text's tokens. Conditions: the functions' codes; theorems. -/
namespace Go.Pv
variable {E : Env} {x sz : Int}
def nestStep (d : Int) (k : Tok) : Int := if k.kind = 7 then d + 1 else if k.kind = 8 then d - 1 else d
def nestD : Int → List Tok → Int
  | d, [] => d
  | d, k :: r => nestD (nestStep d k) r
def nestF : Int → Int → List Tok → Int
  | _, m, [] => m
  | d, m, k :: r => nestF (nestStep d k) (max m (nestStep d k)) r
theorem nest_app : ∀ (a b : List Tok) (d m : Int), nestD d (a ++ b) = nestD (nestD d a) b ∧ nestF d m (a ++ b) = nestF (nestD d a) (nestF d m a) b
  | [], _, _, _ => ⟨rfl, rfl⟩
  | k :: a, b, d, m => nest_app a b (nestStep d k) (max m (nestStep d k))
def Even (dp : Nat) (ts : List Tok) : Prop := ∀ d m : Int, nestD d ts = d ∧ nestF d m ts = max m (d + dp)
theorem even_one {k : Tok} (h7 : k.kind ≠ 7) (h8 : k.kind ≠ 8) : Even 0 [k] := fun d m => by simp [nestD, nestF, nestStep, h7, h8]
theorem even_app {a b : List Tok} {p q : Nat} (ha : Even p a) (hb : Even q b) : Even (max p q) (a ++ b) := fun d m => by
  obtain ⟨h1, h2⟩ := nest_app a b d m
  rw [h1, h2, (ha d m).1, (ha d m).2, (hb d m).1, (hb d _).2]
  refine ⟨rfl, ?_⟩
  omega
theorem even_brk {ts : List Tok} {dp : Nat} {k k' : Tok} (h : Even dp ts) (hk : k.kind = 7) (hk' : k'.kind = 8) : Even (dp + 1) (k :: (ts ++ [k'])) := fun d m => by
  obtain ⟨h1, h2⟩ := nest_app ts [k'] (d + 1) (max m (d + 1))
  have e : nestStep d k = d + 1 := by simp [nestStep, hk]
  simp only [nestD, nestF, e]
  rw [h1, h2, (h (d + 1) m).1, (h _ _).2]
  have e' : nestStep (d + 1) k' = d := by simp [nestStep, hk']
  simp only [nestD, nestF, e']
  refine ⟨trivial, ?_⟩
  omega
theorem even_cons {k : Tok} {ts : List Tok} {dp : Nat} (h7 : k.kind ≠ 7) (h8 : k.kind ≠ 8) (h : Even dp ts) : Even dp (k :: ts) := by
  have := even_app (even_one h7 h8) h
  rwa [Nat.zero_max] at this
theorem nest_range : ∀ (l : List Tok) (d m c : Int), -c ≤ d → d ≤ c → m ≤ c → 0 ≤ m → nestF d m l ≤ c + l.length ∧ 0 ≤ nestF d m l
  | [], d, m, c, _, _, h3, h4 => by simp only [nestF, List.length_nil]; omega
  | k :: l, d, m, c, h1, h2, h3, h4 => by
    have hs : d - 1 ≤ nestStep d k ∧ nestStep d k ≤ d + 1 := by
      unfold nestStep
      split
      · omega
      · split <;> omega
    have := nest_range l (nestStep d k) (max m (nestStep d k)) (c + 1) (by omega) (by omega) (by omega) (by omega)
    simp only [nestF, List.length_cons]
    omega
set_option maxHeartbeats 2000000 in
theorem nests_loop {own : Own} {l : List Tok} (hl : l.length < 900000) {h : AHeap} : ∀ (n i : Nat), i + n = l.length → ∀ (d m : Int), -(i : Int) ≤ d → d ≤ i → 0 ≤ m → m ≤ i → ∀ F, mask k159_0 F = s159_0 (.vs own l.length (l.flatMap Tok.cs)) (.int .i64 d) (.int .i64 m) (.int .i64 i) →
    EvCode E (.loop k159_0 l159_0) F h = some (.exit 0, x159_0 (.int .i64 (nestF d m (l.drop i))), h)
  | 0, i, hi, d, m, h1, h2, h3, h4, F, hF => by
    have : i = l.length := by omega
    subst this
    rw [EvCode_loop, hF, List.drop_length]
    simp [l159_0, s159_0, x159_0, nestF]
  | n + 1, i, hi, d, m, h1, h2, h3, h4, F, hF => by
    have hlt : i < l.length := by omega
    have hs : d - 1 ≤ nestStep d l[i] ∧ nestStep d l[i] ≤ d + 1 := by
      unfold nestStep
      split
      · omega
      · split <;> omega
    have ih := nests_loop (own := own) hl (h := h) n (i + 1) (by omega) (nestStep d l[i]) (max m (nestStep d l[i])) (by omega) (by omega) (by omega) (by omega)
    have cn : ((i + 1 : Nat) : Int) = (i : Int) + 1 := by simp
    rw [cn] at ih
    have e1 : ((l.flatMap Tok.cs).drop (i * 4)).take 1 = [.int .i64 l[i].kind] := tok_at hlt
    have ll : (l.flatMap Tok.cs).length = l.length * 4 := fm_len Tok.len l
    have hd : decide ((i : Int) < (l.length : Int)) = true := decide_eq_true (by omega)
    have h60 : i * 4 < l.length * 4 := by omega
    have h61 : 1 ≤ l.length * 4 - i * 4 := by omega
    have h62 : 0 < l.length * 4 - i * 4 := by omega
    have w1 : IntKind.i64.wrap ((i : Int) + 1) = (i : Int) + 1 := w64
    have w2 : IntKind.i64.wrap (d + 1) = d + 1 := w64
    have w3 : IntKind.i64.wrap (d - 1) = d - 1 := w64
    rw [EvCode_loop, hF, List.drop_eq_getElem_cons hlt]
    simp only [nestF]
    unfold nestStep at ih ⊢
    generalize l[i].kind = kd at *
    generalize l.flatMap Tok.cs = ca at *
    generalize EvCode E (.loop k159_0 l159_0) = lp at ih ⊢
    have mx : ∀ e : Int, (if m < e then e else m) = max m e := fun e => by split <;> omega
    by_cases h7 : kd = 7
    · subst h7
      have m1 := mx (d + 1)
      simp [l159_0, s159_0, hlt, ll, h60, h61, h62, e1, w1, w2]
      refine ih _ ?_
      simp [s159_0]
      omega
    · by_cases h8 : kd = 8
      · subst h8
        simp [l159_0, s159_0, hlt, ll, h60, h61, h62, e1, w1, w3]
        refine ih _ ?_
        simp [s159_0]
        omega
      · have h7' : (kd == 7) = false := by simpa using h7
        have h8' : (kd == 8) = false := by simpa using h8
        rw [if_neg h7, if_neg h8] at ih ⊢
        simp [l159_0, s159_0, hlt, ll, h60, h61, h62, e1, w1, h7', h8']
        refine ih _ ?_
        simp [s159_0]
        omega
theorem nests159_eq (H : Has 159 E) (x : Int) (s : List UInt8) (hs : s.length < 900000) : EvClosed E (.fn (.func 159) [] []) [.int .i64 x, .str s] = some (.int .i64 (nestF 0 0 (lexS x s).1)) := by
  rw [EvClosed_eq H.c159 rfl (vs := [.int .i64 x, .str s]) (by simp), EvFn_eq]
  obtain ⟨g, v, e1, G, ro, rot, hold⟩ := each164_open (H.to 164) x s hs heap0 rfl (Nat.le_refl _)
  have hlen := lexF_len x s.length s 0
  have e : lexF x s.length s 0 = lexS x s := rfl
  rw [e] at hlen
  have hll := hlen.1
  generalize (lexS x s).1 = l at *
  generalize (lexS x s).2 = e2 at *
  rcases G with ⟨rfl, h0, h00⟩ | ⟨k, rfl, hcl, hk1, hk2, hpos⟩
  · have hl0 : l = [] := List.eq_nil_of_length_eq_zero h00
    subst hl0
    simp [f159, start, e1]
    rw [EvCode_loop]
    simp [l159_0, nestF]
  · have lp := nests_loop (E := E) (own := .tok k 4) (l := l) (by omega) (h := g) l.length 0 (by omega) 0 0 (by simp) (by simp) (by simp) (by simp)
    rw [List.drop_zero] at lp
    generalize l.flatMap Tok.cs = ca at *
    simp [f159, start, e1]
    rw [lp _ (by simp [s159_0])]
    simp [x159_0]
end Go.Pv
