/- A part of the proof: functions of the program in the evaluator's code, and what they come to. Conditions: none; definitions and theorems that the statement's proof uses. -/
import Derived.Test.YtamopjeecnhfaaaGreatDoorSetwPvHas
import Derived.Test.YtamopjeecnhfaaaGreatDoorSetwPcLib
/- The program's whole numbers: what fits, sizes, products, common divisors, splits. Conditions: the functions' codes; theorems. -/
namespace Go.Pv
variable {E:Env}
theorem wq64 {n:Int} (h1:0 ≤ n:=by omega) (h2:n ≤ 18446744073709551615:=by omega):IntKind.u64.wrap n = n:=by
 have hb:IntKind.u64.bits = 64:=rfl
 have hs:IntKind.u64.signed = false:=rfl
 unfold IntKind.wrap
 simp only [hb,hs]
 simp
 omega
theorem fits334 (H:Has 334 E) (n:Int):EvClosed E (.fn (.func 334) [] []) [.int .i64 n] = some (.bool (decide (-9223372036854775807 ≤ n))):=by
 rw [EvClosed_eq H.c334 rfl (vs:=[.int .i64 n]) (by simp),EvFn_eq]
 simp [f334,start]
theorem fits323 (H:Has 323 E) (n:Int):EvClosed E (.fn (.func 323) [] []) [.int .i64 n] = some (.bool (decide (-9223372036854775807 ≤ n))):=by
 rw [EvClosed_eq H.c323 rfl (vs:=[.int .i64 n]) (by simp),EvFn_eq]
 simp [f323,start]
theorem size355 (H:Has 355 E) {n:Int} (h:n.natAbs ≤ 9223372036854775807):EvClosed E (.fn (.func 355) [] []) [.int .i64 n] = some (.int .u64 n.natAbs):=by
 rw [EvClosed_eq H.c355 rfl (vs:=[.int .i64 n]) (by simp),EvFn_eq]
 by_cases hn:n < 0
 ·have h1:IntKind.i64.wrap (-n) = -n:=w64
  have h2:IntKind.u64.wrap (-n) = n.natAbs:=by rw [wq64]; omega
  simp [f355,start,hn,h1,h2]
 ·have h2:IntKind.u64.wrap n = n.natAbs:=by rw [wq64]; omega
  simp [f355,start,hn,h2]
theorem size352 (H:Has 352 E) {n:Int} (h:n.natAbs ≤ 9223372036854775807):EvClosed E (.fn (.func 352) [] []) [.int .i64 n] = some (.int .i64 n.natAbs):=by
 rw [EvClosed_eq H.c352 rfl (vs:=[.int .i64 n]) (by simp),EvFn_eq]
 by_cases hn:n < 0
 ·have h1:IntKind.i64.wrap (-n) = -n:=w64
  have h2:(n.natAbs:Int) = -n:=by omega
  simp [f352,start,hn,h1,h2]
 ·have h2:(n.natAbs:Int) = n:=by omega
  simp [f352,start,hn,h2]
theorem fit353 (H:Has 353 E) {a b:Int} (ha:-9223372036854775807 ≤ a) (hb:-9223372036854775807 ≤ b):
  EvClosed E (.fn (.func 353) [] []) [.vs .full 2 [.int .i64 a,.int .i64 b]] = some (.bool true):=by
 rw [EvClosed_eq H.c353 rfl (vs:=[.vs .full 2 [.int .i64 a,.int .i64 b]]) (by simp),EvFn_eq]
 have h1:=fits334 (H.to 334) a
 have h2:=fits334 (H.to 334) b
 simp only [decide_eq_true ha] at h1
 simp only [decide_eq_true hb] at h2
 have w0:IntKind.i64.wrap 1 = 1:=w64
 have w1:IntKind.i64.wrap 2 = 2:=w64
 simp [f353,start,EvCode_loop,l353_0,EvCall_closed H.c334 rfl,h1,h2,w0,w1]
end Go.Pv
/- The program's common divisors and products of whole numbers. Conditions: the functions' codes; theorems. -/
namespace Go.Pv
variable {E:Env}
theorem gcd_loop:∀ (b a:Nat) (F:Fr) (h:AHeap),a ≤ 9223372036854775807→b ≤ 9223372036854775807→mask k354_0 F = s354_0 (.int .u64 a) (.int .u64 b) →
  EvCode E (.loop k354_0 l354_0) F h = some (.exit 0,x354_0 (.int .u64 (Nat.gcd a b:Nat)),h):=by
 intro b
 induction b using Nat.strongRecOn with
 | ind b ih=>
  intro a F h ha hb hF
  rw [EvCode_loop,hF]
  by_cases h0:b = 0
  ·subst h0
   simp [l354_0,s354_0,x354_0]
  ·have hlt:a % b < b:=Nat.mod_lt _ (by omega)
   have ih':=ih (a % b) hlt b
   have hg:Nat.gcd a b = Nat.gcd b (a % b):=by rw [Nat.gcd_comm a b,Nat.gcd_rec b a,Nat.gcd_comm]
   have hm:((a:Int).tmod (b:Int)) = ((a % b:Nat):Int):=Int.ofNat_tmod a b |>.symm
   generalize EvCode E (.loop k354_0 l354_0) = lp at ih' ⊢
   have hbz:((b:Int) == 0) = false:=by simp; omega
   simp [l354_0,s354_0,h0,hm,hg]
   exact ih' _ _ hb (by omega) (by simp [s354_0])
theorem gcd354 (H:Has 354 E) {a b:Nat} (ha:a ≤ 9223372036854775807) (hb:b ≤ 9223372036854775807):
  EvClosed E (.fn (.func 354) [] []) [.int .u64 a,.int .u64 b] = some (.int .u64 (Nat.gcd a b:Nat)):=by
 rw [EvClosed_eq H.c354 rfl (vs:=[.int .u64 a,.int .u64 b]) (by simp),EvFn_eq]
 simp only [f354,start]
 have hl:=fun F h=>gcd_loop (E:=E) b a F h ha hb
 simp
 rw [hl _ _ (by simp [s354_0])]
 simp [x354_0]
theorem gcd345 (H:Has 345 E) {a b:Int} (ha:a.natAbs ≤ 9223372036854775807) (hb:b.natAbs ≤ 9223372036854775807):
  EvClosed E (.fn (.func 345) [] []) [.int .i64 a,.int .i64 b] = some (.int .i64 (Nat.gcd a.natAbs b.natAbs:Nat)):=by
 rw [EvClosed_eq H.c345 rfl (vs:=[.int .i64 a,.int .i64 b]) (by simp),EvFn_eq]
 have h1:=fit353 (H.to 353) (a:=a) (b:=b) (by omega) (by omega)
 have h2:=size355 (H.to 355) ha
 have h3:=size355 (H.to 355) hb
 have h4:=gcd354 (H.to 354) ha hb
 have h5:Nat.gcd a.natAbs b.natAbs ≤ 9223372036854775807:=by
  rcases Nat.eq_zero_or_pos a.natAbs with h | h
  ·rw [h,Nat.gcd_zero_left]; exact hb
  ·exact Nat.le_trans (Nat.gcd_le_left _ h) ha
 have h6:IntKind.i64.wrap (Nat.gcd a.natAbs b.natAbs:Nat) = (Nat.gcd a.natAbs b.natAbs:Nat):=w64
 simp [f345,start,EvCall_closed H.c353 rfl,EvCall_closed H.c355 rfl,EvCall_closed H.c354 rfl,h1,h2,h3,h4,h6]
theorem and32 {a:Nat} (h:a < 18446744073709551616):a % 2 ^ IntKind.u64.bits &&& 4294967295 % 2 ^ IntKind.u64.bits = a % 4294967296:=by
 have h1:a % 2 ^ IntKind.u64.bits = a:=by rw [show (2:Nat) ^ IntKind.u64.bits = 18446744073709551616 from rfl]; omega
 have h2:4294967295 % 2 ^ IntKind.u64.bits = 2 ^ 32 - 1:=by decide
 rw [h1,h2,Nat.and_two_pow_sub_one_eq_mod]
theorem fd32 (n:Nat):((n:Int)).fdiv (2 ^ min 32 IntKind.u64.bits) = ((n / 4294967296:Nat):Int):=by
 rw [show (2:Int) ^ min 32 IntKind.u64.bits = 4294967296 from rfl,Int.fdiv_eq_ediv_of_nonneg _ (by decide)]
 omega
theorem wn64 {n:Nat} (h:n < 18446744073709551616):IntKind.u64.wrap (n:Int) = n:=wq64
theorem mul_hi {A0 A1 B0 B1:Nat} (h1:A0 < 4294967296) (h2:A1 < 2147483648) (h3:B0 < 4294967296) (h4:B1 < 2147483648):
  A1 * B1 + (A1 * B0 + A0 * B0 / 4294967296) / 4294967296 + ((A1 * B0 + A0 * B0 / 4294967296) % 4294967296 + A0 * B1) / 4294967296 =
  (4294967296 * A1 + A0) * (4294967296 * B1 + B0) / 18446744073709551616∧A0 * B0 ≤ 18446744065119617025∧A1 * B0 ≤ 9223372030412324865∧A0 * B1 ≤ 9223372030412324865∧A1 * B1 ≤ 4611686014132420609:=by
 have e:(4294967296 * A1 + A0) * (4294967296 * B1 + B0) = 18446744073709551616 * (A1 * B1) + 4294967296 * (A1 * B0) + 4294967296 * (A0 * B1) + A0 * B0:=by
  rw [Nat.add_mul,Nat.mul_add,Nat.mul_add,Nat.mul_mul_mul_comm,Nat.mul_left_comm A0 4294967296 B1]
  have:=Nat.mul_assoc 4294967296 A1 B0
  omega
 have b1:A0 * B0 ≤ 4294967295 * 4294967295:=Nat.mul_le_mul (by omega) (by omega)
 have b2:A1 * B0 ≤ 2147483647 * 4294967295:=Nat.mul_le_mul (by omega) (by omega)
 have b3:A0 * B1 ≤ 4294967295 * 2147483647:=Nat.mul_le_mul (by omega) (by omega)
 have b4:A1 * B1 ≤ 2147483647 * 2147483647:=Nat.mul_le_mul (by omega) (by omega)
 rw [e]
 generalize A0 * B0 = p at *
 generalize A1 * B0 = q at *
 generalize A0 * B1 = r at *
 generalize A1 * B1 = s at *
 omega
theorem mul356 (H:Has 356 E) {a b:Nat} (ha:a ≤ 9223372036854775807) (hb:b ≤ 9223372036854775807):
  EvClosed E (.fn (.func 356) [] []) [.int .u64 a,.int .u64 b] = some (.tuple [.int .u64 ((a * b) / 18446744073709551616:Nat),.int .u64 ((a * b) % 18446744073709551616:Nat)]):=by
 rw [EvClosed_eq H.c356 rfl (vs:=[.int .u64 a,.int .u64 b]) (by simp),EvFn_eq]
 have hlo:IntKind.u64.wrap ((a:Int) * b) = (a:Int) * b % 18446744073709551616:=by
  have hb:IntKind.u64.bits = 64:=rfl
  have hs:IntKind.u64.signed = false:=rfl
  unfold IntKind.wrap
  simp only [hb,hs]
  simp
 obtain ⟨hh,b1,b2,b3,b4⟩:=mul_hi (A0:=a % 4294967296) (A1:=a / 4294967296) (B0:=b % 4294967296) (B1:=b / 4294967296) (by omega) (by omega) (by omega) (by omega)
 rw [Nat.div_add_mod,Nat.div_add_mod] at hh
 simp [f356,start]
 refine ⟨?_,hlo⟩
 simp only [and32 (a:=a) (by omega),and32 (a:=b) (by omega),fd32,wn64 (n:=a % 4294967296) (by omega),wn64 (n:=b % 4294967296) (by omega)]
 have c:((a:Int) * b / 18446744073709551616) = ((a * b / 18446744073709551616:Nat):Int):=by simp
 rw [c,← hh]
 generalize a % 4294967296 = A0 at *
 generalize a / 4294967296 = A1 at *
 generalize b % 4294967296 = B0 at *
 generalize b / 4294967296 = B1 at *
 simp only [← Int.natCast_mul]
 rw [wn64 (n:=A0 * B0) (by omega),wn64 (n:=A1 * B0) (by omega),wn64 (n:=A0 * B1) (by omega),wn64 (n:=A1 * B1) (by omega),fd32]
 simp only [← Int.natCast_add]
 rw [wn64 (n:=A1 * B0 + A0 * B0 / 4294967296) (by omega),fd32]
 have hmn:(((A1 * B0 + A0 * B0 / 4294967296:Nat):Int) % 2 ^ IntKind.u64.bits).toNat = A1 * B0 + A0 * B0 / 4294967296:=by
  rw [show (2:Int) ^ IntKind.u64.bits = 18446744073709551616 from rfl]
  omega
 rw [hmn]
 have h32:(A1 * B0 + A0 * B0 / 4294967296) &&& 4294967295 % 2 ^ IntKind.u64.bits = (A1 * B0 + A0 * B0 / 4294967296) % 4294967296:=by
  rw [show 4294967295 % 2 ^ IntKind.u64.bits = 2 ^ 32 - 1 from by decide,Nat.and_two_pow_sub_one_eq_mod]
 rw [h32,wn64 (n:=(A1 * B0 + A0 * B0 / 4294967296) % 4294967296) (by omega)]
 simp only [← Int.natCast_add]
 rw [wn64 (n:=A1 * B1 + (A1 * B0 + A0 * B0 / 4294967296) / 4294967296) (by omega),wn64 (n:=(A1 * B0 + A0 * B0 / 4294967296) % 4294967296 + A0 * B1) (by omega),fd32]
 simp only [← Int.natCast_add]
 rw [wn64 (by omega)]
end Go.Pv
/- The program's and the reference's products, common divisors and splits of whole numbers. Conditions: the functions' codes; theorems. -/
namespace Go.Pv
variable {E:Env}
theorem mul350_yes (H:Has 350 E) {a b:Int} (ha:a.natAbs ≤ 9223372036854775807) (hb:b.natAbs ≤ 9223372036854775807) (h:(a * b).natAbs ≤ 9223372036854775807):
  EvClosed E (.fn (.func 350) [] []) [.int .i64 a,.int .i64 b] = some (.tuple [.int .i64 (a * b),.bool true]):=by
 rw [EvClosed_eq H.c350 rfl (vs:=[.int .i64 a,.int .i64 b]) (by simp),EvFn_eq]
 have h1:=fit353 (H.to 353) (a:=a) (b:=b) (by omega) (by omega)
 have h2:=size355 (H.to 355) ha
 have h3:=size355 (H.to 355) hb
 have h4:=mul356 (H.to 356) ha hb
 rw [Int.natAbs_mul] at h
 have e1:a.natAbs * b.natAbs / 18446744073709551616 = 0:=by omega
 have e2:a.natAbs * b.natAbs % 18446744073709551616 = a.natAbs * b.natAbs:=by omega
 rw [e1,e2] at h4
 have w1:IntKind.i64.wrap ((a.natAbs * b.natAbs:Nat):Int) = (a.natAbs * b.natAbs:Nat):=w64
 have w2:IntKind.i64.wrap (-((a.natAbs * b.natAbs:Nat):Int)) = -((a.natAbs * b.natAbs:Nat):Int):=w64
 have hle:¬ (9223372036854775807:Int) < ((a.natAbs * b.natAbs:Nat):Int):=by omega
 have hs:a < 0∧b < 0∧a * b = ((a.natAbs * b.natAbs:Nat):Int)∨a < 0∧¬ b < 0∧a * b = -((a.natAbs * b.natAbs:Nat):Int)∨¬ a < 0∧b < 0∧a * b = -((a.natAbs * b.natAbs:Nat):Int)∨¬ a < 0∧¬ b < 0∧a * b = ((a.natAbs * b.natAbs:Nat):Int):=by
  by_cases a0:a < 0 <;> by_cases b0:b < 0
  ·have p1:(a.natAbs:Int) = -a:=by omega
   have p2:(b.natAbs:Int) = -b:=by omega
   exact Or.inl ⟨a0,b0,by rw [Int.natCast_mul,p1,p2,Int.neg_mul_neg]⟩
  ·have p1:(a.natAbs:Int) = -a:=by omega
   have p2:(b.natAbs:Int) = b:=by omega
   exact Or.inr (Or.inl ⟨a0,b0,by rw [Int.natCast_mul,p1,p2,Int.neg_mul,Int.neg_neg]⟩)
  ·have p1:(a.natAbs:Int) = a:=by omega
   have p2:(b.natAbs:Int) = -b:=by omega
   exact Or.inr (Or.inr (Or.inl ⟨a0,b0,by rw [Int.natCast_mul,p1,p2,Int.mul_neg,Int.neg_neg]⟩))
  ·have p1:(a.natAbs:Int) = a:=by omega
   have p2:(b.natAbs:Int) = b:=by omega
   exact Or.inr (Or.inr (Or.inr ⟨a0,b0,by rw [Int.natCast_mul,p1,p2]⟩))
 generalize hm:a.natAbs * b.natAbs = m at *
 generalize a * b = c at *
 rcases hs with ⟨a0,b0,hc⟩ | ⟨a0,b0,hc⟩ | ⟨a0,b0,hc⟩ | ⟨a0,b0,hc⟩ <;>
  simp [f350,start,EvCall_closed H.c353 rfl,EvCall_closed H.c355 rfl,EvCall_closed H.c356 rfl,h1,h2,h3,h4,hle,w1,w2,a0,b0,hc]
theorem mul350_no (H:Has 350 E) {a b:Int} (ha:a.natAbs ≤ 9223372036854775807) (hb:b.natAbs ≤ 9223372036854775807) (h:9223372036854775807 < (a * b).natAbs):
  EvClosed E (.fn (.func 350) [] []) [.int .i64 a,.int .i64 b] = some (.tuple [.int .i64 0,.bool false]):=by
 rw [EvClosed_eq H.c350 rfl (vs:=[.int .i64 a,.int .i64 b]) (by simp),EvFn_eq]
 have h1:=fit353 (H.to 353) (a:=a) (b:=b) (by omega) (by omega)
 have h2:=size355 (H.to 355) ha
 have h3:=size355 (H.to 355) hb
 have h4:=mul356 (H.to 356) ha hb
 rw [Int.natAbs_mul] at h
 by_cases hz:a.natAbs * b.natAbs / 18446744073709551616 = 0
 ·have e2:a.natAbs * b.natAbs % 18446744073709551616 = a.natAbs * b.natAbs:=by omega
  rw [hz,e2] at h4
  generalize a.natAbs * b.natAbs = m at *
  have hle:(9223372036854775807:Int) < (m:Int):=by omega
  simp [f350,start,EvCall_closed H.c353 rfl,EvCall_closed H.c355 rfl,EvCall_closed H.c356 rfl,h1,h2,h3,h4,hle]
 ·generalize a.natAbs * b.natAbs / 18446744073709551616 = u at *
  generalize a.natAbs * b.natAbs % 18446744073709551616 = v at *
  have hu:0 < u:=by omega
  simp [f350,start,EvCall_closed H.c353 rfl,EvCall_closed H.c355 rfl,EvCall_closed H.c356 rfl,h1,h2,h3,h4,hu]
theorem over_iff {a b:Nat} (ha:a ≠ 0):9223372036854775807 / a < b ↔ 9223372036854775807 < a * b:=by
 rw [Nat.div_lt_iff_lt_mul (by omega),Nat.mul_comm]
theorem mul343_yes (H:Has 343 E) {a b:Int} (ha:a.natAbs ≤ 9223372036854775807) (hb:b.natAbs ≤ 9223372036854775807) (h:(a * b).natAbs ≤ 9223372036854775807):
  EvClosed E (.fn (.func 343) [] []) [.int .i64 a,.int .i64 b] = some (.agg [.int .i64 (a * b),.bool true]):=by
 rw [EvClosed_eq H.c343 rfl (vs:=[.int .i64 a,.int .i64 b]) (by simp),EvFn_eq]
 have h1:=fits323 (H.to 323) a
 have h2:=fits323 (H.to 323) b
 rw [decide_eq_true (by omega)] at h1 h2
 have h3:=size352 (H.to 352) ha
 have h4:=size352 (H.to 352) hb
 have w1:IntKind.i64.wrap (a * b) = a * b:=w64
 by_cases hz:a = 0
 ·subst hz
  have w0:IntKind.i64.wrap 0 = 0:=w64
  simp [f343,start,EvCall_closed H.c323 rfl,h1,h2,push_setk,w0]
 ·have hq:¬ 9223372036854775807 < a.natAbs * b.natAbs:=by rw [Int.natAbs_mul] at h; omega
  rw [← over_iff (by omega)] at hq
  have ht:(9223372036854775807:Int).tdiv (a.natAbs:Int) = ((9223372036854775807 / a.natAbs:Nat):Int):=rfl
  have hd0:9223372036854775807 / a.natAbs ≤ 9223372036854775807:=Nat.div_le_self _ _
  generalize (9223372036854775807 / a.natAbs) = u at *
  have w2:IntKind.i64.wrap (u:Int) = u:=w64
  have hz3:(a != 0) = true:=by simpa using hz
  simp [f343,start,EvCall_closed H.c323 rfl,EvCall_closed H.c352 rfl,h1,h2,h3,h4,push_setk,w1,hz,hz3,ht,w2,hq]
theorem mul343_no (H:Has 343 E) {a b:Int} (ha:a.natAbs ≤ 9223372036854775807) (hb:b.natAbs ≤ 9223372036854775807) (h:9223372036854775807 < (a * b).natAbs):
  EvClosed E (.fn (.func 343) [] []) [.int .i64 a,.int .i64 b] = some (.agg [.int .i64 0,.bool false]):=by
 rw [EvClosed_eq H.c343 rfl (vs:=[.int .i64 a,.int .i64 b]) (by simp),EvFn_eq]
 have h1:=fits323 (H.to 323) a
 have h2:=fits323 (H.to 323) b
 rw [decide_eq_true (by omega)] at h1 h2
 have h3:=size352 (H.to 352) ha
 have h4:=size352 (H.to 352) hb
 have hz:a ≠ 0:=by intro h0; subst h0; simp at h
 have hq:9223372036854775807 < a.natAbs * b.natAbs:=by rw [Int.natAbs_mul] at h; omega
 rw [← over_iff (by omega)] at hq
 have ht:(9223372036854775807:Int).tdiv (a.natAbs:Int) = ((9223372036854775807 / a.natAbs:Nat):Int):=rfl
 have hd0:9223372036854775807 / a.natAbs ≤ 9223372036854775807:=Nat.div_le_self _ _
 generalize (9223372036854775807 / a.natAbs) = u at *
 have w2:IntKind.i64.wrap (u:Int) = u:=w64
 have hz3:(a != 0) = true:=by simpa using hz
 simp [f343,start,EvCall_closed H.c323 rfl,EvCall_closed H.c352 rfl,h1,h2,h3,h4,push_setk,hz,hz3,ht,w2,hq]
theorem gcd_loop2:∀ (b a:Nat) (F:Fr) (h:AHeap),mask k342_0 F = s342_0 (.int .i64 a) (.int .i64 b) →
  EvCode E (.loop k342_0 l342_0) F h = some (.exit 0,x342_0 (.int .i64 (Nat.gcd a b:Nat)),h):=by
 intro b
 induction b using Nat.strongRecOn with
 | ind b ih=>
  intro a F h hF
  rw [EvCode_loop,hF]
  by_cases h0:b = 0
  ·subst h0
   simp [l342_0,s342_0,x342_0]
  ·have hlt:a % b < b:=Nat.mod_lt _ (by omega)
   have ih':=ih (a % b) hlt b
   have hg:Nat.gcd a b = Nat.gcd b (a % b):=by rw [Nat.gcd_comm a b,Nat.gcd_rec b a,Nat.gcd_comm]
   have hm:((a:Int).tmod (b:Int)) = ((a % b:Nat):Int):=Int.ofNat_tmod a b |>.symm
   have hb0:0 < b:=by omega
   generalize EvCode E (.loop k342_0 l342_0) = lp at ih' ⊢
   simp [l342_0,s342_0,h0,hb0,hm,hg]
   exact ih' _ _ (by simp [s342_0])
theorem gcd342 (H:Has 342 E) {a b:Int} (ha:a.natAbs ≤ 9223372036854775807) (hb:b.natAbs ≤ 9223372036854775807):
  EvClosed E (.fn (.func 342) [] []) [.int .i64 a,.int .i64 b] = some (.int .i64 (Nat.gcd a.natAbs b.natAbs:Nat)):=by
 rw [EvClosed_eq H.c342 rfl (vs:=[.int .i64 a,.int .i64 b]) (by simp),EvFn_eq]
 have h1:=fits323 (H.to 323) a
 have h2:=fits323 (H.to 323) b
 rw [decide_eq_true (by omega)] at h1 h2
 have h3:=size352 (H.to 352) ha
 have h4:=size352 (H.to 352) hb
 have hl:=fun F h=>gcd_loop2 (E:=E) b.natAbs a.natAbs F h
 simp [f342,start,EvCall_closed H.c323 rfl,EvCall_closed H.c352 rfl,h1,h2,h3,h4]
 rw [hl _ _ (by simp [s342_0])]
 simp [x342_0]
end Go.Pv
/- The program's and the reference's splits of whole numbers. Conditions: the functions' codes; theorems. -/
namespace Go.Pv
variable {E:Env}
theorem s_tmod {s:Int} (hs:s = 1∨s = -1) (m p:Nat):(s * (m:Int)).tmod (p:Int) = s * ((m % p:Nat):Int):=by
 have h:((m:Int)).tmod (p:Int) = ((m % p:Nat):Int):=Int.ofNat_tmod m p |>.symm
 rcases hs with e | e <;> subst e
 ·rw [Int.one_mul,Int.one_mul,h]
 ·rw [Int.neg_one_mul,Int.neg_one_mul,Int.neg_tmod,h]
theorem s_tdiv {s:Int} (hs:s = 1∨s = -1) (m p:Nat):(s * (m:Int)).tdiv (p:Int) = s * ((m / p:Nat):Int):=by
 have h:((m:Int)).tdiv (p:Int) = ((m / p:Nat):Int):=Int.ofNat_tdiv m p |>.symm
 rcases hs with e | e <;> subst e
 ·rw [Int.one_mul,Int.one_mul,h]
 ·rw [Int.neg_one_mul,Int.neg_one_mul,Int.neg_tdiv,h]
theorem s_w64 {s:Int} (hs:s = 1∨s = -1) {m:Nat} (h:m ≤ 9223372036854775807):IntKind.i64.wrap (s * (m:Int)) = s * (m:Int):=by
 have:=s_abs hs m
 exact w64
theorem s_zero {s:Int} (hs:s = 1∨s = -1) (m:Nat):s * (m:Int) = 0 ↔ m = 0:=by
 have:=s_abs hs m
 omega
theorem split_loop {s:Int} (hs:s = 1∨s = -1) {p:Nat} (hp:2 ≤ p):∀ (f m k:Nat) (F:Fr) (h:AHeap),0 < m→m < 2 ^ f→m ≤ 9223372036854775807→k + f ≤ 1000→mask k347_0 F = s347_0 (.int .i64 (s * m)) (.int .i64 p) (.int .i64 k) →
  EvCode E (.loop k347_0 l347_0) F h = some (.exit 0,x347_0 (.int .i64 (s * (splF p f m).2)) (.int .i64 (k + (splF p f m).1:Nat)),h):=by
 intro f
 induction f with
 | zero=>intro m k F h h0 h1; simp at h1; omega
 | succ f ih=>
  intro m k F h h0 h1 h2 h3 hF
  rw [EvCode_loop,hF]
  have hr:=s_tmod hs m p
  have hd:=s_tdiv hs m p
  have hp0:¬ p = 0:=by omega
  unfold splF
  by_cases hm:m % p = 0
  ·rw [hm] at hr
   simp only [Int.natCast_zero,Int.mul_zero] at hr
   have hq:m = p * (m / p):=by have:=Nat.div_add_mod m p; omega
   have hq0:0 < m / p:=by
    rcases Nat.eq_zero_or_pos (m / p) with h' | h'
    ·rw [h'] at hq; simp at hq; omega
    ·exact h'
   have hle:2 * (m / p) ≤ m:=by
    have h2:2 * (m / p) ≤ p * (m / p):=Nat.mul_le_mul_right _ hp
    omega
   have ih':=ih (m / p) (k + 1)
   have hw:=s_w64 hs (m:=m / p) (by omega)
   generalize EvCode E (.loop k347_0 l347_0) = lp at ih' ⊢
   have hk:IntKind.i64.wrap ((k:Int) + 1) = ((k + 1:Nat):Int):=w64
   simp only [hm,if_true]
   have e:k + ((splF p f (m / p)).1 + 1) = k + 1 + (splF p f (m / p)).1:=by omega
   rw [e]
   rw [Nat.pow_succ] at h1
   have ih2:=fun F h hF=>ih' F h hq0 (by omega) (by omega) (by omega) hF
   generalize (splF p f (m / p)) = r at *
   generalize hu:s * ((m / p:Nat):Int) = u at *
   generalize hv:s * (m:Int) = v at *
   simp [l347_0,s347_0,hp0,hr,hd,hw,hk]
   exact ih2 _ _ (by simp [s347_0])
  ·simp only [hm,if_false]
   have hv:¬ s * ((m % p:Nat):Int) = 0:=by rw [s_zero hs]; exact hm
   have hv2:(s * ((m % p:Nat):Int) == 0) = false:=by simpa using hv
   generalize s * ((m % p:Nat):Int) = v at *
   generalize s * (m:Int) = u at *
   simp [l347_0,s347_0,hp0,hr,hv2,x347_0]
theorem split347 (H:Has 347 E) {s:Int} (hs:s = 1∨s = -1) {p m:Nat} (hp:2 ≤ p) (hm:0 < m) (ht:m ≤ 9223372036854775807):
  EvClosed E (.fn (.func 347) [] []) [.int .i64 (s * m),.int .i64 p] = some (.tuple [.int .i64 ((spl p m).1:Nat),.int .i64 (s * (spl p m).2)]):=by
 rw [EvClosed_eq H.c347 rfl (vs:=[.int .i64 (s * m),.int .i64 p]) (by simp),EvFn_eq]
 have h1:=fits334 (H.to 334) (s * m)
 have ha:=s_abs hs m
 rw [decide_eq_true (by omega)] at h1
 have hz:¬ s * (m:Int) = 0:=by omega
 have hz2:(s * (m:Int) == 0) = false:=by simpa using hz
 have hl:=fun F h=>split_loop (E:=E) hs hp 64 m 0 F h hm (by omega) ht (by omega)
 have hp2:¬ (p:Int) < 2:=by omega
 have h2:splF p 64 m = spl p m:=rfl
 rw [h2] at hl
 generalize spl p m = r at *
 simp only [Int.natCast_zero] at hl
 generalize s * (m:Int) = v at *
 simp [f347,start,EvCall_closed H.c334 rfl,h1,hz2,hp2]
 rw [hl _ _ (by simp [s347_0])]
 simp [x347_0]
theorem split_loop2 {p:Nat} (hp:2 ≤ p) {_n:Int} {b0:ABlk}:∀ (f m k:Nat) (F:Fr),0 < m→m < 2 ^ f→m ≤ 9223372036854775807→k + f ≤ 1000→mask k344_0 F = s344_0 (.int .i64 p) (.ref 0 0) (.ref 1 0) →
  EvCode E (.loop k344_0 l344_0) F ((heap0.push b0).push (.cells [.int .i64 k,.int .i64 m])) = some (.exit 0,x344_0 (.ref 0 0) (.ref 1 0),(heap0.push b0).push (.cells [.int .i64 (k + (splF p f m).1:Nat),.int .i64 (splF p f m).2])):=by
 intro f
 induction f with
 | zero=>intro m k F h0 h1; simp at h1; omega
 | succ f ih=>
  intro m k F h0 h1 h2 h3 hF
  rw [EvCode_loop,hF]
  have hr:((m:Int)).tmod (p:Int) = ((m % p:Nat):Int):=Int.ofNat_tmod m p |>.symm
  have hd:((m:Int)).tdiv (p:Int) = ((m / p:Nat):Int):=Int.ofNat_tdiv m p |>.symm
  have hp0:¬ p = 0:=by omega
  unfold splF
  by_cases hm:m % p = 0
  ·rw [hm] at hr
   simp only [Int.natCast_zero] at hr
   have hq:m = p * (m / p):=by have:=Nat.div_add_mod m p; omega
   have hq0:0 < m / p:=by
    rcases Nat.eq_zero_or_pos (m / p) with h' | h'
    ·rw [h'] at hq; simp at hq; omega
    ·exact h'
   have hle:2 * (m / p) ≤ m:=by
    have h2:2 * (m / p) ≤ p * (m / p):=Nat.mul_le_mul_right _ hp
    omega
   have ih':=ih (m / p) (k + 1)
   generalize EvCode E (.loop k344_0 l344_0) = lp at ih' ⊢
   have hk:IntKind.i64.wrap ((k:Int) + 1) = ((k + 1:Nat):Int):=w64
   simp only [hm,if_true]
   have e:k + ((splF p f (m / p)).1 + 1) = k + 1 + (splF p f (m / p)).1:=by omega
   rw [e]
   rw [Nat.pow_succ] at h1
   have ih2:=fun F hF=>ih' F hq0 (by omega) (by omega) (by omega) hF
   generalize (splF p f (m / p)) = r at *
   have hw:IntKind.i64.wrap ((m / p:Nat):Int) = (m / p:Nat):=w64
   generalize m / p = q at *
   simp [l344_0,s344_0,hp0,hr,hd,hw,hk,push_setk]
   exact ih2 _ (by simp [s344_0])
  ·simp only [hm,if_false]
   have hv2:(((m % p:Nat):Int) == 0) = false:=by simp; omega
   generalize m % p = v at *
   simp [l344_0,s344_0,hp0,hr,hv2,x344_0]
theorem split344 (H:Has 344 E) {p m:Nat} (hp:2 ≤ p) (hm:0 < m) (ht:m ≤ 9223372036854775807):
  EvClosed E (.fn (.func 344) [] []) [.int .i64 m,.int .i64 p] = some (.agg [.int .i64 ((spl p m).1:Nat),.int .i64 (spl p m).2]):=by
 rw [EvClosed_eq H.c344 rfl (vs:=[.int .i64 m,.int .i64 p]) (by simp),EvFn_eq]
 have h1:=fits323 (H.to 323) m
 rw [decide_eq_true (by omega)] at h1
 have hl:=fun F b0=>split_loop2 (E:=E) hp (_n:=0) (b0:=b0) 64 m 0 F hm (by omega) ht (by omega)
 have hp2:¬ (p:Int) < 2:=by omega
 have hm0:((m:Int) == 0) = false:=by simp; omega
 have h2:splF p 64 m = spl p m:=rfl
 rw [h2] at hl
 generalize spl p m = r at *
 simp only [Int.natCast_zero] at hl
 simp [f344,start,EvCall_closed H.c323 rfl,h1,hp2,hm0,push_setk]
 rw [hl _ _ (by simp [s344_0])]
 simp [x344_0]
end Go.Pv
