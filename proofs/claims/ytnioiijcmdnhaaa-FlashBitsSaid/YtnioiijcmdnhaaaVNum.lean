/-
  Numbers and trees: plain facts by which a printed tree is met. No function of the program is named here.
-/
import Derived.Test.YtnioiijcmdnhaaaVRng
set_option linter.all false
namespace Go.Proofs.Ytnioiijcmdnhaaa.V
open Go
/-- A proposition that is not opened. -/
structure Ok (p : Prop) : Prop where
  out : p
theorem fun_ok' {P : Program} {c : Cfg} (hΓ : TOk P c.Γ) {l : List (Nat × Tr)} (hl : AllKeep P l) (hC : c.C = ofL l) (hmx : P.follows .mixedOrders = true) {f : FuncId} {fn : Func} (hf : P.funcs[f]? = some fn) (hB : fnB c fn = true)
    {ls : List (Nat × LTr)} (hL : c.L = lpL ls) (hu : ls = [] ∨ uniq (keysOf fn) = true) (hls : AllLoops P c.n fn ls) {pm : Pm} {args : List AV} (hargs : args.length ≤ c.n) {e : Option AV} (hpe : (∃ t l, e = some (.box t l)) → ∃ i, pm.ent = .bx i) {post : AV → Option AV → Prop}
    (h : Ok (runF c pm fn args e post)) : Spec P f args e post := fun_ok hΓ hl hC hmx hf hB hL hu hls hargs hpe h.out
section
variable {x y : Prop}
theorem br_dec {p : Prop} [Decidable p] (h1 : p → x) (h2 : ¬ p → y) : br (decide p) x y := br_of (fun h => h1 (of_decide_eq_true h)) (fun h => h2 (of_decide_eq_false h))
theorem br_ne {a b : Int} (h1 : a ≠ b → x) (h2 : a = b → y) : br (a != b) x y := br_of (fun h => h1 (by simpa using h)) (fun h => h2 (by simpa using h))
theorem br_eq {a b : Int} (h1 : a = b → x) (h2 : a ≠ b → y) : br (a == b) x y := br_of (fun h => h1 (by simpa using h)) (fun h => h2 (by simpa using h))
theorem br_not {c : Bool} (h : br c y x) : br (!c) x y := by cases c <;> exact h
theorem br_beq {a b : Bool} (h1 : a = b → x) (h2 : a ≠ b → y) : br (a == b) x y := br_of (fun h => h1 (by simpa using h)) (fun h => h2 (by simpa using h))
theorem br_str {a b : List Int} (h1 : a = b → x) (h2 : a ≠ b → y) : br (strEq a b) x y := br_of (fun h => h1 (by simpa [strEq] using h)) (fun h => h2 (by simpa [strEq] using h))
theorem chk_dec {p : Prop} [Decidable p] (h1 : p) (h2 : x) : chk (decide p) x := chk_of (decide_eq_true h1) h2
theorem chk_and {a b : Bool} (h : chk a (chk b x)) : chk (a && b) x := by cases a <;> cases b <;> first | exact h | exact h.elim
theorem chk_inB {i : Int} {n : Nat} (h1 : 0 ≤ i) (h2 : i < n) (h3 : x) : chk (inB i n) x := chk_of (by simp [inB]; omega) h3
theorem chk_nz {a : Int} (h1 : a ≠ 0) (h3 : x) : chk (!a == 0) x := chk_of (by simpa using h1) h3
end
theorem strEq_refl (a : List Int) : strEq a a = true := by simp [strEq]
theorem strEq_iff {a b : List Int} : strEq a b = true ↔ a = b := by simp [strEq]
theorem strEq_dec (a b : List Int) : strEq a b = decide (a = b) := by
  rw [Bool.eq_iff_iff]
  simp [strEq]
theorem post_of {post : AV → Option AV → Prop} {r r' : AV} {e e' : Option AV} (h : post r e) (h1 : r = r') (h2 : e = e') : post r' e' := by subst h1; subst h2; exact h
theorem k_of {k : Out → AS → Prop} {o : Out} {s s' : AS} (h : k o s) (h1 : s = s') : k o s' := by subst h1; exact h

theorem wrap_i64 {n : Int} (h1 : -9223372036854775808 ≤ n) (h2 : n ≤ 9223372036854775807) : IntKind.i64.wrap n = n := by
  show (let m := n % (2 ^ 64 : Int); if (true && decide (m ≥ (2 ^ 63 : Int))) = true then m - (2 ^ 64 : Int) else m) = n
  simp only [Bool.true_and, decide_eq_true_eq]
  split <;> omega
theorem wrap_i64_rng (n : Int) : -9223372036854775808 ≤ IntKind.i64.wrap n ∧ IntKind.i64.wrap n ≤ 9223372036854775807 := by
  show _ ≤ (let m := n % (2 ^ 64 : Int); if (true && decide (m ≥ (2 ^ 63 : Int))) = true then m - (2 ^ 64 : Int) else m) ∧ (let m := n % (2 ^ 64 : Int); if (true && decide (m ≥ (2 ^ 63 : Int))) = true then m - (2 ^ 64 : Int) else m) ≤ _
  simp only [Bool.true_and, decide_eq_true_eq]
  split <;> omega
theorem wrap_u (k : IntKind) (hk : k.signed = false) (n : Int) : k.wrap n = n % (2 ^ k.bits : Int) := by simp [IntKind.wrap, hk]
theorem wrap_u64_eq (n : Int) : IntKind.u64.wrap n = n % 18446744073709551616 := wrap_u .u64 rfl n
theorem wrap_u32_eq (n : Int) : IntKind.u32.wrap n = n % 4294967296 := wrap_u .u32 rfl n
theorem wrap_u8_eq (n : Int) : IntKind.u8.wrap n = n % 256 := wrap_u .u8 rfl n
theorem wrap_u8 {n : Int} (h1 : 0 ≤ n) (h2 : n ≤ 255) : IntKind.u8.wrap n = n := by rw [wrap_u8_eq]; omega
theorem wrap_u32 {n : Int} (h1 : 0 ≤ n) (h2 : n ≤ 4294967295) : IntKind.u32.wrap n = n := by rw [wrap_u32_eq]; omega
theorem wrap_u64 {n : Int} (h1 : 0 ≤ n) (h2 : n ≤ 18446744073709551615) : IntKind.u64.wrap n = n := by rw [wrap_u64_eq]; omega
theorem in_i64 {n : Int} : inK .i64 n = true ↔ -9223372036854775808 ≤ n ∧ n ≤ 9223372036854775807 := by simp only [inK, Bool.and_eq_true, decide_eq_true_eq]; rfl
theorem in_u64 {n : Int} : inK .u64 n = true ↔ 0 ≤ n ∧ n ≤ 18446744073709551615 := by simp only [inK, Bool.and_eq_true, decide_eq_true_eq]; rfl
theorem in_u32 {n : Int} : inK .u32 n = true ↔ 0 ≤ n ∧ n ≤ 4294967295 := by simp only [inK, Bool.and_eq_true, decide_eq_true_eq]; rfl
theorem in_u8 {n : Int} : inK .u8 n = true ↔ 0 ≤ n ∧ n ≤ 255 := by simp only [inK, Bool.and_eq_true, decide_eq_true_eq]; rfl
theorem maxLen_eq : maxLen = 1099511627776 ∨ True := .inr trivial
/-- Powers. -/
theorem shl_eq (k : IntKind) (x y : Int) : shl k x y = k.wrap (x * 2 ^ min y.toNat k.bits) := rfl
theorem shr_eq (k : IntKind) (x y : Int) : shr k x y = x.fdiv (2 ^ min y.toNat k.bits) := rfl
end Go.Proofs.Ytnioiijcmdnhaaa.V
