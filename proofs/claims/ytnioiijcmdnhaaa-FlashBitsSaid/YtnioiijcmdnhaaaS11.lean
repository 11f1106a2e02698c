import Derived.Test.YtnioiijcmdnhaaaPlans
import Derived.Test.YtnioiijcmdnhaaaVNum
import Derived.Test.YtnioiijcmdnhaaaProg
import Derived.Test.YtnioiijcmdnhaaaS0
import Derived.Test.YtnioiijcmdnhaaaS1
import Derived.Test.YtnioiijcmdnhaaaS2
import Derived.Test.YtnioiijcmdnhaaaS3
import Derived.Test.YtnioiijcmdnhaaaS4
import Derived.Test.YtnioiijcmdnhaaaR4
import Derived.Test.YtnioiijcmdnhaaaS6
import Derived.Test.YtnioiijcmdnhaaaS7
import Derived.Test.YtnioiijcmdnhaaaPQ2
import Derived.KernelRfl
set_option linter.all false
set_option maxHeartbeats 1000000
namespace Go.Proofs.Ytnioiijcmdnhaaa.V
open Go
theorem andn_self (X : BitVec 8) : X &&& ~~~X = 0#8 := by
  apply BitVec.eq_of_getLsbD_eq
  intro i hi
  simp
theorem andn_and (X Y : BitVec 8) : (X &&& Y) &&& ~~~X = 0#8 := by
  apply BitVec.eq_of_getLsbD_eq
  intro i hi
  simp
  cases X.getLsbD i <;> simp
theorem iandn_self (x : Int) : iandn .u8 x x = 0 := by
  show IntKind.u8.wrap (BitVec.ofInt 8 x &&& ~~~BitVec.ofInt 8 x).toNat = 0
  rw [andn_self]
  rfl
theorem iandn_and (x y : Int) : iandn .u8 (iand .u8 x y) x = 0 := by
  show IntKind.u8.wrap (BitVec.ofInt 8 (IntKind.u8.wrap (BitVec.ofInt 8 x &&& BitVec.ofInt 8 y).toNat) &&& ~~~BitVec.ofInt 8 x).toNat = 0
  have hlt := (BitVec.ofInt 8 x &&& BitVec.ofInt 8 y).isLt
  rw [wrap_u8 (n := ((BitVec.ofInt 8 x &&& BitVec.ofInt 8 y).toNat : Int)) (by omega) (by omega), BitVec.ofInt_natCast, BitVec.ofNat_toNat, BitVec.setWidth_eq, andn_and]
  rfl
/-- Programming clears bits only, within its range. -/
theorem bits_ok (L q : List Int) (a : Int) (j : Nat) (ha : 0 ≤ a) (hj : j ≤ q.length) (p : Nat) (hp : p < L.length) :
    iandn .u8 ((updF (andG q) L a.toNat 0 j).getD p 0) (L.getD p 0) = 0 ∧ ((a ≤ p ∧ (p : Int) < a + q.length) ∨ (updF (andG q) L a.toNat 0 j).getD p 0 = L.getD p 0) := by
  by_cases hr : a.toNat ≤ p ∧ p < a.toNat + j
  · rw [updF_in (andG q) a.toNat p j 0 L (by omega) (by omega) hp]
    exact ⟨iandn_and _ _, .inl (by omega)⟩
  · rw [updF_out (andG q) a.toNat p j 0 L (by omega)]
    exact ⟨iandn_self _, .inr rfl⟩
theorem prog_some {z a c : Int} {L q : List Int} (hv : valE z L.length = 0) (h0 : 0 ≤ a) (h2 : a + q.length ≤ 512) : ∃ (j : Nat) (e b : Int), j ≤ q.length ∧ (e = 0 ∨ e = 16) ∧ progF z L 0 a q c = ⟨z, updF (andG q) L a.toNat 0 j, b, e⟩ := by
  rw [prog0 hv h0 h2, chg, chgR]
  split
  · exact ⟨c.toNat, 16, 0, by omega, .inr rfl, rfl⟩
  · split
    · exact ⟨q.length - 0, 0, _, by omega, .inl rfl, rfl⟩
    · exact ⟨q.length - 0, 0, _, by omega, .inl rfl, rfl⟩
def pm7 : Pm := ⟨[.s, .i .i64, .s, .i .u8, .s], .no, [.s]⟩
def u7 : List (Nat × Tr) := [(9, S9), (16, S16), (20, S20)]
theorem a7 : AllKeep Proofs.Try.prog u7 := ⟨k9, k16, k20, trivial⟩

def kp7_8 : List (Loc × Keep) := [(.t 2, .shp .s), (.t 3, .shp (.i .u8)), (.t 11, .ptr), (.t 12, .ptr), (.t 15, .shp .s)]
def tr7_8 : Trim := .some [] [] [10] []
def L7_8 : LTr
  | ⟨[(2, .int .u8 a), (3, .ints false .u8 q), (11, .ptr 11 0 0), (12, .ptr 12 0 0), (15, .int .i64 i)], [(11, .box 24 [.int .i64 z, .ints false .u8 L]), (12, .box 24 [.int .i64 z2, .ints false .u8 M])]⟩, k => chk (decide (0 ≤ i ∧ i ≤ M.length ∧ M.length = L.length ∧ L.length ≤ 65536 ∧ 0 ≤ a ∧ a ≤ 255 ∧ q.length ≤ 200)) ((∀ p : Nat, p < M.length → iandn .u8 (M.getD p 0) (L.getD p 0) = 0 ∧ ((a ≤ p ∧ (p : Int) < a + q.length) ∨ M.getD p 0 = L.getD p 0)) ∧ k (.exit 0) ⟨[], []⟩)
  | _, _ => False
def c7_0 : Cfg := { n := 99, Γ := Gam, C := ofL u7, pm := pmL [(9, pm9), (16, pm16), (20, pm20)], plan := plan7, L := lpL [], unroll := nmL [], keep := kpL [(8, kp7_8)] }
def c7 : Cfg := { n := 99, Γ := Gam, C := ofL u7, pm := pmL [(9, pm9), (16, pm16), (20, pm20)], plan := plan7, L := lpL [(8, L7_8)], unroll := nmL [], keep := kpL [(8, kp7_8)] }
def S7 : Tr
  | [.int .i64 n, .ints false .i64 l, .int .u8 a, .ints false .u8 q, .int .i64 c], none, post => post (.bool true) none
  | _, _, _ => False
theorem t7_0 (n a c : Int) (l q : List Int) (post : AV → Option AV → Prop) : runF c7 pm7 Proofs.Try.f7 [.int .i64 n, .ints false .i64 l, .int .u8 a, .ints false .u8 q, .int .i64 c] none post = (br (decide (@Nat.cast Int _ q.length > (200 : Int))) (post (AV.bool true) none)
     (∀ (z : Int) (L : List Int),
     valE z L.length = (0 : Int) →
     br ((progF z L (0 : Int) (IntKind.i64.wrap a) q c).e != (0 : Int))
     (br ((progF z L (0 : Int) (IntKind.i64.wrap a) q c).e != (16 : Int)) (post (AV.bool false) none)
     (br (@Nat.cast Int _ (progF z L (0 : Int) (IntKind.i64.wrap a) q c).l.length != @Nat.cast Int _ L.length)
     (post (AV.bool false) none)
     (chk
     (decide
     ((0 : Int) ≤ (0 : Int) ∧
     (0 : Int) ≤ @Nat.cast Int _ (progF z L (0 : Int) (IntKind.i64.wrap a) q c).l.length ∧
     (progF z L (0 : Int) (IntKind.i64.wrap a) q c).l.length = L.length ∧
     L.length ≤ (65536 : Nat) ∧ (0 : Int) ≤ a ∧ a ≤ (255 : Int) ∧ q.length ≤ (200 : Nat)))
     ((∀ (p : Nat),
     p < (progF z L (0 : Int) (IntKind.i64.wrap a) q c).l.length →
     iandn IntKind.u8 ((progF z L (0 : Int) (IntKind.i64.wrap a) q c).l.getD p (0 : Int))
     (L.getD p (0 : Int)) =
     (0 : Int) ∧
     (a ≤ ↑p ∧ ↑p < a + ↑q.length ∨
     (progF z L (0 : Int) (IntKind.i64.wrap a) q c).l.getD p (0 : Int) = L.getD p (0 : Int))) ∧
     post (AV.bool true) none))))
     (br (@Nat.cast Int _ (progF z L (0 : Int) (IntKind.i64.wrap a) q c).l.length != @Nat.cast Int _ L.length)
     (post (AV.bool false) none)
     (chk
     (decide
     ((0 : Int) ≤ (0 : Int) ∧
     (0 : Int) ≤ @Nat.cast Int _ (progF z L (0 : Int) (IntKind.i64.wrap a) q c).l.length ∧
     (progF z L (0 : Int) (IntKind.i64.wrap a) q c).l.length = L.length ∧
     L.length ≤ (65536 : Nat) ∧ (0 : Int) ≤ a ∧ a ≤ (255 : Int) ∧ q.length ≤ (200 : Nat)))
     ((∀ (p : Nat),
     p < (progF z L (0 : Int) (IntKind.i64.wrap a) q c).l.length →
     iandn IntKind.u8 ((progF z L (0 : Int) (IntKind.i64.wrap a) q c).l.getD p (0 : Int))
     (L.getD p (0 : Int)) =
     (0 : Int) ∧
     (a ≤ ↑p ∧ ↑p < a + ↑q.length ∨
     (progF z L (0 : Int) (IntKind.i64.wrap a) q c).l.getD p (0 : Int) = L.getD p (0 : Int))) ∧
     post (AV.bool true) none))))) := by kernel_rfl
theorem q7_8 (a i z z2 : Int) (q L M : List Int) (k : Out → AS → Prop) : stepL c7_0 kp7_8 tr7_8 (loopAt Proofs.Try.f7 8) ⟨[(2, .int .u8 a), (3, .ints false .u8 q), (11, .ptr 11 0 0), (12, .ptr 12 0 0), (15, .int .i64 i)], [(11, .box 24 [.int .i64 z, .ints false .u8 L]), (12, .box 24 [.int .i64 z2, .ints false .u8 M])]⟩ k = (br (decide (i < @Nat.cast Int _ M.length))
     (br (decide (i ≥ IntKind.i64.wrap a))
     (chk (inB i M.length)
     (chk (inB i L.length)
     (br (iandn IntKind.u8 (M.getD i.toNat (0 : Int)) (L.getD i.toNat (0 : Int)) != (0 : Int))
     (k Out.ret (AS.mk [((10 : Nat), AV.bool false)] []))
     (br (!decide (i < IntKind.i64.wrap (IntKind.i64.wrap a + @Nat.cast Int _ q.length)))
     (chk (inB i M.length)
     (chk (inB i L.length)
     (br (M.getD i.toNat (0 : Int) != L.getD i.toNat (0 : Int))
     (k Out.ret (AS.mk [((10 : Nat), AV.bool false)] []))
     (k Out.normal
     (AS.mk
     [((2 : Nat), AV.int IntKind.u8 a), ((3 : Nat), AV.ints false IntKind.u8 q),
     ((11 : Nat), AV.ptr (11 : Nat) (0 : Nat) (0 : Nat)),
     ((12 : Nat), AV.ptr (12 : Nat) (0 : Nat) (0 : Nat)),
     ((15 : Nat), AV.int IntKind.i64 (IntKind.i64.wrap (i + (1 : Int))))]
     [((11 : Nat), AV.box (24 : Nat) [AV.int IntKind.i64 z, AV.ints false IntKind.u8 L]),
     ((12 : Nat), AV.box (24 : Nat) [AV.int IntKind.i64 z2, AV.ints false IntKind.u8 M])])))))
     (k Out.normal
     (AS.mk
     [((2 : Nat), AV.int IntKind.u8 a), ((3 : Nat), AV.ints false IntKind.u8 q),
     ((11 : Nat), AV.ptr (11 : Nat) (0 : Nat) (0 : Nat)),
     ((12 : Nat), AV.ptr (12 : Nat) (0 : Nat) (0 : Nat)),
     ((15 : Nat), AV.int IntKind.i64 (IntKind.i64.wrap (i + (1 : Int))))]
     [((11 : Nat), AV.box (24 : Nat) [AV.int IntKind.i64 z, AV.ints false IntKind.u8 L]),
     ((12 : Nat), AV.box (24 : Nat) [AV.int IntKind.i64 z2, AV.ints false IntKind.u8 M])]))))))
     (chk (inB i M.length)
     (chk (inB i L.length)
     (br (iandn IntKind.u8 (M.getD i.toNat (0 : Int)) (L.getD i.toNat (0 : Int)) != (0 : Int))
     (k Out.ret (AS.mk [((10 : Nat), AV.bool false)] []))
     (chk (inB i M.length)
     (chk (inB i L.length)
     (br (M.getD i.toNat (0 : Int) != L.getD i.toNat (0 : Int))
     (k Out.ret (AS.mk [((10 : Nat), AV.bool false)] []))
     (k Out.normal
     (AS.mk
     [((2 : Nat), AV.int IntKind.u8 a), ((3 : Nat), AV.ints false IntKind.u8 q),
     ((11 : Nat), AV.ptr (11 : Nat) (0 : Nat) (0 : Nat)),
     ((12 : Nat), AV.ptr (12 : Nat) (0 : Nat) (0 : Nat)),
     ((15 : Nat), AV.int IntKind.i64 (IntKind.i64.wrap (i + (1 : Int))))]
     [((11 : Nat), AV.box (24 : Nat) [AV.int IntKind.i64 z, AV.ints false IntKind.u8 L]),
     ((12 : Nat), AV.box (24 : Nat) [AV.int IntKind.i64 z2, AV.ints false IntKind.u8 M])])))))))))
     (k (Out.exit (0 : Nat)) (AS.mk [] []))) := by kernel_rfl

theorem i7_8 (k : Out → AS → Prop) (fuel : Nat) : ∀ (a i z z2 : Int) (q L M : List Int), (M.length - i).toNat < fuel → (0 ≤ i ∧ i ≤ M.length ∧ M.length = L.length ∧ L.length ≤ 65536 ∧ 0 ≤ a ∧ a ≤ 255 ∧ q.length ≤ 200) → ((∀ p : Nat, p < M.length → iandn .u8 (M.getD p 0) (L.getD p 0) = 0 ∧ ((a ≤ p ∧ (p : Int) < a + q.length) ∨ M.getD p 0 = L.getD p 0)) ∧ k (.exit 0) ⟨[], []⟩) → iterL (stepL c7_0 kp7_8 tr7_8 (loopAt Proofs.Try.f7 8)) k fuel ⟨[(2, .int .u8 a), (3, .ints false .u8 q), (11, .ptr 11 0 0), (12, .ptr 12 0 0), (15, .int .i64 i)], [(11, .box 24 [.int .i64 z, .ints false .u8 L]), (12, .box 24 [.int .i64 z2, .ints false .u8 M])]⟩ := by
  induction fuel with
  | zero => intro a i z z2 q L M hm; omega
  | succ fuel ih =>
    intro a i z z2 q L M hm hp hk
    simp only [iterL]
    rw [q7_8]
    dsimp only
    obtain ⟨p1, p2, p3, p4, p5, p6, p7⟩ := hp
    obtain ⟨hall, hx⟩ := hk
    rw [wrap_i64 (n := a) (by omega) (by omega), wrap_i64 (n := a + q.length) (by omega) (by omega)]
    refine br_dec (fun hc => ?_) (fun hc => hx)
    rw [wrap_i64 (n := i + 1) (by omega) (by omega)]
    obtain ⟨g1, g2⟩ := hall i.toNat (by omega)
    refine br_dec (fun h1 => ?_) (fun h1 => ?_)
    · refine chk_inB (by omega) (by omega) (chk_inB (by omega) (by omega) (br_ne (fun hh => absurd g1 hh) (fun _ => br_not (br_dec (fun h2 => ?_) (fun h2 => chk_inB (by omega) (by omega) (chk_inB (by omega) (by omega) (br_ne (fun hh => ?_) (fun _ => ?_))))))))
      · exact ih _ _ _ _ _ _ _ (by omega) ⟨by omega, by omega, p3, p4, p5, p6, p7⟩ ⟨hall, hx⟩
      · rcases g2 with g2 | g2
        · exfalso
          omega
        · exact absurd g2 hh
      · exact ih _ _ _ _ _ _ _ (by omega) ⟨by omega, by omega, p3, p4, p5, p6, p7⟩ ⟨hall, hx⟩
    · refine chk_inB (by omega) (by omega) (chk_inB (by omega) (by omega) (br_ne (fun hh => absurd g1 hh) (fun _ => chk_inB (by omega) (by omega) (chk_inB (by omega) (by omega) (br_ne (fun hh => ?_) (fun _ => ?_))))))
      · rcases g2 with g2 | g2
        · exfalso
          omega
        · exact absurd g2 hh
      · exact ih _ _ _ _ _ _ _ (by omega) ⟨by omega, by omega, p3, p4, p5, p6, p7⟩ ⟨hall, hx⟩
theorem l7_8 : ∀ s k, L7_8 s k → Tri Proofs.Try.prog 99 (.loop (loopAt Proofs.Try.f7 8)) s k := by
  intro s k h
  unfold L7_8 at h
  split at h
  · obtain ⟨h1, h2⟩ := chk_iff.1 h
    exact iter_ok (c := c7_0) gam_ok (l := u7) a7 rfl mixed_ok (by kernel_rfl) (ls := []) rfl (.inl rfl) trivial (kps := kp7_8) (tr := tr7_8) (_) (i7_8 k _ _ _ _ _ _ _ _ (Nat.lt_succ_self _) (of_decide_eq_true h1) h2)
  · exact h.elim
theorem p7_0 (n a c : Int) (l q : List Int) (post : AV → Option AV → Prop) (hin : InRL [.int .i64 n, .ints false .i64 l, .int .u8 a, .ints false .u8 q, .int .i64 c]) (hie : InRO none) (h : post (.bool true) none) : Ok (runF c7 pm7 Proofs.Try.f7 [.int .i64 n, .ints false .i64 l, .int .u8 a, .ints false .u8 q, .int .i64 c] none (post)) := by
  refine ⟨?_⟩
  rw [t7_0]
  have hin' := hin
  simp only [InRL, InR] at hin'
  have ha := in_u8.1 hin'.2.2.1
  rw [wrap_i64 (n := a) (by omega) (by omega)]
  refine br_dec (fun _ => h) (fun hq => ?_)
  intro z L hv
  obtain ⟨_, _, w3⟩ := val_len hv
  obtain ⟨j, e, b, hj, he, hE⟩ := prog_some (c := c) (q := q) hv ha.1 (by omega)
  simp only [hE]
  have hl : (updF (andG q) L a.toNat 0 j).length = L.length := updF_len _ _ _ _ _
  have hbits : ∀ p : Nat, p < (updF (andG q) L a.toNat 0 j).length → iandn .u8 ((updF (andG q) L a.toNat 0 j).getD p 0) (L.getD p 0) = 0 ∧ ((a ≤ p ∧ (p : Int) < a + q.length) ∨ (updF (andG q) L a.toNat 0 j).getD p 0 = L.getD p 0) := fun p hp => bits_ok L q a j ha.1 hj p (by omega)
  refine br_ne (fun h1 => br_ne (fun h2 => by exfalso; omega) (fun h2 => ?_)) (fun h1 => ?_)
  · exact br_ne (fun hh => by exfalso; omega) (fun _ => chk_dec (by omega) ⟨hbits, h⟩)
  · exact br_ne (fun hh => by exfalso; omega) (fun _ => chk_dec (by omega) ⟨hbits, h⟩)
theorem k7 : Keeps Proofs.Try.prog 7 S7 := by
  refine ⟨?_, Proofs.Try.f7, by kernel_rfl, by kernel_rfl, by kernel_rfl⟩
  intro args e post h
  unfold S7 at h
  split at h
  · refine Spec.inR fun hin hie => fun_ok' (c := c7) gam_ok (l := u7) a7 rfl mixed_ok (fn := Proofs.Try.f7) (show Proofs.Try.prog.funcs[7]? = some Proofs.Try.f7 by kernel_rfl) (by kernel_rfl) (ls := [(8, L7_8)]) rfl (.inr (by kernel_rfl)) ⟨l7_8, trivial⟩ (pm := pm7) (by simp [c7]) (by rintro ⟨t, l, h⟩; cases h) ?_
    exact p7_0 _ _ _ _ _ _ hin hie h
  · exact h.elim
end Go.Proofs.Ytnioiijcmdnhaaa.V
