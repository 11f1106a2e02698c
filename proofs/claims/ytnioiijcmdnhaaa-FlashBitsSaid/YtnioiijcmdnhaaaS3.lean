import Derived.Test.YtnioiijcmdnhaaaPlans
import Derived.Test.YtnioiijcmdnhaaaVNum
import Derived.Test.YtnioiijcmdnhaaaProg
import Derived.Test.YtnioiijcmdnhaaaS0
import Derived.Test.YtnioiijcmdnhaaaS1
import Derived.Test.YtnioiijcmdnhaaaS2
import Derived.KernelRfl
set_option linter.all false
set_option maxHeartbeats 1000000
namespace Go.Proofs.Ytnioiijcmdnhaaa.V
open Go
def pm16 : Pm := ⟨[.s, .i .i64], .no, [flS]⟩
def u16 : List (Nat × Tr) := [(11, S11)]
theorem a16 : AllKeep Proofs.Try.prog u16 := ⟨k11, trivial⟩

def kp16_3 : List (Loc × Keep) := [(.t 1, .shp (.i .i64)), (.t 4, .ptr), (.t 5, .ptr), (.t 7, .shp .s), (.c 5 1, .own 900 (.li 5 .u8))]
def tr16_3 : Trim := .some [4, 5] [4, 5, 900] [] []
def L16_3 : LTr
  | ⟨[(1, .ints false .i64 l), (4, .ptr 4 0 0), (5, .ptr 5 0 0), (7, .int .i64 i)], [(4, .box 24 [.int .i64 0, .nil]), (5, .box 24 [.int .i64 z, .ownf 900]), (900, .lini 5 .u8 L)]⟩, k => chk (decide (0 ≤ i ∧ i ≤ 12 ∧ 0 < L.length ∧ L.length ≤ 65536)) (∀ L' : List Int, L'.length = L.length → k (.exit 0) ⟨[(4, .ptr 4 0 0), (5, .ptr 5 0 0)], [(4, .box 24 [.int .i64 0, .nil]), (5, .box 24 [.int .i64 z, .ownf 900]), (900, .lini 5 .u8 L')]⟩)
  | _, _ => False
def c16_0 : Cfg := { n := 54, Γ := Gam, C := ofL u16, pm := pmL [(11, pm11)], plan := plan16, L := lpL [], unroll := nmL [], keep := kpL [(3, kp16_3)] }
def c16 : Cfg := { n := 54, Γ := Gam, C := ofL u16, pm := pmL [(11, pm11)], plan := plan16, L := lpL [(3, L16_3)], unroll := nmL [], keep := kpL [(3, kp16_3)] }
def S16 : Tr
  | [.int .i64 n, .ints false .i64 l], none, post => ∀ (z : Int) (L : List Int), valE z L.length = 0 → post (.agg [.int .i64 z, .ints false .u8 L]) none
  | _, _, _ => False
theorem t16_0 (n : Int) (l : List Int) (post : AV → Option AV → Prop) : runF c16 pm16 Proofs.Try.f16 [.int .i64 n, .ints false .i64 l] none post = (chk (inB ((iand IntKind.i64 n (65535 : Int)).tmod (3 : Int)) (3 : Nat))
     (chk (decide (((iand IntKind.i64 n (65535 : Int)).tmod (3 : Int)).toNat < (3 : Nat)))
     (chk
     (decide
     ((0 : Int) ≤ (0 : Int) ∧
     (0 : Int) ≤ (12 : Int) ∧
     (0 : Nat) <
     (List.replicate
     (newN
     ([(512 : Int), (513 : Int), (600 : Int)].getD
     ((iand IntKind.i64 n (65535 : Int)).tmod (3 : Int)).toNat (0 : Int))
     (IntKind.i64.wrap ((1 : Int) + iand IntKind.i64 (shr IntKind.i64 n (2 : Int)) (3 : Int))))
     (255 : Int)).length ∧
     (List.replicate
     (newN
     ([(512 : Int), (513 : Int), (600 : Int)].getD
     ((iand IntKind.i64 n (65535 : Int)).tmod (3 : Int)).toNat (0 : Int))
     (IntKind.i64.wrap ((1 : Int) + iand IntKind.i64 (shr IntKind.i64 n (2 : Int)) (3 : Int))))
     (255 : Int)).length ≤
     (65536 : Nat)))
     (∀ (L' : List Int),
     L'.length =
     (List.replicate
     (newN
     ([(512 : Int), (513 : Int), (600 : Int)].getD
     ((iand IntKind.i64 n (65535 : Int)).tmod (3 : Int)).toNat (0 : Int))
     (IntKind.i64.wrap ((1 : Int) + iand IntKind.i64 (shr IntKind.i64 n (2 : Int)) (3 : Int))))
     (255 : Int)).length →
     post
     (AV.agg
     [AV.int IntKind.i64
     (newZ
     ([(512 : Int), (513 : Int), (600 : Int)].getD
     ((iand IntKind.i64 n (65535 : Int)).tmod (3 : Int)).toNat (0 : Int))
     (IntKind.i64.wrap ((1 : Int) + iand IntKind.i64 (shr IntKind.i64 n (2 : Int)) (3 : Int)))),
     AV.ints false IntKind.u8 L'])
     none)))) := by kernel_rfl
theorem q16_3 (z i : Int) (l L : List Int) (k : Out → AS → Prop) : stepL c16_0 kp16_3 tr16_3 (loopAt Proofs.Try.f16 3) ⟨[(1, .ints false .i64 l), (4, .ptr 4 0 0), (5, .ptr 5 0 0), (7, .int .i64 i)], [(4, .box 24 [.int .i64 0, .nil]), (5, .box 24 [.int .i64 z, .ownf 900]), (900, .lini 5 .u8 L)]⟩ k = (br (decide (i < @Nat.cast Int _ l.length))
     (br (decide (i < (12 : Int)))
     (chk (inB i l.length)
     (chk (!@Nat.cast Int _ L.length == (0 : Int))
     (chk (inB ((iand IntKind.i64 (l.getD i.toNat (0 : Int)) (65535 : Int)).tmod (@Nat.cast Int _ L.length)) L.length)
     (chk
     (decide
     (((iand IntKind.i64 (l.getD i.toNat (0 : Int)) (65535 : Int)).tmod (@Nat.cast Int _ L.length)).toNat <
     L.length))
     (chk (inB i l.length)
     (chk
     (inB ((iand IntKind.i64 (l.getD i.toNat (0 : Int)) (65535 : Int)).tmod (@Nat.cast Int _ L.length)) L.length)
     (chk
     (decide
     (((iand IntKind.i64 (l.getD i.toNat (0 : Int)) (65535 : Int)).tmod (@Nat.cast Int _ L.length)).toNat <
     L.length))
     (k Out.normal
     (AS.mk
     [((1 : Nat), AV.ints false IntKind.i64 l), ((4 : Nat), AV.ptr (4 : Nat) (0 : Nat) (0 : Nat)),
     ((5 : Nat), AV.ptr (5 : Nat) (0 : Nat) (0 : Nat)),
     ((7 : Nat), AV.int IntKind.i64 (IntKind.i64.wrap (i + (1 : Int))))]
     [((4 : Nat), AV.box (24 : Nat) [AV.int IntKind.i64 (0 : Int), AV.nil]),
     ((5 : Nat), AV.box (24 : Nat) [AV.int IntKind.i64 z, AV.ownf (900 : Nat)]),
     ((900 : Nat),
     AV.lini (5 : Nat) IntKind.u8
     (L.set
     ((iand IntKind.i64 (l.getD i.toNat (0 : Int)) (65535 : Int)).tmod
     (@Nat.cast Int _ L.length)).toNat
     (iand IntKind.u8
     (L.getD
     ((iand IntKind.i64 (l.getD i.toNat (0 : Int)) (65535 : Int)).tmod
     (@Nat.cast Int _ L.length)).toNat
     (0 : Int))
     (IntKind.u8.wrap (shr IntKind.i64 (l.getD i.toNat (0 : Int)) (8 : Int))))))])))))))))
     (k (Out.exit (0 : Nat))
     (AS.mk [((4 : Nat), AV.ptr (4 : Nat) (0 : Nat) (0 : Nat)), ((5 : Nat), AV.ptr (5 : Nat) (0 : Nat) (0 : Nat))]
     [((4 : Nat), AV.box (24 : Nat) [AV.int IntKind.i64 (0 : Int), AV.nil]),
     ((5 : Nat), AV.box (24 : Nat) [AV.int IntKind.i64 z, AV.ownf (900 : Nat)]),
     ((900 : Nat), AV.lini (5 : Nat) IntKind.u8 L)])))
     (k (Out.exit (0 : Nat))
     (AS.mk [((4 : Nat), AV.ptr (4 : Nat) (0 : Nat) (0 : Nat)), ((5 : Nat), AV.ptr (5 : Nat) (0 : Nat) (0 : Nat))]
     [((4 : Nat), AV.box (24 : Nat) [AV.int IntKind.i64 (0 : Int), AV.nil]),
     ((5 : Nat), AV.box (24 : Nat) [AV.int IntKind.i64 z, AV.ownf (900 : Nat)]),
     ((900 : Nat), AV.lini (5 : Nat) IntKind.u8 L)]))) := by kernel_rfl

theorem i16_3 (k : Out → AS → Prop) (fuel : Nat) : ∀ (z i : Int) (l L : List Int), (12 - i).toNat < fuel → (0 ≤ i ∧ i ≤ 12 ∧ 0 < L.length ∧ L.length ≤ 65536) → (∀ L' : List Int, L'.length = L.length → k (.exit 0) ⟨[(4, .ptr 4 0 0), (5, .ptr 5 0 0)], [(4, .box 24 [.int .i64 0, .nil]), (5, .box 24 [.int .i64 z, .ownf 900]), (900, .lini 5 .u8 L')]⟩) → iterL (stepL c16_0 kp16_3 tr16_3 (loopAt Proofs.Try.f16 3)) k fuel ⟨[(1, .ints false .i64 l), (4, .ptr 4 0 0), (5, .ptr 5 0 0), (7, .int .i64 i)], [(4, .box 24 [.int .i64 0, .nil]), (5, .box 24 [.int .i64 z, .ownf 900]), (900, .lini 5 .u8 L)]⟩ := by
  induction fuel with
  | zero => intro z i l L hm; omega
  | succ fuel ih =>
    intro z i l L hm hp hk
    simp only [iterL]
    rw [q16_3]
    dsimp only
    obtain ⟨p1, p2, p3, p4⟩ := hp
    have i1 : 0 ≤ iand .i64 (l.getD i.toNat 0) 65535 ∧ iand .i64 (l.getD i.toNat 0) 65535 ≤ 65535 := iand_rng (l.getD i.toNat 0) 65535 (by omega)
    have i2 := tmod_rng (a := iand .i64 (l.getD i.toNat 0) 65535) (m := (L.length : Int)) i1.1 (by omega)
    refine br_dec (fun hc => br_dec (fun hd => ?_) (fun _ => hk L rfl)) (fun _ => hk L rfl)
    refine chk_inB (by omega) (by omega) (chk_nz (by omega) (chk_inB i2.1 i2.2 (chk_dec (by omega) (chk_inB (by omega) (by omega) (chk_inB i2.1 i2.2 (chk_dec (by omega) ?_))))))
    rw [wrap_i64 (n := i + 1) (by omega) (by omega)]
    exact ih _ _ _ _ (by omega) ⟨by omega, by omega, by rw [List.length_set]; omega, by rw [List.length_set]; omega⟩ (fun L' h' => hk L' (by rw [h', List.length_set]))
theorem l16_3 : ∀ s k, L16_3 s k → Tri Proofs.Try.prog 54 (.loop (loopAt Proofs.Try.f16 3)) s k := by
  intro s k h
  unfold L16_3 at h
  split at h
  · obtain ⟨h1, h2⟩ := chk_iff.1 h
    exact iter_ok (c := c16_0) gam_ok (l := u16) a16 rfl mixed_ok (by kernel_rfl) (ls := []) rfl (.inl rfl) trivial (kps := kp16_3) (tr := tr16_3) (_) (i16_3 k _ _ _ _ _ (Nat.lt_succ_self _) (of_decide_eq_true h1) h2)
  · exact h.elim
theorem p16_0 (n : Int) (l : List Int) (post : AV → Option AV → Prop) (hin : InRL [.int .i64 n, .ints false .i64 l]) (hie : InRO none) (h : ∀ (z : Int) (L : List Int), valE z L.length = 0 → post (.agg [.int .i64 z, .ints false .u8 L]) none) : Ok (runF c16 pm16 Proofs.Try.f16 [.int .i64 n, .ints false .i64 l] none (post)) := by
  refine ⟨?_⟩
  rw [t16_0]
  have i1 : 0 ≤ iand .i64 n 65535 ∧ iand .i64 n 65535 ≤ 65535 := iand_rng n 65535 (by omega)
  have i2 := tmod_rng (a := iand .i64 n 65535) (m := 3) i1.1 (by omega)
  have i3 : 0 ≤ iand .i64 (shr .i64 n 2) 3 ∧ iand .i64 (shr .i64 n 2) 3 ≤ 3 := iand_rng (shr .i64 n 2) 3 (by omega)
  have i4 := getD_all (P := fun x => x = 0 ∨ (512 ≤ x ∧ x ≤ 600)) (L := ([512, 513, 600] : List Int)) (by decide) (by decide) ((iand .i64 n 65535).tmod 3).toNat
  have i5 : ([512, 513, 600] : List Int).getD ((iand .i64 n 65535).tmod 3).toNat 0 ≠ 0 := by
    have hk : ((iand .i64 n 65535).tmod 3).toNat < 3 := by omega
    generalize ((iand .i64 n 65535).tmod 3).toNat = k at hk
    match k, hk with
    | 0, _ => decide
    | 1, _ => decide
    | 2, _ => decide
  rw [wrap_i64 (n := 1 + iand .i64 (shr .i64 n 2) 3) (by omega) (by omega)]
  generalize ([512, 513, 600] : List Int).getD ((iand .i64 n 65535).tmod 3).toNat 0 = z at *
  have i6 : 1 ≤ 1 + iand .i64 (shr .i64 n 2) 3 ∧ 1 + iand .i64 (shr .i64 n 2) 3 ≤ 4 := by omega
  generalize 1 + iand .i64 (shr .i64 n 2) 3 = m at *
  have hE : newE z m = 0 := if_neg (by omega)
  obtain ⟨v1, v2, v3, v4, v5, v6, v7, v8⟩ := val_new hE
  refine chk_inB i2.1 i2.2 (chk_dec (by omega) (chk_dec ?_ (fun L' hL => ?_)))
  · rw [List.length_replicate]
    omega
  · rw [List.length_replicate] at hL
    rw [v3]
    exact h z L' (by rw [hL]; exact v8)
theorem k16 : Keeps Proofs.Try.prog 16 S16 := by
  refine ⟨?_, Proofs.Try.f16, by kernel_rfl, by kernel_rfl, by kernel_rfl⟩
  intro args e post h
  unfold S16 at h
  split at h
  · refine Spec.inR fun hin hie => fun_ok' (c := c16) gam_ok (l := u16) a16 rfl mixed_ok (fn := Proofs.Try.f16) (show Proofs.Try.prog.funcs[16]? = some Proofs.Try.f16 by kernel_rfl) (by kernel_rfl) (ls := [(3, L16_3)]) rfl (.inr (by kernel_rfl)) ⟨l16_3, trivial⟩ (pm := pm16) (by simp [c16]) (by rintro ⟨t, l, h⟩; cases h) ?_
    exact p16_0 _ _ _ hin hie h
  · exact h.elim
def pm34 : Pm := ⟨[flS, .s, .s, .i .u8, .s], .no, [flS, .s, .s]⟩
def u34 : List (Nat × Tr) := []
theorem a34 : AllKeep Proofs.Try.prog u34 := trivial

def kp34_3 : List (Loc × Keep) := [(.t 1, .shp .s), (.t 2, .shp .s), (.t 3, .shp (.i .u8)), (.t 4, .shp .s), (.t 5, .ptr), (.t 10, .ptr), (.t 13, .shp .s), (.c 5 1, .own 900 (.li 5 .u8))]
def tr34_3 : Trim := .some [4, 5, 10] [5, 10, 900] [10, 11, 12] [10, 900]
def L34_3 : LTr
  | ⟨[(1, .int .i64 o), (2, .int .i64 n), (3, .ints false .u8 b), (4, .int .i64 bud), (5, .ptr 5 0 0), (10, .ptr 10 0 0), (13, .int .i64 i)], [(5, .box 24 [.int .i64 z, .ownf 900]), (10, .box 24 [.int .i64 0, .nil]), (900, .lini 5 .u8 M)]⟩, k => chk (decide (bud ≤ 9223372036854775807 ∧ 0 ≤ i ∧ i ≤ n ∧ 0 ≤ o ∧ o + n ≤ M.length ∧ M.length ≤ 65536 ∧ (b.length = 0 ∨ n = b.length))) ((∀ M', chgR (refG b) M o.toNat i.toNat n.toNat bud = ⟨M', 0, 16⟩ → k .ret ⟨[(10, .ptr 10 0 0), (11, .int .i64 0), (12, .int .i64 16)], [(10, .box 24 [.int .i64 z, .ownf 900]), (900, .lini 5 .u8 M')]⟩) ∧ (∀ M' bud', chgR (refG b) M o.toNat i.toNat n.toNat bud = ⟨M', bud', 0⟩ → k (.exit 0) ⟨[(4, .int .i64 bud'), (5, .ptr 5 0 0), (10, .ptr 10 0 0)], [(5, .box 24 [.int .i64 z, .ownf 900]), (10, .box 24 [.int .i64 0, .nil]), (900, .lini 5 .u8 M')]⟩))
  | _, _ => False
def c34_0 : Cfg := { n := 54, Γ := Gam, C := ofL u34, pm := pmL [], plan := plan34, L := lpL [], unroll := nmL [], keep := kpL [(3, kp34_3)] }
def c34 : Cfg := { n := 54, Γ := Gam, C := ofL u34, pm := pmL [], plan := plan34, L := lpL [(3, L34_3)], unroll := nmL [], keep := kpL [(3, kp34_3)] }
def S34 : Tr
  | [.agg [.int .i64 z, .ints false .u8 L], .int .i64 o, .int .i64 n, .ints false .u8 b, .int .i64 bud], none, post => chk (decide (0 ≤ o ∧ 0 ≤ n ∧ o + n ≤ L.length ∧ L.length ≤ 65536 ∧ (b.length = 0 ∨ n = b.length))) (post (.tup [.agg [.int .i64 z, .ints false .u8 (chg (refG b) L o.toNat n.toNat bud).l], .int .i64 (chg (refG b) L o.toNat n.toNat bud).bud, .int .i64 (chg (refG b) L o.toNat n.toNat bud).e]) none)
  | _, _, _ => False
theorem t34_0 (z : Int) (L : List Int) (o n bud : Int) (b : List Int) (post : AV → Option AV → Prop) : runF c34 pm34 Proofs.Try.f34 [.agg [.int .i64 z, .ints false .u8 L], .int .i64 o, .int .i64 n, .ints false .u8 b, .int .i64 bud] none post = (chk (decide (L.length ≤ (1099511627776 : Nat)))
     (chk
     (decide
     (bud ≤ (9223372036854775807 : Int) ∧
     (0 : Int) ≤ (0 : Int) ∧
     (0 : Int) ≤ n ∧
     (0 : Int) ≤ o ∧
     o + n ≤ @Nat.cast Int _ L.length ∧ L.length ≤ (65536 : Nat) ∧ (b.length = (0 : Nat) ∨ n = @Nat.cast Int _ b.length)))
     ((∀ (M' : List Int),
     chgR (refG b) L o.toNat (Int.toNat (0 : Int)) n.toNat bud = Chg.mk M' (0 : Int) (16 : Int) →
     post
     (AV.tup
     [AV.agg [AV.int IntKind.i64 z, AV.ints false IntKind.u8 M'], AV.int IntKind.i64 (0 : Int),
     AV.int IntKind.i64 (16 : Int)])
     none) ∧
     ∀ (M' : List Int) (bud' : Int),
     chgR (refG b) L o.toNat (Int.toNat (0 : Int)) n.toNat bud = Chg.mk M' bud' (0 : Int) →
     post
     (AV.tup
     [AV.agg [AV.int IntKind.i64 z, AV.ints false IntKind.u8 M'], AV.int IntKind.i64 bud',
     AV.int IntKind.i64 (0 : Int)])
     none))) := by kernel_rfl
theorem q34_3 (o n bud i z : Int) (b M : List Int) (k : Out → AS → Prop) : stepL c34_0 kp34_3 tr34_3 (loopAt Proofs.Try.f34 3) ⟨[(1, .int .i64 o), (2, .int .i64 n), (3, .ints false .u8 b), (4, .int .i64 bud), (5, .ptr 5 0 0), (10, .ptr 10 0 0), (13, .int .i64 i)], [(5, .box 24 [.int .i64 z, .ownf 900]), (10, .box 24 [.int .i64 0, .nil]), (900, .lini 5 .u8 M)]⟩ k = (br (decide (i < n))
     (br (bud == (0 : Int))
     (k Out.ret
     (AS.mk
     [((10 : Nat), AV.ptr (10 : Nat) (0 : Nat) (0 : Nat)), ((11 : Nat), AV.int IntKind.i64 (0 : Int)),
     ((12 : Nat), AV.int IntKind.i64 (16 : Int))]
     [((10 : Nat), AV.box (24 : Nat) [AV.int IntKind.i64 z, AV.ownf (900 : Nat)]),
     ((900 : Nat), AV.lini (5 : Nat) IntKind.u8 M)]))
     (br (@Nat.cast Int _ b.length == (0 : Int))
     (chk (inB (IntKind.i64.wrap (o + i)) M.length)
     (chk (decide ((IntKind.i64.wrap (o + i)).toNat < M.length))
     (br (decide (bud > (0 : Int)))
     (k Out.normal
     (AS.mk
     [((1 : Nat), AV.int IntKind.i64 o), ((2 : Nat), AV.int IntKind.i64 n),
     ((3 : Nat), AV.ints false IntKind.u8 b),
     ((4 : Nat), AV.int IntKind.i64 (IntKind.i64.wrap (bud - (1 : Int)))),
     ((5 : Nat), AV.ptr (5 : Nat) (0 : Nat) (0 : Nat)),
     ((10 : Nat), AV.ptr (10 : Nat) (0 : Nat) (0 : Nat)),
     ((13 : Nat), AV.int IntKind.i64 (IntKind.i64.wrap (i + (1 : Int))))]
     [((5 : Nat), AV.box (24 : Nat) [AV.int IntKind.i64 z, AV.ownf (900 : Nat)]),
     ((10 : Nat), AV.box (24 : Nat) [AV.int IntKind.i64 (0 : Int), AV.nil]),
     ((900 : Nat), AV.lini (5 : Nat) IntKind.u8 (M.set (IntKind.i64.wrap (o + i)).toNat (255 : Int)))]))
     (k Out.normal
     (AS.mk
     [((1 : Nat), AV.int IntKind.i64 o), ((2 : Nat), AV.int IntKind.i64 n),
     ((3 : Nat), AV.ints false IntKind.u8 b), ((4 : Nat), AV.int IntKind.i64 bud),
     ((5 : Nat), AV.ptr (5 : Nat) (0 : Nat) (0 : Nat)),
     ((10 : Nat), AV.ptr (10 : Nat) (0 : Nat) (0 : Nat)),
     ((13 : Nat), AV.int IntKind.i64 (IntKind.i64.wrap (i + (1 : Int))))]
     [((5 : Nat), AV.box (24 : Nat) [AV.int IntKind.i64 z, AV.ownf (900 : Nat)]),
     ((10 : Nat), AV.box (24 : Nat) [AV.int IntKind.i64 (0 : Int), AV.nil]),
     ((900 : Nat), AV.lini (5 : Nat) IntKind.u8 (M.set (IntKind.i64.wrap (o + i)).toNat (255 : Int)))])))))
     (chk (inB (IntKind.i64.wrap (o + i)) M.length)
     (chk (decide ((IntKind.i64.wrap (o + i)).toNat < M.length))
     (chk (inB i b.length)
     (chk (inB (IntKind.i64.wrap (o + i)) M.length)
     (chk (decide ((IntKind.i64.wrap (o + i)).toNat < M.length))
     (br (decide (bud > (0 : Int)))
     (k Out.normal
     (AS.mk
     [((1 : Nat), AV.int IntKind.i64 o), ((2 : Nat), AV.int IntKind.i64 n),
     ((3 : Nat), AV.ints false IntKind.u8 b),
     ((4 : Nat), AV.int IntKind.i64 (IntKind.i64.wrap (bud - (1 : Int)))),
     ((5 : Nat), AV.ptr (5 : Nat) (0 : Nat) (0 : Nat)),
     ((10 : Nat), AV.ptr (10 : Nat) (0 : Nat) (0 : Nat)),
     ((13 : Nat), AV.int IntKind.i64 (IntKind.i64.wrap (i + (1 : Int))))]
     [((5 : Nat), AV.box (24 : Nat) [AV.int IntKind.i64 z, AV.ownf (900 : Nat)]),
     ((10 : Nat), AV.box (24 : Nat) [AV.int IntKind.i64 (0 : Int), AV.nil]),
     ((900 : Nat),
     AV.lini (5 : Nat) IntKind.u8
     (M.set (IntKind.i64.wrap (o + i)).toNat
     (iand IntKind.u8 (M.getD (IntKind.i64.wrap (o + i)).toNat (0 : Int))
     (b.getD i.toNat (0 : Int)))))]))
     (k Out.normal
     (AS.mk
     [((1 : Nat), AV.int IntKind.i64 o), ((2 : Nat), AV.int IntKind.i64 n),
     ((3 : Nat), AV.ints false IntKind.u8 b), ((4 : Nat), AV.int IntKind.i64 bud),
     ((5 : Nat), AV.ptr (5 : Nat) (0 : Nat) (0 : Nat)),
     ((10 : Nat), AV.ptr (10 : Nat) (0 : Nat) (0 : Nat)),
     ((13 : Nat), AV.int IntKind.i64 (IntKind.i64.wrap (i + (1 : Int))))]
     [((5 : Nat), AV.box (24 : Nat) [AV.int IntKind.i64 z, AV.ownf (900 : Nat)]),
     ((10 : Nat), AV.box (24 : Nat) [AV.int IntKind.i64 (0 : Int), AV.nil]),
     ((900 : Nat),
     AV.lini (5 : Nat) IntKind.u8
     (M.set (IntKind.i64.wrap (o + i)).toNat
     (iand IntKind.u8 (M.getD (IntKind.i64.wrap (o + i)).toNat (0 : Int))
     (b.getD i.toNat (0 : Int)))))]))))))))))
     (k (Out.exit (0 : Nat))
     (AS.mk
     [((4 : Nat), AV.int IntKind.i64 bud), ((5 : Nat), AV.ptr (5 : Nat) (0 : Nat) (0 : Nat)),
     ((10 : Nat), AV.ptr (10 : Nat) (0 : Nat) (0 : Nat))]
     [((5 : Nat), AV.box (24 : Nat) [AV.int IntKind.i64 z, AV.ownf (900 : Nat)]),
     ((10 : Nat), AV.box (24 : Nat) [AV.int IntKind.i64 (0 : Int), AV.nil]),
     ((900 : Nat), AV.lini (5 : Nat) IntKind.u8 M)]))) := by kernel_rfl

theorem i34_3 (k : Out → AS → Prop) (fuel : Nat) : ∀ (o n bud i z : Int) (b M : List Int), (n - i).toNat < fuel → (bud ≤ 9223372036854775807 ∧ 0 ≤ i ∧ i ≤ n ∧ 0 ≤ o ∧ o + n ≤ M.length ∧ M.length ≤ 65536 ∧ (b.length = 0 ∨ n = b.length)) → ((∀ M', chgR (refG b) M o.toNat i.toNat n.toNat bud = ⟨M', 0, 16⟩ → k .ret ⟨[(10, .ptr 10 0 0), (11, .int .i64 0), (12, .int .i64 16)], [(10, .box 24 [.int .i64 z, .ownf 900]), (900, .lini 5 .u8 M')]⟩) ∧ (∀ M' bud', chgR (refG b) M o.toNat i.toNat n.toNat bud = ⟨M', bud', 0⟩ → k (.exit 0) ⟨[(4, .int .i64 bud'), (5, .ptr 5 0 0), (10, .ptr 10 0 0)], [(5, .box 24 [.int .i64 z, .ownf 900]), (10, .box 24 [.int .i64 0, .nil]), (900, .lini 5 .u8 M')]⟩)) → iterL (stepL c34_0 kp34_3 tr34_3 (loopAt Proofs.Try.f34 3)) k fuel ⟨[(1, .int .i64 o), (2, .int .i64 n), (3, .ints false .u8 b), (4, .int .i64 bud), (5, .ptr 5 0 0), (10, .ptr 10 0 0), (13, .int .i64 i)], [(5, .box 24 [.int .i64 z, .ownf 900]), (10, .box 24 [.int .i64 0, .nil]), (900, .lini 5 .u8 M)]⟩ := by
  induction fuel with
  | zero => intro o n bud i z b M hm; omega
  | succ fuel ih =>
    intro o n bud i z b M hm hp hk
    simp only [iterL]
    rw [q34_3]
    dsimp only
    obtain ⟨p0, p1, p2, p3, p4, p5, p6⟩ := hp
    obtain ⟨hr, hx⟩ := hk
    refine br_dec (fun hc => ?_) (fun hc => ?_)
    · refine br_eq (fun hb => hr M (chg_out (by omega) hb)) (fun hb => ?_)
      have hoi : (o + i).toNat = o.toNat + i.toNat := by omega
      rw [wrap_i64 (n := o + i) (by omega) (by omega), wrap_i64 (n := i + 1) (by omega) (by omega), hoi]
      have hi1 : (i + 1).toNat = i.toNat + 1 := by omega
      refine br_eq (fun hb0 => ?_) (fun hb0 => ?_)
      · have hv : refG b i.toNat (M.getD (o.toNat + i.toNat) 0) = 255 := by rw [refG, if_pos (by omega)]; rfl
        refine chk_inB (by omega) (by omega) (chk_dec (by omega) (br_dec (fun hp => ?_) (fun hp => ?_)))
        · rw [wrap_i64 (n := bud - 1) (by omega) (by omega)]
          have hS := chg_step (g := refG b) (M := M) (o := o.toNat) (n := n.toNat) (i := i.toNat) (bud' := bud - 1) (by omega) hb (by rw [if_pos (by omega)])
          rw [hv] at hS
          exact ih _ _ _ _ _ _ _ (by omega) ⟨by omega, by omega, by omega, by omega, by rw [List.length_set]; omega, by rw [List.length_set]; omega, p6⟩ ⟨fun M' e => hr M' (by rw [hS, ← hi1]; exact e), fun M' bud' e => hx M' bud' (by rw [hS, ← hi1]; exact e)⟩
        · have hS := chg_step (g := refG b) (M := M) (o := o.toNat) (n := n.toNat) (i := i.toNat) (bud' := bud) (by omega) hb (by rw [if_neg (by omega)])
          rw [hv] at hS
          exact ih _ _ _ _ _ _ _ (by omega) ⟨by omega, by omega, by omega, by omega, by rw [List.length_set]; omega, by rw [List.length_set]; omega, p6⟩ ⟨fun M' e => hr M' (by rw [hS, ← hi1]; exact e), fun M' bud' e => hx M' bud' (by rw [hS, ← hi1]; exact e)⟩
      · have hv : refG b i.toNat (M.getD (o.toNat + i.toNat) 0) = iand .u8 (M.getD (o.toNat + i.toNat) 0) (b.getD i.toNat 0) := by rw [refG, if_neg (by omega)]; rfl
        refine chk_inB (by omega) (by omega) (chk_dec (by omega) (chk_inB (by omega) (by omega) (chk_inB (by omega) (by omega) (chk_dec (by omega) (br_dec (fun hp => ?_) (fun hp => ?_))))))
        · rw [wrap_i64 (n := bud - 1) (by omega) (by omega)]
          have hS := chg_step (g := refG b) (M := M) (o := o.toNat) (n := n.toNat) (i := i.toNat) (bud' := bud - 1) (by omega) hb (by rw [if_pos (by omega)])
          rw [hv] at hS
          exact ih _ _ _ _ _ _ _ (by omega) ⟨by omega, by omega, by omega, by omega, by rw [List.length_set]; omega, by rw [List.length_set]; omega, p6⟩ ⟨fun M' e => hr M' (by rw [hS, ← hi1]; exact e), fun M' bud' e => hx M' bud' (by rw [hS, ← hi1]; exact e)⟩
        · have hS := chg_step (g := refG b) (M := M) (o := o.toNat) (n := n.toNat) (i := i.toNat) (bud' := bud) (by omega) hb (by rw [if_neg (by omega)])
          rw [hv] at hS
          exact ih _ _ _ _ _ _ _ (by omega) ⟨by omega, by omega, by omega, by omega, by rw [List.length_set]; omega, by rw [List.length_set]; omega, p6⟩ ⟨fun M' e => hr M' (by rw [hS, ← hi1]; exact e), fun M' bud' e => hx M' bud' (by rw [hS, ← hi1]; exact e)⟩
    · obtain rfl : i = n := by omega
      exact hx M bud chg_done
theorem l34_3 : ∀ s k, L34_3 s k → Tri Proofs.Try.prog 54 (.loop (loopAt Proofs.Try.f34 3)) s k := by
  intro s k h
  unfold L34_3 at h
  split at h
  · obtain ⟨h1, h2⟩ := chk_iff.1 h
    exact iter_ok (c := c34_0) gam_ok (l := u34) a34 rfl mixed_ok (by kernel_rfl) (ls := []) rfl (.inl rfl) trivial (kps := kp34_3) (tr := tr34_3) (_) (i34_3 k _ _ _ _ _ _ _ _ (Nat.lt_succ_self _) (of_decide_eq_true h1) h2)
  · exact h.elim
theorem p34_0 (z : Int) (L : List Int) (o n bud : Int) (b : List Int) (post : AV → Option AV → Prop) (hin : InRL [.agg [.int .i64 z, .ints false .u8 L], .int .i64 o, .int .i64 n, .ints false .u8 b, .int .i64 bud]) (hie : InRO none) (h : chk (decide (0 ≤ o ∧ 0 ≤ n ∧ o + n ≤ L.length ∧ L.length ≤ 65536 ∧ (b.length = 0 ∨ n = b.length))) (post (.tup [.agg [.int .i64 z, .ints false .u8 (chg (refG b) L o.toNat n.toNat bud).l], .int .i64 (chg (refG b) L o.toNat n.toNat bud).bud, .int .i64 (chg (refG b) L o.toNat n.toNat bud).e]) none)) : Ok (runF c34 pm34 Proofs.Try.f34 [.agg [.int .i64 z, .ints false .u8 L], .int .i64 o, .int .i64 n, .ints false .u8 b, .int .i64 bud] none (post)) := by
  refine ⟨?_⟩
  rw [t34_0]
  obtain ⟨h1, h2⟩ := chk_iff.1 h
  obtain ⟨q1, q2, q3, q4, q5⟩ := of_decide_eq_true h1
  have hin' := hin
  simp only [InRL, InR] at hin'
  have hb := in_i64.1 hin'.2.2.2.2.1
  refine chk_dec (by omega) (chk_dec ⟨by omega, by omega, by omega, by omega, by omega, by omega, q5⟩ ⟨fun M' e => ?_, fun M' bud' e => ?_⟩)
  · rw [chg, show chgR (refG b) L o.toNat 0 n.toNat bud = ⟨M', 0, 16⟩ from e] at h2
    exact h2
  · rw [chg, show chgR (refG b) L o.toNat 0 n.toNat bud = ⟨M', bud', 0⟩ from e] at h2
    exact h2
theorem k34 : Keeps Proofs.Try.prog 34 S34 := by
  refine ⟨?_, Proofs.Try.f34, by kernel_rfl, by kernel_rfl, by kernel_rfl⟩
  intro args e post h
  unfold S34 at h
  split at h
  · refine Spec.inR fun hin hie => fun_ok' (c := c34) gam_ok (l := u34) a34 rfl mixed_ok (fn := Proofs.Try.f34) (show Proofs.Try.prog.funcs[34]? = some Proofs.Try.f34 by kernel_rfl) (by kernel_rfl) (ls := [(3, L34_3)]) rfl (.inr (by kernel_rfl)) ⟨l34_3, trivial⟩ (pm := pm34) (by simp [c34]) (by rintro ⟨t, l, h⟩; cases h) ?_
    exact p34_0 _ _ _ _ _ _ _ hin hie h
  · exact h.elim
def pm27 : Pm := ⟨[flS, .s, .s, .i .u8, .s], .no, [flS, .s, .s]⟩
def u27 : List (Nat × Tr) := [(26, S26), (34, S34)]
theorem a27 : AllKeep Proofs.Try.prog u27 := ⟨k26, k34, trivial⟩

def c27 : Cfg := { n := 39, Γ := Gam, C := ofL u27, pm := pmL [(26, pm26), (34, pm34)], plan := noP, L := lpL [], unroll := nmL [], keep := kpL [] }
def S27 : Tr
  | [.agg [.int .i64 z, .ints false .u8 L], .int .i64 page, .int .i64 at', .ints false .u8 b, .int .i64 bud], none, post => post (progF z L page at' b bud).V none
  | _, _, _ => False
theorem t27_0 (z : Int) (L : List Int) (page at' bud : Int) (b : List Int) (post : AV → Option AV → Prop) : runF c27 pm27 Proofs.Try.f27 [.agg [.int .i64 z, .ints false .u8 L], .int .i64 page, .int .i64 at', .ints false .u8 b, .int .i64 bud] none post = (br (areaE z L.length page at' (@Nat.cast Int _ b.length) != (0 : Int))
     (post
     (AV.tup
     [AV.agg [AV.int IntKind.i64 (0 : Int), AV.ints false IntKind.u8 []], AV.int IntKind.i64 (0 : Int),
     AV.int IntKind.i64 (areaE z L.length page at' (@Nat.cast Int _ b.length))])
     none)
     (chk
     (decide
     ((0 : Int) ≤ IntKind.i64.wrap (IntKind.i64.wrap (page * z) + at') ∧
     (0 : Int) ≤ @Nat.cast Int _ b.length ∧
     IntKind.i64.wrap (IntKind.i64.wrap (page * z) + at') + @Nat.cast Int _ b.length ≤ @Nat.cast Int _ L.length ∧
     L.length ≤ (65536 : Nat) ∧ (b.length = (0 : Nat) ∨ @Nat.cast Int _ b.length = @Nat.cast Int _ b.length)))
     (post
     (AV.tup
     [AV.agg
     [AV.int IntKind.i64 z,
     AV.ints false IntKind.u8
     (chg (refG b) L (IntKind.i64.wrap (IntKind.i64.wrap (page * z) + at')).toNat (@Nat.cast Int _ b.length).toNat
     bud).l],
     AV.int IntKind.i64
     (chg (refG b) L (IntKind.i64.wrap (IntKind.i64.wrap (page * z) + at')).toNat (@Nat.cast Int _ b.length).toNat
     bud).bud,
     AV.int IntKind.i64
     (chg (refG b) L (IntKind.i64.wrap (IntKind.i64.wrap (page * z) + at')).toNat (@Nat.cast Int _ b.length).toNat
     bud).e])
     none))) := by kernel_rfl
theorem p27_0 (z : Int) (L : List Int) (page at' bud : Int) (b : List Int) (post : AV → Option AV → Prop) (hin : InRL [.agg [.int .i64 z, .ints false .u8 L], .int .i64 page, .int .i64 at', .ints false .u8 b, .int .i64 bud]) (hie : InRO none) (h : post (progF z L page at' b bud).V none) : Ok (runF c27 pm27 Proofs.Try.f27 [.agg [.int .i64 z, .ints false .u8 L], .int .i64 page, .int .i64 at', .ints false .u8 b, .int .i64 bud] none (post)) := by
  refine ⟨?_⟩
  rw [t27_0]
  refine br_ne (fun hc => ?_) (fun hc => ?_)
  · rw [progF, if_pos hc] at h
    exact h
  · obtain ⟨g1, g2, g3, g4, g5, g6, g7, g8⟩ := area_ok hc
    obtain ⟨_, _, w3⟩ := val_len g1
    rw [progF, if_neg (fun hh => hh hc), ← chg_ref] at h
    generalize page * z = pz at *
    rw [wrap_i64 (n := pz) (by omega) (by omega), wrap_i64 (n := pz + at') (by omega) (by omega)]
    exact chk_dec ⟨by omega, by omega, by omega, by omega, .inr rfl⟩ h
theorem k27 : Keeps Proofs.Try.prog 27 S27 := by
  refine ⟨?_, Proofs.Try.f27, by kernel_rfl, by kernel_rfl, by kernel_rfl⟩
  intro args e post h
  unfold S27 at h
  split at h
  · refine Spec.inR fun hin hie => fun_ok' (c := c27) gam_ok (l := u27) a27 rfl mixed_ok (fn := Proofs.Try.f27) (show Proofs.Try.prog.funcs[27]? = some Proofs.Try.f27 by kernel_rfl) (by kernel_rfl) (ls := []) rfl (.inl rfl) trivial (pm := pm27) (by simp [c27]) (by rintro ⟨t, l, h⟩; cases h) ?_
    exact p27_0 _ _ _ _ _ _ _ hin hie h
  · exact h.elim
def pm31 : Pm := ⟨[flS, .s, .s], .no, [flS, .s, .s]⟩
def u31 : List (Nat × Tr) := [(26, S26), (34, S34)]
theorem a31 : AllKeep Proofs.Try.prog u31 := ⟨k26, k34, trivial⟩

def c31 : Cfg := { n := 29, Γ := Gam, C := ofL u31, pm := pmL [(26, pm26), (34, pm34)], plan := noP, L := lpL [], unroll := nmL [], keep := kpL [] }
def S31 : Tr
  | [.agg [.int .i64 z, .ints false .u8 L], .int .i64 page, .int .i64 bud], none, post => post (eraF z L page bud).V none
  | _, _, _ => False
theorem t31_0 (z : Int) (L : List Int) (page bud : Int) (post : AV → Option AV → Prop) : runF c31 pm31 Proofs.Try.f31 [.agg [.int .i64 z, .ints false .u8 L], .int .i64 page, .int .i64 bud] none post = (br (areaE z L.length page (0 : Int) (0 : Int) != (0 : Int))
     (post
     (AV.tup
     [AV.agg [AV.int IntKind.i64 (0 : Int), AV.ints false IntKind.u8 []], AV.int IntKind.i64 (0 : Int),
     AV.int IntKind.i64 (areaE z L.length page (0 : Int) (0 : Int))])
     none)
     (chk
     (decide
     ((0 : Int) ≤ IntKind.i64.wrap (page * z) ∧
     (0 : Int) ≤ z ∧
     IntKind.i64.wrap (page * z) + z ≤ @Nat.cast Int _ L.length ∧
     L.length ≤ (65536 : Nat) ∧ ((0 : Nat) = (0 : Nat) ∨ z = (0 : Int))))
     (post
     (AV.tup
     [AV.agg
     [AV.int IntKind.i64 z,
     AV.ints false IntKind.u8 (chg (refG []) L (IntKind.i64.wrap (page * z)).toNat z.toNat bud).l],
     AV.int IntKind.i64 (chg (refG []) L (IntKind.i64.wrap (page * z)).toNat z.toNat bud).bud,
     AV.int IntKind.i64 (chg (refG []) L (IntKind.i64.wrap (page * z)).toNat z.toNat bud).e])
     none))) := by kernel_rfl
theorem p31_0 (z : Int) (L : List Int) (page bud : Int) (post : AV → Option AV → Prop) (hin : InRL [.agg [.int .i64 z, .ints false .u8 L], .int .i64 page, .int .i64 bud]) (hie : InRO none) (h : post (eraF z L page bud).V none) : Ok (runF c31 pm31 Proofs.Try.f31 [.agg [.int .i64 z, .ints false .u8 L], .int .i64 page, .int .i64 bud] none (post)) := by
  refine ⟨?_⟩
  rw [t31_0]
  refine br_ne (fun hc => ?_) (fun hc => ?_)
  · rw [eraF, if_pos hc] at h
    exact h
  · obtain ⟨g1, g2, g3, g4, g5, g6, g7, g8⟩ := area_ok hc
    obtain ⟨_, _, w3⟩ := val_len g1
    obtain ⟨v1, v2, _⟩ := val_ok g1
    have hp := page_end g1 g2 g3
    rw [eraF, if_neg (fun hh => hh hc)] at h
    generalize page * z = pz at *
    rw [wrap_i64 (n := pz) (by omega) (by omega)]
    exact chk_dec ⟨by omega, by omega, by omega, by omega, .inl rfl⟩ h
theorem k31 : Keeps Proofs.Try.prog 31 S31 := by
  refine ⟨?_, Proofs.Try.f31, by kernel_rfl, by kernel_rfl, by kernel_rfl⟩
  intro args e post h
  unfold S31 at h
  split at h
  · refine Spec.inR fun hin hie => fun_ok' (c := c31) gam_ok (l := u31) a31 rfl mixed_ok (fn := Proofs.Try.f31) (show Proofs.Try.prog.funcs[31]? = some Proofs.Try.f31 by kernel_rfl) (by kernel_rfl) (ls := []) rfl (.inl rfl) trivial (pm := pm31) (by simp [c31]) (by rintro ⟨t, l, h⟩; cases h) ?_
    exact p31_0 _ _ _ _ _ hin hie h
  · exact h.elim
end Go.Proofs.Ytnioiijcmdnhaaa.V
