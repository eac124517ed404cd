/- Proved here: what functions of the given program come to, and the plain laws of it; no condition but those in the theorems. -/
import Derived.Test.YtfhnicamjcfddaaGreatDoorA9a
import Derived.Test.YtfhnicamjcfddaaGreatDoorPTop
import Derived.Test.YtfhnicamjcfddaaGreatDoorAbsBA
import Derived.Shelf.Sort.Plain
import Derived.Shelf.Strings.Split
import Derived.Shelf.Strings.FieldsFuncGrows
import Derived.Shelf.Strings.SlTrimAscii
import Derived.Shelf.Strconv.Atoi
import Derived.Ground.Names2Prog
import Derived.Shelf.Slices.CompactI
import Derived.Test.YtfhnicamjcfddaaGreatDoorProg
namespace Go.Proofs
open Go Go.Abs
set_option linter.unusedSimpArgs false
set_option linter.unusedVariables false
set_option maxRecDepth 20000
theorem mkUs_ok : FunB Tryz.prog 16 R_mkUs := by
  intro cs args k h
  obtain ⟨d, n, rfl, rfl, hd, hn, hk⟩ := h
  have e0 : IntKind.i64.wrap (n + 1) = n + 1 := wrap_in (by omega) (by omega)
  refine doesB_ex (qc := qc1) (np := [(7, [(2, 6), (3, 6)])]) (CK := ckK [(9, cB R_next), (31, cB R_mkU), (32, cB R_mkS)]) mixed Tryz.func16 rfl rfl Tryz.ntmps16 Tryz.results16 τ_ok (by kernel_rfl) (ckK_ok ⟨cB_ok next_ok rfl, cB_ok mkU_ok rfl, cB_ok mkS_ok rfl, trivial⟩) (by simp) rfl rfl ?_
  conv => whnf
  rw [e0]
  refine ⟨d, rfl, hd, by omega, fun k0 d hd hk1 hk2 => ?_⟩
  conv => whnf
  refine ⟨List Un × List Us × Dk × Int, fun s => ([(0, .c (.ptr (.x 0) 0)), (6, .c (.view (.l 23 0) 0 s.1.length)), (7, .c (.view (.l 29 1) 0 s.2.1.length)), (8, I s.2.2.2)], ⟨[(.x 0, .blk (dkC s.2.2.1)), (.l 23 0, .arr 99 6 (eU s.1) false), (.l 29 1, .arr 102 3 (eQ s.2.1) false)], 2, []⟩),
    fun s => s.2.2.1.ok ∧ mkUs s.1 s.2.1 ∧ 0 ≤ s.2.2.2 ∧ s.1.length + s.2.2.2 ≤ n, fun s => s.2.2.2.toNat, ([], [], d, k0),
    ⟨hd, ⟨rfl, by simp, rfl⟩, by dsimp only; omega, by dsimp only; simp; omega⟩,
    Shift.trans (Shift.rename [] ⟨rfl, rfl, rfl, rfl, trivial⟩ ⟨rfl, rfl, rfl, trivial⟩ rfl rfl rfl) (Shift.trans (Shift.nilArr (t := 7) rfl 29 102 3) (Shift.nilArr (t := 6) rfl 23 99 6)), fun s hs => ?_⟩
  obtain ⟨gs, ss, d, kk⟩ := s
  obtain ⟨hd, hg, hk3, hk4⟩ := hs
  dsimp only at hd hg hk3 hk4 ⊢
  have hm := eU_len gs
  have hm2 := eQ_len ss
  have hgl := hg.l
  conv => whnf
  refine Fork.mk (fun h => ?_) (fun h => ?_)
  · have hkk : 0 < kk := by simpa using h
    conv => whnf
    refine ⟨d, rfl, rfl, hd, fun g d hd hmg => ?_⟩
    conv => whnf
    refine ⟨by simp, ?_⟩
    conv => whnf
    refine ⟨rfl, ?_⟩
    conv => whnf
    refine ⟨⟨rfl, rfl, rfl, hm.symm, by rw [hm]; simp; omega⟩, ?_⟩
    conv => whnf
    refine ⟨d, g, rfl, rfl, hd, hmg, fun z d hd hz => ?_⟩
    conv => whnf
    refine ⟨by simp, ?_⟩
    conv => whnf
    refine ⟨rfl, ?_⟩
    conv => whnf
    refine ⟨⟨rfl, rfl, rfl, hm2.symm, by rw [hm2]; simp; omega⟩, ?_⟩
    conv => whnf
    rw [show IntKind.i64.wrap (kk - 1) = kk - 1 from wrap_in (by omega) (by omega)]
    refine ⟨(gs ++ [g], ss ++ [z], d, kk - 1), ⟨hd, hg.snoc hmg hz, by dsimp only; omega, by dsimp only; simp; omega⟩, Shift.rename [(.l 23 0, .l 23 3), (.l 29 1, .l 29 3)] ⟨rfl, ?_, ?_, rfl, trivial⟩ ⟨rfl, ?_, ?_, trivial⟩ rfl rfl rfl, ?_⟩
    · dsimp only; rw [List.length_append, ← hm]; rfl
    · dsimp only; rw [List.length_append, ← hm2]; rfl
    · dsimp only; rw [show eU (gs ++ [g]) = eU gs ++ [unC g] from List.map_append]; rfl
    · dsimp only; rw [show eQ (ss ++ [z]) = eQ ss ++ [usC z] from List.map_append]; rfl
    · show (kk - 1).toNat < kk.toNat
      omega
  have hkk : ¬ 0 < kk := by simpa using h
  have htl1 : List.take gs.length (List.drop 0 (eU gs)) = eU gs := by rw [List.drop_zero, List.take_of_length_le (by omega)]
  have htl2 : List.take ss.length (List.drop 0 (eQ ss)) = eQ ss := by rw [List.drop_zero, List.take_of_length_le (by omega)]
  conv => whnf
  refine ⟨by omega, ?_⟩
  conv => whnf
  refine ⟨by omega, ?_⟩
  conv => whnf
  rw [htl1, htl2]
  exact ⟨rfl, rfl, hk gs ss d hd (by omega) hg⟩
theorem mkDm_ok : FunB Tryz.prog 5 R_mkDm := by
  intro cs args k h
  obtain ⟨d, rfl, rfl, hd, hk⟩ := h
  refine doesB_ex (qc := qc1) (np := [(8, [(1, 2)])]) (CK := ckK [(15, cB R_resv), (9, cB R_next), (16, cB R_mkUs), (17, cB R_mkGs), (18, cSc (R_rs1 volS))]) mixed Tryz.func5 rfl rfl Tryz.ntmps5 Tryz.results5 τ_ok (by kernel_rfl) (ckK_ok ⟨cB_ok resv_ok rfl, cB_ok next_ok rfl, cB_ok mkUs_ok rfl, cB_ok mkGs_ok rfl, cSc_ok rvolS_ok, trivial⟩) (by simp) rfl rfl ?_
  conv => whnf
  refine ⟨d, rfl, hd, fun r d hd hr hrl => ?_⟩
  conv => whnf
  refine ⟨d, rfl, hd, by omega, fun g d hd hg1 hg2 => ?_⟩
  have e1 : IntKind.i64.wrap (1 + g) = 1 + g := wrap_in (by omega) (by omega)
  conv => whnf
  rw [e1]
  refine ⟨d, 2, rfl, rfl, hd, by omega, fun us ss d hd hul hu => ?_⟩
  conv => whnf
  refine ⟨d, 2, rfl, rfl, hd, by omega, fun gs zs d hd hgl hgs => ?_⟩
  obtain ⟨k1, k2, k3, k4, k5⟩ := ckS_ok hr.ck
  have hci := crest_in hr.ck
  have hvc := valC_in k1 r.crest
  have v1 : volS ⟨r.st, r.dead, r.low, r.full, r.sur, r.crest⟩ r.crest = (valC r.st r.crest, 0) := volS_of hr.ck (by omega)
  conv => whnf
  refine ⟨r.st, rfl, by omega, ?_⟩
  rw [v1]
  dsimp only
  have e2 : IntKind.i64.wrap (valC r.st r.crest + 1) = valC r.st r.crest + 1 := wrap_in (by omega) (by omega)
  conv => whnf
  rw [e2]
  refine ⟨d, rfl, hd, by omega, fun v d hd hv1 hv2 => ?_⟩
  conv => whnf
  refine ⟨d, rfl, hd, by omega, fun rl d hd hr1 hr2 => ?_⟩
  conv => whnf
  exact ⟨rfl, rfl, hk ⟨r, us, gs, 1 + g⟩ ⟨v, rl, ss, zs⟩ d hd (mkDm.of hr hrl (by dsimp only; omega) hu hul hgs hgl (by dsimp only; omega) (by dsimp only; omega))⟩
end Go.Proofs


/- Choices of flows, and what a plan of units may be. No program. -/
namespace Go.Abs
section
variable {P : Program} {qc : Nat → Bool}
def cOr (K1 K2 : KT) : KT := fun args d m k => K1 args d m k ∨ K2 args d m k
theorem cOr_ok {f : Nat} {K1 K2 : KT} (h1 : KOk P qc f K1) (h2 : KOk P qc f K2) : KOk P qc f (cOr K1 K2) := fun args d m k h => h.elim (h1 args d m k) (h2 args d m k)
end
end Go.Abs
namespace Go.Proofs
open Go Go.Abs
set_option linter.unusedSimpArgs false
set_option linter.unusedVariables false
theorem fork_t' {b : Bool} {A B : Prop} (hb : b = true) (h : A) : Fork b A B := ⟨fun _ => h, fun e => by rw [hb] at e; cases e⟩
theorem fork_f' {b : Bool} {A B : Prop} (hb : b = false) (h : B) : Fork b A B := ⟨fun e => (by rw [hb] at e; cases e), fun _ => h⟩
def R_flA (n : Nat) : RA := fun args k => ∃ (u : Un) (q : Int), args = [.agg (unC u), I q] ∧ u.fin ∧ (flS u q).2 = 0 ∧ k (.tup [.c (.view (.x 0) 0 (flS u q).1.length), I 0]) (.arr n 1 (eL (flS u q).1) false)
/-- A choice: flow, power, starts. -/
structure Ch where
  q : Int
  p : Int
  s : Int
def chC (c : Ch) : List Cell := [IC c.q, IC c.p, IC c.s]
abbrev eC (l : List Ch) : List (List Cell) := l.map chC
theorem eC_len (l : List Ch) : (eC l).length = l.length := List.length_map _
def chF (u : Un) (z : Us) (q : Int) : Ch := ⟨q, (powS u q).1, if 0 < q ∧ z.fl = 0 then 1 else 0⟩
def chL (u : Un) (z : Us) (l : Ls) : List Ch := (l.filter (mayV u z)).map (chF u z)
def lcC (l : List Ch) : List Cell := [.lst (eC l)]
abbrev eK (l : List (List Ch)) : List (List Cell) := l.map lcC
theorem eK_len (l : List (List Ch)) : (eK l).length = l.length := List.length_map _
def chOk (u : Un) (z : Us) (l : List Ch) : Prop := l.length ≤ 202 ∧ ∀ c ∈ l, mayV u z c.q = true
def R_chs : RT := fun args k => ∃ (u : Un) (z : Us) (g : Int), args = [.agg (unC u), .agg (usC z), I g] ∧ u.fin ∧ validB u z = true ∧ (k (.tup [.c (.lst []), Bo false])) ∧ ∀ l, chOk u z l → k (.tup [.c (.lst (eC l)), Bo true])
/-- For each unit its choices. -/
def staOk (us : List Un) (ss : List Us) (L : List (List Ch)) : Prop := L.length = us.length ∧ ∀ (i : Nat) u z l, us[i]? = some u → ss[i]? = some z → L[i]? = some l → chOk u z l
def staIn (us : List Un) (ss : List Us) (g r : Int) : Prop := us.length ≤ 6 ∧ us.length = ss.length ∧ usB us ss = true ∧ (∀ u ∈ us, u.fin) ∧ (1 ≤ g ∧ g ≤ 1073741824) ∧ (0 ≤ r ∧ r ≤ 1073741824) ∧ r ≤ 200 * g
def R_sta : RT := fun args k => ∃ (us : List Un) (ss : List Us) (g r : Int), args = [.c (.lst (eU us)), .c (.lst (eQ ss)), I g, I r] ∧ staIn us ss g r ∧ k (.tup [.c (.lst []), I 10]) ∧ ∀ L, staOk us ss L → k (.tup [.c (.lst (eK L)), I 0])
theorem flS_len {u : Un} {g : Int} : (flS u g).1.length ≤ 200 := by
  unfold flS
  split
  · simp
  · split
    · simp
    · split
      · simp
      · dsimp only; omega
end Go.Proofs

/-
  DERIVED: THE SHELF's CONTRACTS AT THIS DUMP, IN PLAIN WORDS (tools/lay-plain.mjs out of 'ShlfZ.lean', which tools/lay-shelf.mjs wrote): THE SAME DECLARATIONS UNDER THE SAME NAMES: 'import', 'namespace', 'open', 'def', 'theorem' AND NOTHING ELSE: no command of the shelf's: FOR A HAND-IN. Each laying: the table of numbers ('.._ren') and one theorem, a field a fact of the dump's own or the kernel's comparison; each contract: ONE APPLICATION.
-/
namespace Go.Proofs
open Go.Shelf
def Tryz.lays189_ren : Go.Shelf.Ren := ⟨fun | 189 => 138 | 125 => 156 | 257 => 155 | 128 => 179 | 129 => 180 | 294 => 170 | 295 => 171 | 296 => 172 | 297 => 173 | 298 => 174 | 299 => 175 | 216 => 176 | 300 => 177 | 301 => 178 | 328 => 189 | 329 => 190 | 330 => 191 | 331 => 192 | 332 => 193 | 215 => 154 | 343 => 196 | n => n, fun | 28 => 22 | 3 => 3 | 46 => 232 | 0 => 0 | 51 => 270 | 53 => 252 | 4 => 4 | 183 => 264 | 182 => 263 | 131 => 167 | 5 => 5 | 9 => 9 | 218 => 284 | 222 => 288 | 228 => 291 | 229 => 292 | n => n, fun | n => n⟩
theorem Tryz.lays189 : Go.Proofs.Lays.n189 Tryz.prog Tryz.lays189_ren := {
  mixed := by kernel_rfl
  f125 := Tryz.func156.trans (congrArg some (by kernel_rfl))
  f128 := Tryz.func179.trans (congrArg some (by kernel_rfl))
  f129 := Tryz.func180.trans (congrArg some (by kernel_rfl))
  f189 := Tryz.func138.trans (congrArg some (by kernel_rfl))
  f215 := Tryz.func154.trans (congrArg some (by kernel_rfl))
  f216 := Tryz.func176.trans (congrArg some (by kernel_rfl))
  f257 := Tryz.func155.trans (congrArg some (by kernel_rfl))
  f294 := Tryz.func170.trans (congrArg some (by kernel_rfl))
  f295 := Tryz.func171.trans (congrArg some (by kernel_rfl))
  f296 := Tryz.func172.trans (congrArg some (by kernel_rfl))
  f297 := Tryz.func173.trans (congrArg some (by kernel_rfl))
  f298 := Tryz.func174.trans (congrArg some (by kernel_rfl))
  f299 := Tryz.func175.trans (congrArg some (by kernel_rfl))
  f300 := Tryz.func177.trans (congrArg some (by kernel_rfl))
  f301 := Tryz.func178.trans (congrArg some (by kernel_rfl))
  f328 := Tryz.func189.trans (congrArg some (by kernel_rfl))
  f329 := Tryz.func190.trans (congrArg some (by kernel_rfl))
  f330 := Tryz.func191.trans (congrArg some (by kernel_rfl))
  f331 := Tryz.func192.trans (congrArg some (by kernel_rfl))
  f332 := Tryz.func193.trans (congrArg some (by kernel_rfl))
  f343 := Tryz.func196.trans (congrArg some (by kernel_rfl))
  t0 := Tryz.underlying0
  a0 := Tryz.isAgg0
  z0 := Tryz.sizeOf0
  v0 := Tryz.zeroValue0
  t3 := Tryz.underlying3
  a3 := Tryz.isAgg3
  z3 := Tryz.sizeOf3
  v3 := Tryz.zeroValue3
  t4 := Tryz.underlying4
  a4 := Tryz.isAgg4
  z4 := Tryz.sizeOf4
  v4 := Tryz.zeroValue4
  t5 := Tryz.underlying5
  a5 := Tryz.isAgg5
  z5 := Tryz.sizeOf5
  v5 := Tryz.zeroValue5
  t9 := Tryz.underlying9
  a9 := Tryz.isAgg9
  z9 := Tryz.sizeOf9
  v9 := Tryz.zeroValue9
  t28 := Tryz.underlying22
  a28 := Tryz.isAgg22
  z28 := Tryz.sizeOf22
  v28 := Tryz.zeroValue22
  t46 := Tryz.underlying232
  a46 := Tryz.isAgg232
  z46 := Tryz.sizeOf232
  v46 := Tryz.zeroValue232
  t51 := Tryz.underlying270
  a51 := Tryz.isAgg270
  z51 := Tryz.sizeOf270
  v51 := Tryz.zeroValue270
  t53 := Tryz.underlying252
  a53 := Tryz.isAgg252
  z53 := Tryz.sizeOf252
  v53 := Tryz.zeroValue252
  t131 := Tryz.underlying167
  a131 := Tryz.isAgg167
  z131 := Tryz.sizeOf167
  v131 := Tryz.zeroValue167
  t182 := Tryz.underlying263
  a182 := Tryz.isAgg263
  z182 := Tryz.sizeOf263
  v182 := Tryz.zeroValue263
  t183 := Tryz.underlying264
  a183 := Tryz.isAgg264
  z183 := Tryz.sizeOf264
  v183 := Tryz.zeroValue264
  t218 := Tryz.underlying284
  a218 := Tryz.isAgg284
  z218 := Tryz.sizeOf284
  v218 := Tryz.zeroValue284
  t222 := Tryz.underlying288
  a222 := Tryz.isAgg288
  z222 := Tryz.sizeOf288
  v222 := Tryz.zeroValue288
  t228 := Tryz.underlying291
  a228 := Tryz.isAgg291
  z228 := Tryz.sizeOf291
  v228 := Tryz.zeroValue291
  t229 := Tryz.underlying292
  a229 := Tryz.isAgg292
  z229 := Tryz.sizeOf292
  v229 := Tryz.zeroValue292 }
def Tryz.lays146_ren : Go.Shelf.Ren := ⟨fun | 146 => 68 | 221 => 100 | 268 => 120 | 138 => 121 | 143 => 122 | 195 => 141 | 197 => 142 | 218 => 143 | 219 => 144 | 260 => 157 | 217 => 158 | 225 => 159 | 224 => 160 | 267 => 161 | 266 => 181 | 314 => 182 | n => n, fun | 9 => 9 | 31 => 119 | 3 => 3 | 4 => 4 | 0 => 0 | 105 => 236 | 21 => 21 | 5 => 5 | 46 => 232 | 119 => 272 | 139 => 275 | 138 => 274 | 146 => 276 | 51 => 270 | n => n, fun | 1 => 2 | 3 => 5 | 4 => 6 | n => n⟩
theorem Tryz.lays146 : Go.Proofs.Lays.n146 Tryz.prog Tryz.lays146_ren := {
  mixed := by kernel_rfl
  f138 := Tryz.func121.trans (congrArg some (by kernel_rfl))
  f143 := Tryz.func122.trans (congrArg some (by kernel_rfl))
  f146 := Tryz.func68.trans (congrArg some (by kernel_rfl))
  f195 := Tryz.func141.trans (congrArg some (by kernel_rfl))
  f197 := Tryz.func142.trans (congrArg some (by kernel_rfl))
  f217 := Tryz.func158.trans (congrArg some (by kernel_rfl))
  f218 := Tryz.func143.trans (congrArg some (by kernel_rfl))
  f219 := Tryz.func144.trans (congrArg some (by kernel_rfl))
  f221 := Tryz.func100.trans (congrArg some (by kernel_rfl))
  f224 := Tryz.func160.trans (congrArg some (by kernel_rfl))
  f225 := Tryz.func159.trans (congrArg some (by kernel_rfl))
  f260 := Tryz.func157.trans (congrArg some (by kernel_rfl))
  f266 := Tryz.func181.trans (congrArg some (by kernel_rfl))
  f267 := Tryz.func161.trans (congrArg some (by kernel_rfl))
  f268 := Tryz.func120.trans (congrArg some (by kernel_rfl))
  f314 := Tryz.func182.trans (congrArg some (by kernel_rfl))
  t0 := Tryz.underlying0
  a0 := Tryz.isAgg0
  z0 := Tryz.sizeOf0
  v0 := Tryz.zeroValue0
  t3 := Tryz.underlying3
  a3 := Tryz.isAgg3
  z3 := Tryz.sizeOf3
  v3 := Tryz.zeroValue3
  t4 := Tryz.underlying4
  a4 := Tryz.isAgg4
  z4 := Tryz.sizeOf4
  v4 := Tryz.zeroValue4
  t5 := Tryz.underlying5
  a5 := Tryz.isAgg5
  z5 := Tryz.sizeOf5
  v5 := Tryz.zeroValue5
  t9 := Tryz.underlying9
  a9 := Tryz.isAgg9
  z9 := Tryz.sizeOf9
  v9 := Tryz.zeroValue9
  t21 := Tryz.underlying21
  a21 := Tryz.isAgg21
  z21 := Tryz.sizeOf21
  v21 := Tryz.zeroValue21
  t31 := Tryz.underlying119
  a31 := Tryz.isAgg119
  z31 := Tryz.sizeOf119
  v31 := Tryz.zeroValue119
  t46 := Tryz.underlying232
  a46 := Tryz.isAgg232
  z46 := Tryz.sizeOf232
  v46 := Tryz.zeroValue232
  t51 := Tryz.underlying270
  a51 := Tryz.isAgg270
  z51 := Tryz.sizeOf270
  v51 := Tryz.zeroValue270
  t105 := Tryz.underlying236
  a105 := Tryz.isAgg236
  z105 := Tryz.sizeOf236
  v105 := Tryz.zeroValue236
  t119 := Tryz.underlying272
  a119 := Tryz.isAgg272
  z119 := Tryz.sizeOf272
  t138 := Tryz.underlying274
  a138 := Tryz.isAgg274
  z138 := Tryz.sizeOf274
  v138 := Tryz.zeroValue274
  t139 := Tryz.underlying275
  a139 := Tryz.isAgg275
  z139 := Tryz.sizeOf275
  v139 := Tryz.zeroValue275
  t146 := Tryz.underlying276
  a146 := Tryz.isAgg276
  z146 := Tryz.sizeOf276
  v146 := Tryz.zeroValue276
  g1 := by kernel_rfl
  g3 := by kernel_rfl
  g4 := by kernel_rfl }
def Tryz.lays229_ren : Go.Shelf.Ren := ⟨fun | 229 => 101 | n => n, fun | 9 => 9 | 40 => 196 | 31 => 119 | 152 => 215 | 3 => 3 | 0 => 0 | 4 => 4 | 21 => 21 | 154 => 217 | n => n, fun | n => n⟩
theorem Tryz.lays229 : Go.Proofs.Lays.n229 Tryz.prog Tryz.lays229_ren := {
  mixed := by kernel_rfl
  f229 := Tryz.func101.trans (congrArg some (by kernel_rfl))
  t0 := Tryz.underlying0
  a0 := Tryz.isAgg0
  z0 := Tryz.sizeOf0
  v0 := Tryz.zeroValue0
  t3 := Tryz.underlying3
  a3 := Tryz.isAgg3
  z3 := Tryz.sizeOf3
  v3 := Tryz.zeroValue3
  t4 := Tryz.underlying4
  a4 := Tryz.isAgg4
  z4 := Tryz.sizeOf4
  v4 := Tryz.zeroValue4
  t9 := Tryz.underlying9
  a9 := Tryz.isAgg9
  z9 := Tryz.sizeOf9
  v9 := Tryz.zeroValue9
  t21 := Tryz.underlying21
  a21 := Tryz.isAgg21
  z21 := Tryz.sizeOf21
  v21 := Tryz.zeroValue21
  t31 := Tryz.underlying119
  a31 := Tryz.isAgg119
  z31 := Tryz.sizeOf119
  v31 := Tryz.zeroValue119
  t40 := Tryz.underlying196
  a40 := Tryz.isAgg196
  z40 := Tryz.sizeOf196
  v40 := Tryz.zeroValue196
  t152 := Tryz.underlying215
  a152 := Tryz.isAgg215
  z152 := Tryz.sizeOf215
  v152 := Tryz.zeroValue215
  t154 := Tryz.underlying217
  a154 := Tryz.isAgg217
  z154 := Tryz.sizeOf217
  v154 := Tryz.zeroValue217 }
def Tryz.laysNm220_ren : Go.Shelf.Ren := ⟨fun | 20 => 139 | n => n, fun | 22 => 22 | 3 => 3 | 4 => 4 | 0 => 0 | n => n, fun | n => n⟩
theorem Tryz.laysNm220 : Go.Proofs.Lays2.n20 Tryz.prog Tryz.laysNm220_ren := {
  mixed := by kernel_rfl
  f20 := Tryz.func139.trans (congrArg some (by kernel_rfl))
  t0 := Tryz.underlying0
  a0 := Tryz.isAgg0
  z0 := Tryz.sizeOf0
  v0 := Tryz.zeroValue0
  t3 := Tryz.underlying3
  a3 := Tryz.isAgg3
  z3 := Tryz.sizeOf3
  v3 := Tryz.zeroValue3
  t4 := Tryz.underlying4
  a4 := Tryz.isAgg4
  z4 := Tryz.sizeOf4
  v4 := Tryz.zeroValue4
  t22 := Tryz.underlying22
  a22 := Tryz.isAgg22
  z22 := Tryz.sizeOf22
  v22 := Tryz.zeroValue22
  i3 := by kernel_rfl }
def Tryz.lays160_ren : Go.Shelf.Ren := ⟨fun | 160 => 103 | 232 => 124 | 231 => 123 | 227 => 125 | 234 => 127 | 233 => 126 | 236 => 129 | 235 => 128 | 228 => 145 | 271 => 147 | 151 => 146 | 197 => 142 | 120 => 163 | 152 => 162 | 260 => 157 | 137 => 183 | 119 => 184 | 224 => 160 | 225 => 159 | 217 => 158 | 266 => 181 | n => n, fun | 9 => 9 | 4 => 4 | 3 => 3 | 5 => 5 | 117 => 221 | 116 => 220 | 0 => 0 | 124 => 224 | 21 => 21 | 105 => 236 | 46 => 232 | 119 => 272 | 139 => 275 | 138 => 274 | n => n, fun | 3 => 5 | 4 => 6 | n => n⟩
theorem Tryz.lays160 : Go.Proofs.Lays.n160 Tryz.prog Tryz.lays160_ren := {
  mixed := by kernel_rfl
  f119 := Tryz.func184.trans (congrArg some (by kernel_rfl))
  f120 := Tryz.func163.trans (congrArg some (by kernel_rfl))
  f137 := Tryz.func183.trans (congrArg some (by kernel_rfl))
  f151 := Tryz.func146.trans (congrArg some (by kernel_rfl))
  f152 := Tryz.func162.trans (congrArg some (by kernel_rfl))
  f160 := Tryz.func103.trans (congrArg some (by kernel_rfl))
  f197 := Tryz.func142.trans (congrArg some (by kernel_rfl))
  f217 := Tryz.func158.trans (congrArg some (by kernel_rfl))
  f224 := Tryz.func160.trans (congrArg some (by kernel_rfl))
  f225 := Tryz.func159.trans (congrArg some (by kernel_rfl))
  f227 := Tryz.func125.trans (congrArg some (by kernel_rfl))
  f228 := Tryz.func145.trans (congrArg some (by kernel_rfl))
  f231 := Tryz.func123.trans (congrArg some (by kernel_rfl))
  f232 := Tryz.func124.trans (congrArg some (by kernel_rfl))
  f233 := Tryz.func126.trans (congrArg some (by kernel_rfl))
  f234 := Tryz.func127.trans (congrArg some (by kernel_rfl))
  f235 := Tryz.func128.trans (congrArg some (by kernel_rfl))
  f236 := Tryz.func129.trans (congrArg some (by kernel_rfl))
  f260 := Tryz.func157.trans (congrArg some (by kernel_rfl))
  f266 := Tryz.func181.trans (congrArg some (by kernel_rfl))
  f271 := Tryz.func147.trans (congrArg some (by kernel_rfl))
  t0 := Tryz.underlying0
  a0 := Tryz.isAgg0
  z0 := Tryz.sizeOf0
  v0 := Tryz.zeroValue0
  t3 := Tryz.underlying3
  a3 := Tryz.isAgg3
  z3 := Tryz.sizeOf3
  v3 := Tryz.zeroValue3
  t4 := Tryz.underlying4
  a4 := Tryz.isAgg4
  z4 := Tryz.sizeOf4
  v4 := Tryz.zeroValue4
  t5 := Tryz.underlying5
  a5 := Tryz.isAgg5
  z5 := Tryz.sizeOf5
  v5 := Tryz.zeroValue5
  t9 := Tryz.underlying9
  a9 := Tryz.isAgg9
  z9 := Tryz.sizeOf9
  v9 := Tryz.zeroValue9
  t21 := Tryz.underlying21
  a21 := Tryz.isAgg21
  z21 := Tryz.sizeOf21
  v21 := Tryz.zeroValue21
  t46 := Tryz.underlying232
  a46 := Tryz.isAgg232
  z46 := Tryz.sizeOf232
  v46 := Tryz.zeroValue232
  t105 := Tryz.underlying236
  a105 := Tryz.isAgg236
  z105 := Tryz.sizeOf236
  v105 := Tryz.zeroValue236
  t116 := Tryz.underlying220
  a116 := Tryz.isAgg220
  z116 := Tryz.sizeOf220
  t117 := Tryz.underlying221
  a117 := Tryz.isAgg221
  z117 := Tryz.sizeOf221
  v117 := Tryz.zeroValue221
  t119 := Tryz.underlying272
  a119 := Tryz.isAgg272
  z119 := Tryz.sizeOf272
  t124 := Tryz.underlying224
  a124 := Tryz.isAgg224
  z124 := Tryz.sizeOf224
  v124 := Tryz.zeroValue224
  t138 := Tryz.underlying274
  a138 := Tryz.isAgg274
  z138 := Tryz.sizeOf274
  v138 := Tryz.zeroValue274
  t139 := Tryz.underlying275
  a139 := Tryz.isAgg275
  z139 := Tryz.sizeOf275
  v139 := Tryz.zeroValue275
  g3 := by kernel_rfl
  g4 := by kernel_rfl }
def Tryz.lays172_ren : Go.Shelf.Ren := ⟨fun | 172 => 104 | 244 => 130 | 245 => 131 | 247 => 148 | 279 => 149 | 280 => 150 | 281 => 151 | 282 => 152 | 287 => 164 | 316 => 165 | 171 => 167 | 205 => 166 | 321 => 185 | 322 => 186 | 243 => 187 | 246 => 194 | 283 => 197 | 284 => 198 | 285 => 199 | 286 => 200 | 129 => 180 | 317 => 201 | 318 => 202 | 319 => 203 | 320 => 204 | 337 => 205 | 338 => 206 | n => n, fun | 9 => 9 | 3 => 3 | 75 => 199 | 76 => 200 | 4 => 4 | 5 => 5 | 167 => 241 | 37 => 242 | 0 => 0 | 85 => 243 | 2 => 2 | 168 => 245 | 53 => 252 | 175 => 253 | 46 => 232 | 210 => 257 | 127 => 280 | 145 => 283 | 143 => 281 | 21 => 21 | 171 => 294 | 173 => 296 | 212 => 299 | 51 => 270 | 20 => 20 | 213 => 300 | 232 => 301 | 233 => 302 | 80 => 154 | n => n, fun | 15 => 3 | 16 => 4 | 17 => 7 | 18 => 8 | 19 => 9 | n => n⟩
theorem Tryz.lays172 : Go.Proofs.Lays.n172 Tryz.prog Tryz.lays172_ren := {
  mixed := by kernel_rfl
  f129 := Tryz.func180.trans (congrArg some (by kernel_rfl))
  f171 := Tryz.func167.trans (congrArg some (by kernel_rfl))
  f172 := Tryz.func104.trans (congrArg some (by kernel_rfl))
  f205 := Tryz.func166.trans (congrArg some (by kernel_rfl))
  f243 := Tryz.func187.trans (congrArg some (by kernel_rfl))
  f244 := Tryz.func130.trans (congrArg some (by kernel_rfl))
  f245 := Tryz.func131.trans (congrArg some (by kernel_rfl))
  f246 := Tryz.func194.trans (congrArg some (by kernel_rfl))
  f247 := Tryz.func148.trans (congrArg some (by kernel_rfl))
  f279 := Tryz.func149.trans (congrArg some (by kernel_rfl))
  f280 := Tryz.func150.trans (congrArg some (by kernel_rfl))
  f281 := Tryz.func151.trans (congrArg some (by kernel_rfl))
  f282 := Tryz.func152.trans (congrArg some (by kernel_rfl))
  f283 := Tryz.func197.trans (congrArg some (by kernel_rfl))
  f284 := Tryz.func198.trans (congrArg some (by kernel_rfl))
  f285 := Tryz.func199.trans (congrArg some (by kernel_rfl))
  f286 := Tryz.func200.trans (congrArg some (by kernel_rfl))
  f287 := Tryz.func164.trans (congrArg some (by kernel_rfl))
  f316 := Tryz.func165.trans (congrArg some (by kernel_rfl))
  f317 := Tryz.func201.trans (congrArg some (by kernel_rfl))
  f318 := Tryz.func202.trans (congrArg some (by kernel_rfl))
  f319 := Tryz.func203.trans (congrArg some (by kernel_rfl))
  f320 := Tryz.func204.trans (congrArg some (by kernel_rfl))
  f321 := Tryz.func185.trans (congrArg some (by kernel_rfl))
  f322 := Tryz.func186.trans (congrArg some (by kernel_rfl))
  f337 := Tryz.func205.trans (congrArg some (by kernel_rfl))
  f338 := Tryz.func206.trans (congrArg some (by kernel_rfl))
  t0 := Tryz.underlying0
  a0 := Tryz.isAgg0
  z0 := Tryz.sizeOf0
  v0 := Tryz.zeroValue0
  t2 := Tryz.underlying2
  a2 := Tryz.isAgg2
  z2 := Tryz.sizeOf2
  v2 := Tryz.zeroValue2
  t3 := Tryz.underlying3
  a3 := Tryz.isAgg3
  z3 := Tryz.sizeOf3
  v3 := Tryz.zeroValue3
  t4 := Tryz.underlying4
  a4 := Tryz.isAgg4
  z4 := Tryz.sizeOf4
  v4 := Tryz.zeroValue4
  t5 := Tryz.underlying5
  a5 := Tryz.isAgg5
  z5 := Tryz.sizeOf5
  v5 := Tryz.zeroValue5
  t9 := Tryz.underlying9
  a9 := Tryz.isAgg9
  z9 := Tryz.sizeOf9
  v9 := Tryz.zeroValue9
  t20 := Tryz.underlying20
  a20 := Tryz.isAgg20
  z20 := Tryz.sizeOf20
  v20 := Tryz.zeroValue20
  t21 := Tryz.underlying21
  a21 := Tryz.isAgg21
  z21 := Tryz.sizeOf21
  v21 := Tryz.zeroValue21
  t37 := Tryz.underlying242
  a37 := Tryz.isAgg242
  z37 := Tryz.sizeOf242
  v37 := Tryz.zeroValue242
  t46 := Tryz.underlying232
  a46 := Tryz.isAgg232
  z46 := Tryz.sizeOf232
  v46 := Tryz.zeroValue232
  t51 := Tryz.underlying270
  a51 := Tryz.isAgg270
  z51 := Tryz.sizeOf270
  v51 := Tryz.zeroValue270
  t53 := Tryz.underlying252
  a53 := Tryz.isAgg252
  z53 := Tryz.sizeOf252
  v53 := Tryz.zeroValue252
  t75 := Tryz.underlying199
  a75 := Tryz.isAgg199
  z75 := Tryz.sizeOf199
  v75 := Tryz.zeroValue199
  t76 := Tryz.underlying200
  a76 := Tryz.isAgg200
  z76 := Tryz.sizeOf200
  v76 := Tryz.zeroValue200
  t85 := Tryz.underlying243
  a85 := Tryz.isAgg243
  z85 := Tryz.sizeOf243
  v85 := Tryz.zeroValue243
  t127 := Tryz.underlying280
  a127 := Tryz.isAgg280
  z127 := Tryz.sizeOf280
  v127 := Tryz.zeroValue280
  t143 := Tryz.underlying281
  a143 := Tryz.isAgg281
  z143 := Tryz.sizeOf281
  v143 := Tryz.zeroValue281
  t145 := Tryz.underlying283
  a145 := Tryz.isAgg283
  z145 := Tryz.sizeOf283
  v145 := Tryz.zeroValue283
  t167 := Tryz.underlying241
  a167 := Tryz.isAgg241
  z167 := Tryz.sizeOf241
  v167 := Tryz.zeroValue241
  t168 := Tryz.underlying245
  a168 := Tryz.isAgg245
  z168 := Tryz.sizeOf245
  v168 := Tryz.zeroValue245
  t171 := Tryz.underlying294
  a171 := Tryz.isAgg294
  z171 := Tryz.sizeOf294
  v171 := Tryz.zeroValue294
  t173 := Tryz.underlying296
  a173 := Tryz.isAgg296
  z173 := Tryz.sizeOf296
  v173 := Tryz.zeroValue296
  t175 := Tryz.underlying253
  a175 := Tryz.isAgg253
  z175 := Tryz.sizeOf253
  v175 := Tryz.zeroValue253
  t210 := Tryz.underlying257
  a210 := Tryz.isAgg257
  z210 := Tryz.sizeOf257
  v210 := Tryz.zeroValue257
  t212 := Tryz.underlying299
  a212 := Tryz.isAgg299
  z212 := Tryz.sizeOf299
  v212 := Tryz.zeroValue299
  t213 := Tryz.underlying300
  a213 := Tryz.isAgg300
  z213 := Tryz.sizeOf300
  t232 := Tryz.underlying301
  a232 := Tryz.isAgg301
  z232 := Tryz.sizeOf301
  v232 := Tryz.zeroValue301
  t233 := Tryz.underlying302
  a233 := Tryz.isAgg302
  z233 := Tryz.sizeOf302
  v233 := Tryz.zeroValue302
  g15 := by kernel_rfl
  g16 := by kernel_rfl
  g17 := by kernel_rfl
  g18 := by kernel_rfl
  g19 := by kernel_rfl }
end Go.Proofs
