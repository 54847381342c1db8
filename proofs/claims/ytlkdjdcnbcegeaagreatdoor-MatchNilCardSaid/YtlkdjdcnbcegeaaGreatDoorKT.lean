/-
  Where strconv.Atoi and toError stand in the program.
-/
import Derived.Test.YtlkdjdcnbcegeaaGreatDoorProg
import Derived.Shelf.Strconv.ErrVarAll
import Derived.KernelRfl
import Derived.Test.YtlkdjdcnbcegeaaGreatDoorKC
import Derived.Lib.IfaceNeq
/-! Where strconv.Atoi and toError stand in the program. -/
namespace Go.Proofs.YtlkdjdcnbcegeaaGreatDoor
open Go.Shelf
def lays172c_ren : Go.Shelf.Ren := ⟨fun | 172 => 84 | 244 => 111 | 245 => 112 | 247 => 115 | 279 => 129 | 280 => 130 | 281 => 131 | 282 => 132 | 287 => 134 | 316 => 149 | 171 => 85 | 205 => 150 | 321 => 155 | 322 => 156 | 243 => 113 | 246 => 133 | 283 => 151 | 284 => 152 | 285 => 153 | 286 => 154 | 129 => 104 | 317 => 165 | 318 => 166 | 319 => 167 | 320 => 168 | 337 => 173 | 338 => 174 | n => n, fun | 9 => 9 | 3 => 3 | 75 => 131 | 76 => 132 | 4 => 4 | 5 => 5 | 167 => 170 | 37 => 160 | 0 => 0 | 85 => 138 | 2 => 2 | 168 => 171 | 53 => 154 | 175 => 174 | 46 => 126 | 210 => 188 | 127 => 195 | 145 => 208 | 143 => 206 | 21 => 21 | 171 => 190 | 173 => 192 | 212 => 210 | 51 => 152 | 20 => 20 | 213 => 211 | 232 => 222 | 233 => 223 | 80 => 181 | n => n, fun | 15 => 1 | 16 => 2 | 17 => 5 | 18 => 7 | 19 => 8 | n => n⟩
theorem lays172c : Go.Proofs.LaysC.n172 Tryz.prog lays172c_ren := {
  mixed := by kernel_rfl
  f129 := Tryz.func104.trans (congrArg some (by kernel_rfl))
  f171 := Tryz.func85.trans (congrArg some (by kernel_rfl))
  f172 := Tryz.func84.trans (congrArg some (by kernel_rfl))
  f205 := Tryz.func150.trans (congrArg some (by kernel_rfl))
  f243 := Tryz.func113.trans (congrArg some (by kernel_rfl))
  f244 := Tryz.func111.trans (congrArg some (by kernel_rfl))
  f245 := Tryz.func112.trans (congrArg some (by kernel_rfl))
  f246 := Tryz.func133.trans (congrArg some (by kernel_rfl))
  f247 := Tryz.func115.trans (congrArg some (by kernel_rfl))
  f279 := Tryz.func129.trans (congrArg some (by kernel_rfl))
  f280 := Tryz.func130.trans (congrArg some (by kernel_rfl))
  f281 := Tryz.func131.trans (congrArg some (by kernel_rfl))
  f282 := Tryz.func132.trans (congrArg some (by kernel_rfl))
  f283 := Tryz.func151.trans (congrArg some (by kernel_rfl))
  f284 := Tryz.func152.trans (congrArg some (by kernel_rfl))
  f285 := Tryz.func153.trans (congrArg some (by kernel_rfl))
  f286 := Tryz.func154.trans (congrArg some (by kernel_rfl))
  f287 := Tryz.func134.trans (congrArg some (by kernel_rfl))
  f316 := Tryz.func149.trans (congrArg some (by kernel_rfl))
  f317 := Tryz.func165.trans (congrArg some (by kernel_rfl))
  f318 := Tryz.func166.trans (congrArg some (by kernel_rfl))
  f319 := Tryz.func167.trans (congrArg some (by kernel_rfl))
  f320 := Tryz.func168.trans (congrArg some (by kernel_rfl))
  f321 := Tryz.func155.trans (congrArg some (by kernel_rfl))
  f322 := Tryz.func156.trans (congrArg some (by kernel_rfl))
  f337 := Tryz.func173.trans (congrArg some (by kernel_rfl))
  f338 := Tryz.func174.trans (congrArg some (by kernel_rfl))
  t0 := Tryz.underlying0
  a0 := Tryz.isAgg0
  z0 := Tryz.sizeOf0
  v0 := Tryz.zeroValue0
  t2 := Tryz.underlying2
  a2 := Tryz.isAgg2
  z2 := Tryz.sizeOf2
  v2 := Tryz.zeroValue2
  t3 := Tryz.underlying3
  a3 := Tryz.isAgg3
  z3 := Tryz.sizeOf3
  v3 := Tryz.zeroValue3
  t4 := Tryz.underlying4
  a4 := Tryz.isAgg4
  z4 := Tryz.sizeOf4
  v4 := Tryz.zeroValue4
  t5 := Tryz.underlying5
  a5 := Tryz.isAgg5
  z5 := Tryz.sizeOf5
  v5 := Tryz.zeroValue5
  t9 := Tryz.underlying9
  a9 := Tryz.isAgg9
  z9 := Tryz.sizeOf9
  v9 := Tryz.zeroValue9
  t20 := Tryz.underlying20
  a20 := Tryz.isAgg20
  z20 := Tryz.sizeOf20
  v20 := Tryz.zeroValue20
  t21 := Tryz.underlying21
  a21 := Tryz.isAgg21
  z21 := Tryz.sizeOf21
  v21 := Tryz.zeroValue21
  t37 := Tryz.underlying160
  a37 := Tryz.isAgg160
  z37 := Tryz.sizeOf160
  v37 := Tryz.zeroValue160
  t46 := Tryz.underlying126
  a46 := Tryz.isAgg126
  z46 := Tryz.sizeOf126
  v46 := Tryz.zeroValue126
  t51 := Tryz.underlying152
  a51 := Tryz.isAgg152
  z51 := Tryz.sizeOf152
  v51 := Tryz.zeroValue152
  t53 := Tryz.underlying154
  a53 := Tryz.isAgg154
  z53 := Tryz.sizeOf154
  v53 := Tryz.zeroValue154
  t75 := Tryz.underlying131
  a75 := Tryz.isAgg131
  z75 := Tryz.sizeOf131
  v75 := Tryz.zeroValue131
  t76 := Tryz.underlying132
  a76 := Tryz.isAgg132
  z76 := Tryz.sizeOf132
  v76 := Tryz.zeroValue132
  t85 := Tryz.underlying138
  a85 := Tryz.isAgg138
  z85 := Tryz.sizeOf138
  v85 := Tryz.zeroValue138
  t127 := Tryz.underlying195
  a127 := Tryz.isAgg195
  z127 := Tryz.sizeOf195
  v127 := Tryz.zeroValue195
  t143 := Tryz.underlying206
  a143 := Tryz.isAgg206
  z143 := Tryz.sizeOf206
  v143 := Tryz.zeroValue206
  t145 := Tryz.underlying208
  a145 := Tryz.isAgg208
  z145 := Tryz.sizeOf208
  v145 := Tryz.zeroValue208
  t167 := Tryz.underlying170
  a167 := Tryz.isAgg170
  z167 := Tryz.sizeOf170
  v167 := Tryz.zeroValue170
  t168 := Tryz.underlying171
  a168 := Tryz.isAgg171
  z168 := Tryz.sizeOf171
  v168 := Tryz.zeroValue171
  t171 := Tryz.underlying190
  a171 := Tryz.isAgg190
  z171 := Tryz.sizeOf190
  v171 := Tryz.zeroValue190
  t173 := Tryz.underlying192
  a173 := Tryz.isAgg192
  z173 := Tryz.sizeOf192
  v173 := Tryz.zeroValue192
  t175 := Tryz.underlying174
  a175 := Tryz.isAgg174
  z175 := Tryz.sizeOf174
  v175 := Tryz.zeroValue174
  t210 := Tryz.underlying188
  a210 := Tryz.isAgg188
  z210 := Tryz.sizeOf188
  v210 := Tryz.zeroValue188
  t212 := Tryz.underlying210
  a212 := Tryz.isAgg210
  z212 := Tryz.sizeOf210
  v212 := Tryz.zeroValue210
  t213 := Tryz.underlying211
  a213 := Tryz.isAgg211
  z213 := Tryz.sizeOf211
  t232 := Tryz.underlying222
  a232 := Tryz.isAgg222
  z232 := Tryz.sizeOf222
  v232 := Tryz.zeroValue222
  t233 := Tryz.underlying223
  a233 := Tryz.isAgg223
  z233 := Tryz.sizeOf223
  v233 := Tryz.zeroValue223
  g15 := by kernel_rfl
  g16 := by kernel_rfl
  g17 := by kernel_rfl
  g18 := by kernel_rfl
  g19 := by kernel_rfl
  t80 := Tryz.underlying181
  a80 := Tryz.isAgg181
  z80 := Tryz.sizeOf181
  v80 := Tryz.zeroValue181
  i0 := by kernel_rfl
  i2 := by kernel_rfl
  i3 := by kernel_rfl
  i4 := by kernel_rfl
  i5 := by kernel_rfl
  i9 := by kernel_rfl
  i20 := by kernel_rfl
  i21 := by kernel_rfl
  i37 := by kernel_rfl
  i46 := by kernel_rfl
  i51 := by kernel_rfl
  i53 := by kernel_rfl
  i75 := by kernel_rfl
  i76 := by kernel_rfl
  i80 := by kernel_rfl
  i85 := by kernel_rfl
  i127 := by kernel_rfl
  i143 := by kernel_rfl
  i145 := by kernel_rfl
  i167 := by kernel_rfl
  i168 := by kernel_rfl
  i171 := by kernel_rfl
  i173 := by kernel_rfl
  i175 := by kernel_rfl
  i210 := by kernel_rfl
  i212 := by kernel_rfl
  i232 := by kernel_rfl
  i233 := by kernel_rfl
  m15 := by kernel_rfl
  m16 := by kernel_rfl
  m17 := by kernel_rfl
  m18 := by kernel_rfl
  m19 := by kernel_rfl
  c0 := by kernel_rfl
  c2 := by kernel_rfl
  c3 := by kernel_rfl
  c4 := by kernel_rfl
  c5 := by kernel_rfl
  c9 := by kernel_rfl
  c20 := by kernel_rfl
  c21 := by kernel_rfl
  c37 := by kernel_rfl
  c46 := by kernel_rfl
  c51 := by kernel_rfl
  c53 := by kernel_rfl
  c75 := by kernel_rfl
  c76 := by kernel_rfl
  c80 := by kernel_rfl
  c85 := by kernel_rfl
  c127 := by kernel_rfl
  c143 := by kernel_rfl
  c145 := by kernel_rfl
  c167 := by kernel_rfl
  c168 := by kernel_rfl
  c171 := by kernel_rfl
  c173 := by kernel_rfl
  c175 := by kernel_rfl
  c210 := by kernel_rfl
  c212 := by kernel_rfl
  c213 := by kernel_rfl
  c232 := by kernel_rfl
  c233 := by kernel_rfl }
def lays245c_ren : Go.Shelf.Ren := ⟨fun | 245 => 112 | 279 => 129 | 280 => 130 | 281 => 131 | 282 => 132 | 316 => 149 | 171 => 85 | 205 => 150 | 243 => 113 | 246 => 133 | 283 => 151 | 284 => 152 | 285 => 153 | 286 => 154 | 129 => 104 | 317 => 165 | 318 => 166 | 319 => 167 | 320 => 168 | 337 => 173 | 338 => 174 | n => n, fun | 9 => 9 | 3 => 3 | 75 => 131 | 167 => 170 | 4 => 4 | 168 => 171 | 210 => 188 | 37 => 160 | 0 => 0 | 127 => 195 | 145 => 208 | 143 => 206 | 2 => 2 | 171 => 190 | 53 => 154 | 5 => 5 | 173 => 192 | 212 => 210 | 51 => 152 | 20 => 20 | 213 => 211 | 46 => 126 | 232 => 222 | 233 => 223 | 80 => 181 | n => n, fun | 15 => 1 | 16 => 2 | 17 => 5 | 18 => 7 | 19 => 8 | n => n⟩
theorem lays245c : Go.Proofs.LaysC.n245 Tryz.prog lays245c_ren := {
  mixed := by kernel_rfl
  f129 := Tryz.func104.trans (congrArg some (by kernel_rfl))
  f171 := Tryz.func85.trans (congrArg some (by kernel_rfl))
  f205 := Tryz.func150.trans (congrArg some (by kernel_rfl))
  f243 := Tryz.func113.trans (congrArg some (by kernel_rfl))
  f245 := Tryz.func112.trans (congrArg some (by kernel_rfl))
  f246 := Tryz.func133.trans (congrArg some (by kernel_rfl))
  f279 := Tryz.func129.trans (congrArg some (by kernel_rfl))
  f280 := Tryz.func130.trans (congrArg some (by kernel_rfl))
  f281 := Tryz.func131.trans (congrArg some (by kernel_rfl))
  f282 := Tryz.func132.trans (congrArg some (by kernel_rfl))
  f283 := Tryz.func151.trans (congrArg some (by kernel_rfl))
  f284 := Tryz.func152.trans (congrArg some (by kernel_rfl))
  f285 := Tryz.func153.trans (congrArg some (by kernel_rfl))
  f286 := Tryz.func154.trans (congrArg some (by kernel_rfl))
  f316 := Tryz.func149.trans (congrArg some (by kernel_rfl))
  f317 := Tryz.func165.trans (congrArg some (by kernel_rfl))
  f318 := Tryz.func166.trans (congrArg some (by kernel_rfl))
  f319 := Tryz.func167.trans (congrArg some (by kernel_rfl))
  f320 := Tryz.func168.trans (congrArg some (by kernel_rfl))
  f337 := Tryz.func173.trans (congrArg some (by kernel_rfl))
  f338 := Tryz.func174.trans (congrArg some (by kernel_rfl))
  t0 := Tryz.underlying0
  a0 := Tryz.isAgg0
  z0 := Tryz.sizeOf0
  v0 := Tryz.zeroValue0
  t2 := Tryz.underlying2
  a2 := Tryz.isAgg2
  z2 := Tryz.sizeOf2
  v2 := Tryz.zeroValue2
  t3 := Tryz.underlying3
  a3 := Tryz.isAgg3
  z3 := Tryz.sizeOf3
  v3 := Tryz.zeroValue3
  t4 := Tryz.underlying4
  a4 := Tryz.isAgg4
  z4 := Tryz.sizeOf4
  v4 := Tryz.zeroValue4
  t5 := Tryz.underlying5
  a5 := Tryz.isAgg5
  z5 := Tryz.sizeOf5
  v5 := Tryz.zeroValue5
  t9 := Tryz.underlying9
  a9 := Tryz.isAgg9
  z9 := Tryz.sizeOf9
  v9 := Tryz.zeroValue9
  t20 := Tryz.underlying20
  a20 := Tryz.isAgg20
  z20 := Tryz.sizeOf20
  v20 := Tryz.zeroValue20
  t37 := Tryz.underlying160
  a37 := Tryz.isAgg160
  z37 := Tryz.sizeOf160
  v37 := Tryz.zeroValue160
  t46 := Tryz.underlying126
  a46 := Tryz.isAgg126
  z46 := Tryz.sizeOf126
  v46 := Tryz.zeroValue126
  t51 := Tryz.underlying152
  a51 := Tryz.isAgg152
  z51 := Tryz.sizeOf152
  v51 := Tryz.zeroValue152
  t53 := Tryz.underlying154
  a53 := Tryz.isAgg154
  z53 := Tryz.sizeOf154
  v53 := Tryz.zeroValue154
  t75 := Tryz.underlying131
  a75 := Tryz.isAgg131
  z75 := Tryz.sizeOf131
  v75 := Tryz.zeroValue131
  t127 := Tryz.underlying195
  a127 := Tryz.isAgg195
  z127 := Tryz.sizeOf195
  v127 := Tryz.zeroValue195
  t143 := Tryz.underlying206
  a143 := Tryz.isAgg206
  z143 := Tryz.sizeOf206
  v143 := Tryz.zeroValue206
  t145 := Tryz.underlying208
  a145 := Tryz.isAgg208
  z145 := Tryz.sizeOf208
  v145 := Tryz.zeroValue208
  t167 := Tryz.underlying170
  a167 := Tryz.isAgg170
  z167 := Tryz.sizeOf170
  v167 := Tryz.zeroValue170
  t168 := Tryz.underlying171
  a168 := Tryz.isAgg171
  z168 := Tryz.sizeOf171
  v168 := Tryz.zeroValue171
  t171 := Tryz.underlying190
  a171 := Tryz.isAgg190
  z171 := Tryz.sizeOf190
  v171 := Tryz.zeroValue190
  t173 := Tryz.underlying192
  a173 := Tryz.isAgg192
  z173 := Tryz.sizeOf192
  v173 := Tryz.zeroValue192
  t210 := Tryz.underlying188
  a210 := Tryz.isAgg188
  z210 := Tryz.sizeOf188
  v210 := Tryz.zeroValue188
  t212 := Tryz.underlying210
  a212 := Tryz.isAgg210
  z212 := Tryz.sizeOf210
  v212 := Tryz.zeroValue210
  t213 := Tryz.underlying211
  a213 := Tryz.isAgg211
  z213 := Tryz.sizeOf211
  t232 := Tryz.underlying222
  a232 := Tryz.isAgg222
  z232 := Tryz.sizeOf222
  v232 := Tryz.zeroValue222
  t233 := Tryz.underlying223
  a233 := Tryz.isAgg223
  z233 := Tryz.sizeOf223
  v233 := Tryz.zeroValue223
  g15 := by kernel_rfl
  g16 := by kernel_rfl
  g17 := by kernel_rfl
  g18 := by kernel_rfl
  g19 := by kernel_rfl
  t80 := Tryz.underlying181
  a80 := Tryz.isAgg181
  z80 := Tryz.sizeOf181
  v80 := Tryz.zeroValue181
  i0 := by kernel_rfl
  i2 := by kernel_rfl
  i3 := by kernel_rfl
  i4 := by kernel_rfl
  i5 := by kernel_rfl
  i9 := by kernel_rfl
  i20 := by kernel_rfl
  i37 := by kernel_rfl
  i46 := by kernel_rfl
  i51 := by kernel_rfl
  i53 := by kernel_rfl
  i75 := by kernel_rfl
  i80 := by kernel_rfl
  i127 := by kernel_rfl
  i143 := by kernel_rfl
  i145 := by kernel_rfl
  i167 := by kernel_rfl
  i168 := by kernel_rfl
  i171 := by kernel_rfl
  i173 := by kernel_rfl
  i210 := by kernel_rfl
  i212 := by kernel_rfl
  i232 := by kernel_rfl
  i233 := by kernel_rfl
  m15 := by kernel_rfl
  m16 := by kernel_rfl
  m17 := by kernel_rfl
  m18 := by kernel_rfl
  m19 := by kernel_rfl
  c0 := by kernel_rfl
  c2 := by kernel_rfl
  c3 := by kernel_rfl
  c4 := by kernel_rfl
  c5 := by kernel_rfl
  c9 := by kernel_rfl
  c20 := by kernel_rfl
  c37 := by kernel_rfl
  c46 := by kernel_rfl
  c51 := by kernel_rfl
  c53 := by kernel_rfl
  c75 := by kernel_rfl
  c80 := by kernel_rfl
  c127 := by kernel_rfl
  c143 := by kernel_rfl
  c145 := by kernel_rfl
  c167 := by kernel_rfl
  c168 := by kernel_rfl
  c171 := by kernel_rfl
  c173 := by kernel_rfl
  c210 := by kernel_rfl
  c212 := by kernel_rfl
  c213 := by kernel_rfl
  c232 := by kernel_rfl
  c233 := by kernel_rfl }
end Go.Proofs.YtlkdjdcnbcegeaaGreatDoor

/-! strconv.ParseUint and ParseInt by sixteens, at every text. -/
namespace Go.Proofs.YtlkdjdcnbcegeaaGreatDoor
open Go.RowKit Go.WideShapes Go.Lib
set_option linter.unusedVariables false
set_option linter.unusedSimpArgs false
def uEnd (M v : Int) (er : Value) : Prop := (er = .nilIface ∧ 0 ≤ v ∧ v ≤ M) ∨ (v = 0 ∧ er = .iface 170 (.int .i64 2)) ∨ (v = M ∧ er = .iface 170 (.int .i64 1))
theorem empty_size {t : ByteArray} (h : t.size = 0) : t = ⟨#[]⟩ := by
  obtain ⟨⟨l⟩⟩ := t
  cases l with
  | nil => rfl
  | cons a r => simp [ByteArray.size] at h
set_option maxRecDepth 100000 in
theorem xuint32_all (t : ByteArray) (hmax : t.size ≤ 9223372036854775806) (w : World) :
    Calls Tryz.prog 134 #[.string t, .int .i64 16, .int .i64 32] w fun e w' => ∃ v er, e = .returned (.tuple #[.int .u64 v, er]) ∧ uEnd 4294967295 v er ∧ Below w.heap.size w w' := by
  by_cases hne : t.size = 0
  · obtain rfl := empty_size hne
    have HB := Lib.hid (Below.refl w.heap.size w)
    have hemp : (⟨#[]⟩ : ByteArray).toList.isEmpty = true := by rw [← decide_eq_emptyBytes]; exact decide_eq_true rfl
    go_enter Tryz.func134, Tryz.ntmps134
    go_wp2_with fail
    go_returns
    exact ⟨_, _, rfl, Or.inr (Or.inl ⟨rfl, rfl⟩), HB.out⟩
  · refine (xuint32_any t hne hmax w).mono ?_
    rintro e w' ⟨rfl, rfl⟩
    rcases h : parseX 4294967295 0 t.data.toList with n | _ | _
    · exact ⟨_, _, rfl, Or.inl ⟨rfl, by omega, by have := parseX_le (by omega) h; omega⟩, Lib.bytesWorld_below w _ t⟩
    · exact ⟨_, _, rfl, Or.inr (Or.inl ⟨rfl, rfl⟩), Lib.bytesWorld_below w _ t⟩
    · exact ⟨_, _, rfl, Or.inr (Or.inr ⟨rfl, rfl⟩), Lib.bytesWorld_below w _ t⟩
set_option maxRecDepth 100000 in
theorem xuint16_all (t : ByteArray) (hmax : t.size ≤ 9223372036854775806) (w : World) :
    Calls Tryz.prog 134 #[.string t, .int .i64 16, .int .i64 16] w fun e w' => ∃ v er, e = .returned (.tuple #[.int .u64 v, er]) ∧ uEnd 65535 v er ∧ Below w.heap.size w w' := by
  by_cases hne : t.size = 0
  · obtain rfl := empty_size hne
    have HB := Lib.hid (Below.refl w.heap.size w)
    have hemp : (⟨#[]⟩ : ByteArray).toList.isEmpty = true := by rw [← decide_eq_emptyBytes]; exact decide_eq_true rfl
    go_enter Tryz.func134, Tryz.ntmps134
    go_wp2_with fail
    go_returns
    exact ⟨_, _, rfl, Or.inr (Or.inl ⟨rfl, rfl⟩), HB.out⟩
  · refine (xuint16_any t hne hmax w).mono ?_
    rintro e w' ⟨rfl, rfl⟩
    rcases h : parseX 65535 0 t.data.toList with n | _ | _
    · exact ⟨_, _, rfl, Or.inl ⟨rfl, by omega, by have := parseX_le (by omega) h; omega⟩, Lib.bytesWorld_below w _ t⟩
    · exact ⟨_, _, rfl, Or.inr (Or.inl ⟨rfl, rfl⟩), Lib.bytesWorld_below w _ t⟩
    · exact ⟨_, _, rfl, Or.inr (Or.inr ⟨rfl, rfl⟩), Lib.bytesWorld_below w _ t⟩
/-- What the inner ParseInt answers. -/
def IPost (w : World) (e : Ending) (w' : World) : Prop := ∃ (v : Int) (er : Value), e = .returned (.tuple #[.int .i64 v, er]) ∧ ((er = .nilIface ∧ -2147483648 ≤ v ∧ v ≤ 2147483647) ∨ er = .iface 170 (.int .i64 2) ∨ er = .iface 170 (.int .i64 1)) ∧ Below w.heap.size w w'
set_option maxRecDepth 100000 in
set_option maxHeartbeats 4000000 in
theorem xint32_all (t : ByteArray) (hmax : t.size ≤ 9223372036854775806) (w : World) :
    Calls Tryz.prog 115 #[.string t, .int .i64 16, .int .i64 32] w (IPost w) := by
  have HB := Lib.hid (Below.refl w.heap.size w)
  have hq2 : ∀ W, (binOp .neq 131 (.iface 170 (.int .i64 2)) (.iface 170 (.int .i64 1))).run Tryz.prog W = .ok (.bool true) W := fun W => Lib.run_neq_iface_int W 2 1 Tryz.underlying131 (by kernel_rfl) Tryz.underlying170
  have hq1 : ∀ W, (binOp .neq 131 (.iface 170 (.int .i64 1)) (.iface 170 (.int .i64 1))).run Tryz.prog W = .ok (.bool false) W := fun W => Lib.run_neq_iface_int W 1 1 Tryz.underlying131 (by kernel_rfl) Tryz.underlying170
  have HU := Lib.hid (fun (t : ByteArray) (h : t.size ≤ 9223372036854775806) => xuint32_all t h w)
  by_cases hne : t.size = 0
  · obtain rfl := empty_size hne
    have hemp : (⟨#[]⟩ : ByteArray).toList.isEmpty = true := by rw [← decide_eq_emptyBytes]; exact decide_eq_true rfl
    go_enter Tryz.func115, Tryz.ntmps115
    go_wp2_with fail
    go_returns
    exact ⟨_, _, rfl, Or.inr (Or.inl rfl), HB.out⟩
  · have h0 : 0 < t.size := by omega
    have hemp : t.toList.isEmpty = false := by
      rw [← decide_eq_emptyBytes]
      exact decide_eq_false (fun h => hne (by rw [h]; rfl))
    have hl1 : (t.extract 1 t.size).size ≤ 9223372036854775806 := by simp [ByteArray.size_extract]; omega
    have h1t : (1 : Int) ≤ (t.size : Int) := by omega
    by_cases hp : (t[0]'h0).toNat = 43
    · have hpI : ((t[0]'h0).toNat : Int) = 43 := by omega
      go_enter Tryz.func115, Tryz.ntmps115
      go_wp2_with fail
      refine (HU.out _ hl1).mono ?_
      rintro e w2 ⟨v, er, rfl, hu, hb2⟩
      have HB2 := Lib.hid hb2
      clear hb2 HB HU
      rcases hu with ⟨rfl, hv0, hv1⟩ | ⟨rfl, rfl⟩ | ⟨rfl, rfl⟩
      · have w1 : IntKind.i64.wrap v = v := IntWalk.i64_in _ (by omega)
        by_cases hbig : (2147483648 : Int) ≤ v
        · go_wp2_with fail
          go_returns
          exact ⟨_, _, rfl, Or.inr (Or.inr rfl), HB2.out⟩
        · go_wp2_with fail
          go_returns
          exact ⟨_, _, rfl, Or.inl ⟨rfl, by omega, by omega⟩, HB2.out⟩
      · go_wp2_with fail
        go_returns
        exact ⟨_, _, rfl, Or.inr (Or.inl rfl), HB2.out⟩
      · go_wp2_with fail
        go_returns
        exact ⟨_, _, rfl, Or.inr (Or.inr rfl), HB2.out⟩
    · by_cases hm : (t[0]'h0).toNat = 45
      · have hpI : ¬ ((t[0]'h0).toNat : Int) = 43 := by omega
        have hmI : ((t[0]'h0).toNat : Int) = 45 := by omega
        go_enter Tryz.func115, Tryz.ntmps115
        go_wp2_with fail
        refine (HU.out _ hl1).mono ?_
        rintro e w2 ⟨v, er, rfl, hu, hb2⟩
        have HB2 := Lib.hid hb2
        clear hb2 HB HU
        rcases hu with ⟨rfl, hv0, hv1⟩ | ⟨rfl, rfl⟩ | ⟨rfl, rfl⟩
        · have w1 : IntKind.i64.wrap v = v := IntWalk.i64_in _ (by omega)
          by_cases hbig : (2147483648 : Int) < v
          · go_wp2_with fail
            go_returns
            exact ⟨_, _, rfl, Or.inr (Or.inr rfl), HB2.out⟩
          · go_wp2_with fail
            go_returns
            exact ⟨_, _, rfl, Or.inl ⟨rfl, by omega, by omega⟩, HB2.out⟩
        · go_wp2_with fail
          go_returns
          exact ⟨_, _, rfl, Or.inr (Or.inl rfl), HB2.out⟩
        · go_wp2_with fail
          go_returns
          exact ⟨_, _, rfl, Or.inr (Or.inr rfl), HB2.out⟩
      · have hpI : ¬ ((t[0]'h0).toNat : Int) = 43 := by omega
        have hmI : ¬ ((t[0]'h0).toNat : Int) = 45 := by omega
        go_enter Tryz.func115, Tryz.ntmps115
        go_wp2_with fail
        refine (HU.out _ hmax).mono ?_
        rintro e w2 ⟨v, er, rfl, hu, hb2⟩
        have HB2 := Lib.hid hb2
        clear hb2 HB HU
        rcases hu with ⟨rfl, hv0, hv1⟩ | ⟨rfl, rfl⟩ | ⟨rfl, rfl⟩
        · have w1 : IntKind.i64.wrap v = v := IntWalk.i64_in _ (by omega)
          by_cases hbig : (2147483648 : Int) ≤ v
          · go_wp2_with fail
            go_returns
            exact ⟨_, _, rfl, Or.inr (Or.inr rfl), HB2.out⟩
          · go_wp2_with fail
            go_returns
            exact ⟨_, _, rfl, Or.inl ⟨rfl, by omega, by omega⟩, HB2.out⟩
        · go_wp2_with fail
          go_returns
          exact ⟨_, _, rfl, Or.inr (Or.inl rfl), HB2.out⟩
        · go_wp2_with fail
          go_returns
          exact ⟨_, _, rfl, Or.inr (Or.inr rfl), HB2.out⟩
/-- The two errors' variables, from the world w on. -/
def ErrHere (w : World) : Prop := (∃ te pe, w.cell? ⟨lays245c_ren.g 15, 0, none⟩ = some (.iface te pe)) ∧ (∃ te pe, w.cell? ⟨lays245c_ren.g 16, 0, none⟩ = some (.iface te pe))
theorem ErrHere.on {w W : World} (h : ErrHere w) (hb : Below w.heap.size w W) : ErrHere W := by
  obtain ⟨⟨te, pe, h1⟩, ⟨tr, pr, h2⟩⟩ := h
  exact ⟨⟨te, pe, (hb.cell (Lib.lt_of_cell h1)).trans h1⟩, ⟨tr, pr, (hb.cell (Lib.lt_of_cell h2)).trans h2⟩⟩
def PIPost (w : World) (e : Ending) (w' : World) : Prop := ∃ (v : Int) (er : Value), e = .returned (.tuple #[.int .i64 v, er]) ∧ ((er = .nilIface ∧ -2147483648 ≤ v ∧ v ≤ 2147483647) ∨ ∃ T p, er = .iface T p) ∧ Below w.heap.size w w'
def PUPost (w : World) (e : Ending) (w' : World) : Prop := ∃ (v : Int) (er : Value), e = .returned (.tuple #[.int .u64 v, er]) ∧ ((er = .nilIface ∧ 0 ≤ v ∧ v ≤ 65535) ∨ (0 ≤ v ∧ v ≤ 65535 ∧ ∃ T p, er = .iface T p)) ∧ Below w.heap.size w w'
set_option maxRecDepth 100000 in
set_option maxHeartbeats 2000000 in
theorem pint32_all (t : ByteArray) (hlim : t.size ≤ 281474976710656) (w : World) (hE : ErrHere w) : Calls Tryz.prog 87 #[.string t, .int .i64 16, .int .i64 32] w (PIPost w) := by
  have HC := Lib.hid (xint32_all t (by omega) w)
  obtain ⟨⟨te, pe, hv15⟩, ⟨tr, pr, hv16⟩⟩ := hE
  have hl15 : lays245c_ren.g 15 < w.heap.size := Lib.lt_of_cell hv15
  have hl16 : lays245c_ren.g 16 < w.heap.size := Lib.lt_of_cell hv16
  have HV := Lib.hid (And.intro hv15 hv16)
  clear hv15 hv16
  have HS := Lib.hid (fun W (h : W.cell? ⟨lays245c_ren.g 15, 0, none⟩ = some (.iface te pe)) => Any.strconv_toError_syntax lays245c ⟨#[80, 97, 114, 115, 101, 73, 110, 116]⟩ t 16 32 _ W hlim h (Or.inr ⟨te, pe, rfl⟩))
  have HR := Lib.hid (fun W (h : W.cell? ⟨lays245c_ren.g 16, 0, none⟩ = some (.iface tr pr)) => Any.strconv_toError_range lays245c ⟨#[80, 97, 114, 115, 101, 73, 110, 116]⟩ t 16 32 _ W hlim h (Or.inr ⟨tr, pr, rfl⟩))
  go_enter Tryz.func87, Tryz.ntmps87
  go_wp2_with fail
  refine HC.out.mono ?_
  rintro e w2 ⟨v, er, rfl, hu, hb2⟩
  have HB2 := Lib.hid hb2
  clear hb2 HC
  rcases hu with ⟨rfl, hv0, hv1⟩ | rfl | rfl
  · go_wp2_with fail
    go_returns
    exact ⟨_, _, rfl, Or.inl ⟨rfl, hv0, hv1⟩, HB2.out⟩
  · go_wp2_with fail
    refine (HS.out _ ((HB2.out.cell (p := ⟨lays245c_ren.g 15, 0, none⟩) hl15).trans HV.out.1)).mono ?_
    rintro e w3 ⟨N, rfl, _, _, hb3⟩
    have HB3 := Lib.hid (HB2.out.trans (hb3.mono HB2.out.size))
    clear hb3
    go_wp2_with fail
    go_returns
    exact ⟨_, _, rfl, Or.inr ⟨_, _, rfl⟩, HB3.out⟩
  · go_wp2_with fail
    refine (HR.out _ ((HB2.out.cell (p := ⟨lays245c_ren.g 16, 0, none⟩) hl16).trans HV.out.2)).mono ?_
    rintro e w3 ⟨N, rfl, _, _, hb3⟩
    have HB3 := Lib.hid (HB2.out.trans (hb3.mono HB2.out.size))
    clear hb3
    go_wp2_with fail
    go_returns
    exact ⟨_, _, rfl, Or.inr ⟨_, _, rfl⟩, HB3.out⟩
set_option maxRecDepth 100000 in
set_option maxHeartbeats 2000000 in
theorem puint16_all (t : ByteArray) (hlim : t.size ≤ 281474976710656) (w : World) (hE : ErrHere w) : Calls Tryz.prog 141 #[.string t, .int .i64 16, .int .i64 16] w (PUPost w) := by
  have HC := Lib.hid (xuint16_all t (by omega) w)
  obtain ⟨⟨te, pe, hv15⟩, ⟨tr, pr, hv16⟩⟩ := hE
  have hl15 : lays245c_ren.g 15 < w.heap.size := Lib.lt_of_cell hv15
  have hl16 : lays245c_ren.g 16 < w.heap.size := Lib.lt_of_cell hv16
  have HV := Lib.hid (And.intro hv15 hv16)
  clear hv15 hv16
  have HS := Lib.hid (fun W (h : W.cell? ⟨lays245c_ren.g 15, 0, none⟩ = some (.iface te pe)) => Any.strconv_toError_syntax lays245c ⟨#[80, 97, 114, 115, 101, 85, 105, 110, 116]⟩ t 16 16 _ W hlim h (Or.inr ⟨te, pe, rfl⟩))
  have HR := Lib.hid (fun W (h : W.cell? ⟨lays245c_ren.g 16, 0, none⟩ = some (.iface tr pr)) => Any.strconv_toError_range lays245c ⟨#[80, 97, 114, 115, 101, 85, 105, 110, 116]⟩ t 16 16 _ W hlim h (Or.inr ⟨tr, pr, rfl⟩))
  go_enter Tryz.func141, Tryz.ntmps141
  go_wp2_with fail
  refine HC.out.mono ?_
  rintro e w2 ⟨v, er, rfl, hu, hb2⟩
  have HB2 := Lib.hid hb2
  clear hb2 HC
  rcases hu with ⟨rfl, hv0, hv1⟩ | ⟨rfl, rfl⟩ | ⟨rfl, rfl⟩
  · go_wp2_with fail
    go_returns
    exact ⟨_, _, rfl, Or.inl ⟨rfl, hv0, hv1⟩, HB2.out⟩
  · go_wp2_with fail
    refine (HS.out _ ((HB2.out.cell (p := ⟨lays245c_ren.g 15, 0, none⟩) hl15).trans HV.out.1)).mono ?_
    rintro e w3 ⟨N, rfl, _, _, hb3⟩
    have HB3 := Lib.hid (HB2.out.trans (hb3.mono HB2.out.size))
    clear hb3
    go_wp2_with fail
    go_returns
    exact ⟨_, _, rfl, Or.inr ⟨by omega, by omega, _, _, rfl⟩, HB3.out⟩
  · go_wp2_with fail
    refine (HR.out _ ((HB2.out.cell (p := ⟨lays245c_ren.g 16, 0, none⟩) hl16).trans HV.out.2)).mono ?_
    rintro e w3 ⟨N, rfl, _, _, hb3⟩
    have HB3 := Lib.hid (HB2.out.trans (hb3.mono HB2.out.size))
    clear hb3
    go_wp2_with fail
    go_returns
    exact ⟨_, _, rfl, Or.inr ⟨by omega, by omega, _, _, rfl⟩, HB3.out⟩
end Go.Proofs.YtlkdjdcnbcegeaaGreatDoor
