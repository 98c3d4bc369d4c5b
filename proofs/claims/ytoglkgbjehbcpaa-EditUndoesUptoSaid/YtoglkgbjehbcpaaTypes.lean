/-
  What Try's types are: printed by a program.
-/
import Derived.Test.YtoglkgbjehbcpaaRows
import Derived.Test.YtoglkgbjehbcpaaE22
namespace Go.Proofs.Ytoglkgbjehbcpaa
open Go.RowKit Go.LE
set_option linter.defProp false
set_option linter.unusedVariables false

theorem hmix : Try.prog.follows .mixedOrders = true := by kernel_rfl
theorem ty0 : ts Try.prog 0 = some 1 := by kernel_rfl
theorem ty1 : ta Try.prog 0 = some false := by kernel_rfl
theorem ty2 : tby Try.prog 0 = some 0 := by kernel_rfl
theorem ty3 : isIface Try.prog 0 = some false := by kernel_rfl
theorem ty4 : Program.concrete Try.prog 0 = true := by kernel_rfl
theorem ty5 : ts Try.prog 1 = some 1 := by kernel_rfl
theorem ty6 : ta Try.prog 1 = some false := by kernel_rfl
theorem ty7 : tby Try.prog 1 = some 8 := by kernel_rfl
theorem ty8 : tz Try.prog 1 = some [Value.nilFunc] := by kernel_rfl
theorem ty9 : isIface Try.prog 1 = some false := by kernel_rfl
theorem ty10 : Program.concrete Try.prog 1 = true := by kernel_rfl
theorem ty11 : ts Try.prog 2 = some 1 := by kernel_rfl
theorem ty12 : ta Try.prog 2 = some false := by kernel_rfl
theorem ty13 : tby Try.prog 2 = some 8 := by kernel_rfl
theorem ty14 : tz Try.prog 2 = some [Value.int IntKind.i64 0] := by kernel_rfl
theorem ty15 : Program.underlying Try.prog 2 = some (.int IntKind.i64) := by kernel_rfl
theorem ty16 : isIface Try.prog 2 = some false := by kernel_rfl
theorem ty17 : Program.concrete Try.prog 2 = true := by kernel_rfl
theorem ty18 : ts Try.prog 3 = some 1 := by kernel_rfl
theorem ty19 : ta Try.prog 3 = some false := by kernel_rfl
theorem ty20 : tby Try.prog 3 = some 8 := by kernel_rfl
theorem ty21 : tz Try.prog 3 = some [Value.int IntKind.i64 0] := by kernel_rfl
theorem ty22 : Program.underlying Try.prog 3 = some (.int IntKind.i64) := by kernel_rfl
theorem ty23 : isIface Try.prog 3 = some false := by kernel_rfl
theorem ty24 : Program.concrete Try.prog 3 = true := by kernel_rfl
theorem ty25 : ts Try.prog 4 = some 1 := by kernel_rfl
theorem ty26 : ta Try.prog 4 = some false := by kernel_rfl
theorem ty27 : tby Try.prog 4 = some 1 := by kernel_rfl
theorem ty28 : tz Try.prog 4 = some [Value.bool false] := by kernel_rfl
theorem ty29 : Program.underlying Try.prog 4 = some .bool := by kernel_rfl
theorem ty30 : isIface Try.prog 4 = some false := by kernel_rfl
theorem ty31 : Program.concrete Try.prog 4 = true := by kernel_rfl
theorem ty32 : ts Try.prog 5 = some 1 := by kernel_rfl
theorem ty33 : ta Try.prog 5 = some false := by kernel_rfl
theorem ty34 : tby Try.prog 5 = some 1 := by kernel_rfl
theorem ty35 : tz Try.prog 5 = some [Value.int IntKind.u8 0] := by kernel_rfl
theorem ty36 : Program.underlying Try.prog 5 = some (.int IntKind.u8) := by kernel_rfl
theorem ty37 : isIface Try.prog 5 = some false := by kernel_rfl
theorem ty38 : Program.concrete Try.prog 5 = true := by kernel_rfl
theorem ty39 : ts Try.prog 6 = some 1 := by kernel_rfl
theorem ty40 : ta Try.prog 6 = some false := by kernel_rfl
theorem ty41 : tby Try.prog 6 = some 1 := by kernel_rfl
theorem ty42 : tz Try.prog 6 = some [Value.int IntKind.u8 0] := by kernel_rfl
theorem ty43 : Program.underlying Try.prog 6 = some (.int IntKind.u8) := by kernel_rfl
theorem ty44 : isIface Try.prog 6 = some false := by kernel_rfl
theorem ty45 : Program.concrete Try.prog 6 = true := by kernel_rfl
theorem ty46 : ts Try.prog 7 = some 4 := by kernel_rfl
theorem ty47 : ta Try.prog 7 = some true := by kernel_rfl
theorem ty48 : tby Try.prog 7 = some 24 := by kernel_rfl
theorem ty49 : tz Try.prog 7 = some [Value.int IntKind.i64 0, Value.int IntKind.i64 0, Value.bool false, Value.int IntKind.u8 0] := by kernel_rfl
theorem ty50 : tfs Try.prog 7 = some [(0, 1), (1, 1), (2, 1), (3, 1)] := by kernel_rfl
theorem ty51 : isIface Try.prog 7 = some false := by kernel_rfl
theorem ty52 : Program.concrete Try.prog 7 = true := by kernel_rfl
theorem ty53 : tf Try.prog 7 0 = some (0, 1, false) := by kernel_rfl
theorem ty54 : tf Try.prog 7 1 = some (1, 1, false) := by kernel_rfl
theorem ty55 : tf Try.prog 7 2 = some (2, 1, false) := by kernel_rfl
theorem ty56 : tf Try.prog 7 3 = some (3, 1, false) := by kernel_rfl
theorem ty57 : ts Try.prog 8 = some 4 := by kernel_rfl
theorem ty58 : ta Try.prog 8 = some true := by kernel_rfl
theorem ty59 : tby Try.prog 8 = some 24 := by kernel_rfl
theorem ty60 : tz Try.prog 8 = some [Value.int IntKind.i64 0, Value.int IntKind.i64 0, Value.bool false, Value.int IntKind.u8 0] := by kernel_rfl
theorem ty61 : tfs Try.prog 8 = some [(0, 1), (1, 1), (2, 1), (3, 1)] := by kernel_rfl
theorem ty62 : isIface Try.prog 8 = some false := by kernel_rfl
theorem ty63 : Program.concrete Try.prog 8 = true := by kernel_rfl
theorem ty64 : tf Try.prog 8 0 = some (0, 1, false) := by kernel_rfl
theorem ty65 : tf Try.prog 8 1 = some (1, 1, false) := by kernel_rfl
theorem ty66 : tf Try.prog 8 2 = some (2, 1, false) := by kernel_rfl
theorem ty67 : tf Try.prog 8 3 = some (3, 1, false) := by kernel_rfl
theorem ty68 : ts Try.prog 9 = some 1 := by kernel_rfl
theorem ty69 : ta Try.prog 9 = some false := by kernel_rfl
theorem ty70 : tby Try.prog 9 = some 16 := by kernel_rfl
theorem ty71 : tz Try.prog 9 = some [Value.string { data := #[] }] := by kernel_rfl
theorem ty72 : Program.underlying Try.prog 9 = some .string := by kernel_rfl
theorem ty73 : isIface Try.prog 9 = some false := by kernel_rfl
theorem ty74 : Program.concrete Try.prog 9 = true := by kernel_rfl
theorem ty75 : ts Try.prog 10 = some 1 := by kernel_rfl
theorem ty76 : ta Try.prog 10 = some false := by kernel_rfl
theorem ty77 : tby Try.prog 10 = some 16 := by kernel_rfl
theorem ty78 : tz Try.prog 10 = some [Value.string { data := #[] }] := by kernel_rfl
theorem ty79 : Program.underlying Try.prog 10 = some .string := by kernel_rfl
theorem ty80 : isIface Try.prog 10 = some false := by kernel_rfl
theorem ty81 : Program.concrete Try.prog 10 = true := by kernel_rfl
theorem ty82 : ts Try.prog 11 = some 1 := by kernel_rfl
theorem ty83 : ta Try.prog 11 = some false := by kernel_rfl
theorem ty84 : tby Try.prog 11 = some 16 := by kernel_rfl
theorem ty85 : tz Try.prog 11 = some [Value.string { data := #[] }] := by kernel_rfl
theorem ty86 : Program.underlying Try.prog 11 = some .string := by kernel_rfl
theorem ty87 : isIface Try.prog 11 = some false := by kernel_rfl
theorem ty88 : Program.concrete Try.prog 11 = true := by kernel_rfl
theorem ty89 : ts Try.prog 12 = some 1 := by kernel_rfl
theorem ty90 : ta Try.prog 12 = some false := by kernel_rfl
theorem ty91 : tby Try.prog 12 = some 8 := by kernel_rfl
theorem ty92 : tz Try.prog 12 = some [Value.int IntKind.u64 0] := by kernel_rfl
theorem ty93 : Program.underlying Try.prog 12 = some (.int IntKind.u64) := by kernel_rfl
theorem ty94 : isIface Try.prog 12 = some false := by kernel_rfl
theorem ty95 : Program.concrete Try.prog 12 = true := by kernel_rfl
theorem ty96 : ts Try.prog 13 = some 2 := by kernel_rfl
theorem ty97 : ta Try.prog 13 = some true := by kernel_rfl
theorem ty98 : tby Try.prog 13 = some 24 := by kernel_rfl
theorem ty99 : tz Try.prog 13 = some [Value.string { data := #[] }, Value.int IntKind.u64 0] := by kernel_rfl
theorem ty100 : tfs Try.prog 13 = some [(0, 1), (1, 1)] := by kernel_rfl
theorem ty101 : isIface Try.prog 13 = some false := by kernel_rfl
theorem ty102 : Program.concrete Try.prog 13 = true := by kernel_rfl
theorem ty103 : tf Try.prog 13 0 = some (0, 1, false) := by kernel_rfl
theorem ty104 : tf Try.prog 13 1 = some (1, 1, false) := by kernel_rfl
theorem ty105 : ts Try.prog 14 = some 2 := by kernel_rfl
theorem ty106 : ta Try.prog 14 = some true := by kernel_rfl
theorem ty107 : tby Try.prog 14 = some 24 := by kernel_rfl
theorem ty108 : tz Try.prog 14 = some [Value.string { data := #[] }, Value.int IntKind.u64 0] := by kernel_rfl
theorem ty109 : tfs Try.prog 14 = some [(0, 1), (1, 1)] := by kernel_rfl
theorem ty110 : isIface Try.prog 14 = some false := by kernel_rfl
theorem ty111 : Program.concrete Try.prog 14 = true := by kernel_rfl
theorem ty112 : tf Try.prog 14 0 = some (0, 1, false) := by kernel_rfl
theorem ty113 : tf Try.prog 14 1 = some (1, 1, false) := by kernel_rfl
theorem ty114 : ts Try.prog 15 = some 1 := by kernel_rfl
theorem ty115 : ta Try.prog 15 = some false := by kernel_rfl
theorem ty116 : tby Try.prog 15 = some 8 := by kernel_rfl
theorem ty117 : tz Try.prog 15 = some [Value.pointer none] := by kernel_rfl
theorem ty118 : Program.underlying Try.prog 15 = some (.pointer 67) := by kernel_rfl
theorem ty119 : isIface Try.prog 15 = some false := by kernel_rfl
theorem ty120 : Program.concrete Try.prog 15 = true := by kernel_rfl
theorem ty121 : ts Try.prog 16 = some 1 := by kernel_rfl
theorem ty122 : ta Try.prog 16 = some false := by kernel_rfl
theorem ty123 : tby Try.prog 16 = some 8 := by kernel_rfl
theorem ty124 : tz Try.prog 16 = some [Value.pointer none] := by kernel_rfl
theorem ty125 : Program.underlying Try.prog 16 = some (.pointer 70) := by kernel_rfl
theorem ty126 : isIface Try.prog 16 = some false := by kernel_rfl
theorem ty127 : Program.concrete Try.prog 16 = true := by kernel_rfl
theorem ty128 : ts Try.prog 17 = some 1 := by kernel_rfl
theorem ty129 : ta Try.prog 17 = some false := by kernel_rfl
theorem ty130 : tby Try.prog 17 = some 8 := by kernel_rfl
theorem ty131 : tz Try.prog 17 = some [Value.pointer none] := by kernel_rfl
theorem ty132 : Program.underlying Try.prog 17 = some (.pointer 78) := by kernel_rfl
theorem ty133 : isIface Try.prog 17 = some false := by kernel_rfl
theorem ty134 : Program.concrete Try.prog 17 = true := by kernel_rfl
theorem ty135 : ts Try.prog 18 = some 1 := by kernel_rfl
theorem ty136 : ta Try.prog 18 = some true := by kernel_rfl
theorem ty137 : tby Try.prog 18 = some 8 := by kernel_rfl
theorem ty138 : tz Try.prog 18 = some [Value.pointer none] := by kernel_rfl
theorem ty139 : tfs Try.prog 18 = some [(0, 1)] := by kernel_rfl
theorem ty140 : isIface Try.prog 18 = some false := by kernel_rfl
theorem ty141 : Program.concrete Try.prog 18 = true := by kernel_rfl
theorem ty142 : tf Try.prog 18 0 = some (0, 1, false) := by kernel_rfl
theorem ty143 : ts Try.prog 19 = some 1 := by kernel_rfl
theorem ty144 : ta Try.prog 19 = some true := by kernel_rfl
theorem ty145 : tby Try.prog 19 = some 8 := by kernel_rfl
theorem ty146 : tz Try.prog 19 = some [Value.pointer none] := by kernel_rfl
theorem ty147 : tfs Try.prog 19 = some [(0, 1)] := by kernel_rfl
theorem ty148 : isIface Try.prog 19 = some false := by kernel_rfl
theorem ty149 : Program.concrete Try.prog 19 = true := by kernel_rfl
theorem ty150 : tf Try.prog 19 0 = some (0, 1, false) := by kernel_rfl
theorem ty151 : ts Try.prog 20 = some 1 := by kernel_rfl
theorem ty152 : ta Try.prog 20 = some false := by kernel_rfl
theorem ty153 : tby Try.prog 20 = some 16 := by kernel_rfl
theorem ty154 : tz Try.prog 20 = some [Value.nilIface] := by kernel_rfl
theorem ty155 : isIface Try.prog 20 = some true := by kernel_rfl
theorem ty156 : ts Try.prog 21 = some 1 := by kernel_rfl
theorem ty157 : ta Try.prog 21 = some false := by kernel_rfl
theorem ty158 : tby Try.prog 21 = some 4 := by kernel_rfl
theorem ty159 : tz Try.prog 21 = some [Value.int IntKind.i32 0] := by kernel_rfl
theorem ty160 : Program.underlying Try.prog 21 = some (.int IntKind.i32) := by kernel_rfl
theorem ty161 : isIface Try.prog 21 = some false := by kernel_rfl
theorem ty162 : Program.concrete Try.prog 21 = true := by kernel_rfl
theorem ty163 : ts Try.prog 22 = some 1 := by kernel_rfl
theorem ty164 : ta Try.prog 22 = some false := by kernel_rfl
theorem ty165 : tby Try.prog 22 = some 24 := by kernel_rfl
theorem ty166 : tz Try.prog 22 = some [Value.slice none 0 0] := by kernel_rfl
theorem ty167 : Program.underlying Try.prog 22 = some (.slice 45) := by kernel_rfl
theorem ty168 : isIface Try.prog 22 = some false := by kernel_rfl
theorem ty169 : Program.concrete Try.prog 22 = true := by kernel_rfl
theorem ty170 : ts Try.prog 23 = some 1 := by kernel_rfl
theorem ty171 : ta Try.prog 23 = some false := by kernel_rfl
theorem ty172 : tby Try.prog 23 = some 8 := by kernel_rfl
theorem ty173 : tz Try.prog 23 = some [Value.nilFunc] := by kernel_rfl
theorem ty174 : isIface Try.prog 23 = some false := by kernel_rfl
theorem ty175 : Program.concrete Try.prog 23 = true := by kernel_rfl
theorem ty176 : ts Try.prog 24 = some 1 := by kernel_rfl
theorem ty177 : ta Try.prog 24 = some false := by kernel_rfl
theorem ty178 : tby Try.prog 24 = some 24 := by kernel_rfl
theorem ty179 : tz Try.prog 24 = some [Value.slice none 0 0] := by kernel_rfl
theorem ty180 : Program.underlying Try.prog 24 = some (.slice 44) := by kernel_rfl
theorem ty181 : isIface Try.prog 24 = some false := by kernel_rfl
theorem ty182 : Program.concrete Try.prog 24 = true := by kernel_rfl
theorem ty183 : ts Try.prog 25 = some 1 := by kernel_rfl
theorem ty184 : ta Try.prog 25 = some false := by kernel_rfl
theorem ty185 : tby Try.prog 25 = some 0 := by kernel_rfl
theorem ty186 : isIface Try.prog 25 = some false := by kernel_rfl
theorem ty187 : Program.concrete Try.prog 25 = true := by kernel_rfl
theorem ty188 : ts Try.prog 26 = some 1 := by kernel_rfl
theorem ty189 : ta Try.prog 26 = some false := by kernel_rfl
theorem ty190 : tby Try.prog 26 = some 8 := by kernel_rfl
theorem ty191 : tz Try.prog 26 = some [Value.nilFunc] := by kernel_rfl
theorem ty192 : isIface Try.prog 26 = some false := by kernel_rfl
theorem ty193 : Program.concrete Try.prog 26 = true := by kernel_rfl
theorem ty194 : ts Try.prog 27 = some 1 := by kernel_rfl
theorem ty195 : ta Try.prog 27 = some false := by kernel_rfl
theorem ty196 : tby Try.prog 27 = some 8 := by kernel_rfl
theorem ty197 : tz Try.prog 27 = some [Value.int IntKind.i64 0] := by kernel_rfl
theorem ty198 : Program.underlying Try.prog 27 = some (.int IntKind.i64) := by kernel_rfl
theorem ty199 : isIface Try.prog 27 = some false := by kernel_rfl
theorem ty200 : Program.concrete Try.prog 27 = true := by kernel_rfl
theorem ty201 : ts Try.prog 28 = some 3 := by kernel_rfl
theorem ty202 : ta Try.prog 28 = some true := by kernel_rfl
theorem ty203 : tby Try.prog 28 = some 32 := by kernel_rfl
theorem ty204 : tz Try.prog 28 = some [Value.int IntKind.i64 0, Value.int IntKind.i64 0, Value.string { data := #[] }] := by kernel_rfl
theorem ty205 : tfs Try.prog 28 = some [(0, 1), (1, 1), (2, 1)] := by kernel_rfl
theorem ty206 : isIface Try.prog 28 = some false := by kernel_rfl
theorem ty207 : Program.concrete Try.prog 28 = true := by kernel_rfl
theorem ty208 : tf Try.prog 28 0 = some (0, 1, false) := by kernel_rfl
theorem ty209 : tf Try.prog 28 1 = some (1, 1, false) := by kernel_rfl
theorem ty210 : tf Try.prog 28 2 = some (2, 1, false) := by kernel_rfl
theorem ty211 : ts Try.prog 29 = some 3 := by kernel_rfl
theorem ty212 : ta Try.prog 29 = some true := by kernel_rfl
theorem ty213 : tby Try.prog 29 = some 32 := by kernel_rfl
theorem ty214 : tz Try.prog 29 = some [Value.int IntKind.i64 0, Value.int IntKind.i64 0, Value.string { data := #[] }] := by kernel_rfl
theorem ty215 : tfs Try.prog 29 = some [(0, 1), (1, 1), (2, 1)] := by kernel_rfl
theorem ty216 : isIface Try.prog 29 = some false := by kernel_rfl
theorem ty217 : Program.concrete Try.prog 29 = true := by kernel_rfl
theorem ty218 : tf Try.prog 29 0 = some (0, 1, false) := by kernel_rfl
theorem ty219 : tf Try.prog 29 1 = some (1, 1, false) := by kernel_rfl
theorem ty220 : tf Try.prog 29 2 = some (2, 1, false) := by kernel_rfl
theorem ty221 : ts Try.prog 30 = some 1 := by kernel_rfl
theorem ty222 : ta Try.prog 30 = some false := by kernel_rfl
theorem ty223 : tby Try.prog 30 = some 0 := by kernel_rfl
theorem ty224 : isIface Try.prog 30 = some false := by kernel_rfl
theorem ty225 : Program.concrete Try.prog 30 = true := by kernel_rfl
theorem ty226 : ts Try.prog 31 = some 1 := by kernel_rfl
theorem ty227 : ta Try.prog 31 = some false := by kernel_rfl
theorem ty228 : tby Try.prog 31 = some 8 := by kernel_rfl
theorem ty229 : tz Try.prog 31 = some [Value.nilFunc] := by kernel_rfl
theorem ty230 : isIface Try.prog 31 = some false := by kernel_rfl
theorem ty231 : Program.concrete Try.prog 31 = true := by kernel_rfl
theorem ty232 : ts Try.prog 32 = some 1 := by kernel_rfl
theorem ty233 : ta Try.prog 32 = some false := by kernel_rfl
theorem ty234 : tby Try.prog 32 = some 0 := by kernel_rfl
theorem ty235 : isIface Try.prog 32 = some false := by kernel_rfl
theorem ty236 : Program.concrete Try.prog 32 = true := by kernel_rfl
theorem ty237 : ts Try.prog 33 = some 1 := by kernel_rfl
theorem ty238 : ta Try.prog 33 = some false := by kernel_rfl
theorem ty239 : tby Try.prog 33 = some 8 := by kernel_rfl
theorem ty240 : tz Try.prog 33 = some [Value.nilFunc] := by kernel_rfl
theorem ty241 : isIface Try.prog 33 = some false := by kernel_rfl
theorem ty242 : Program.concrete Try.prog 33 = true := by kernel_rfl
theorem ty243 : ts Try.prog 34 = some 1 := by kernel_rfl
theorem ty244 : ta Try.prog 34 = some false := by kernel_rfl
theorem ty245 : tby Try.prog 34 = some 24 := by kernel_rfl
theorem ty246 : tz Try.prog 34 = some [Value.slice none 0 0] := by kernel_rfl
theorem ty247 : Program.underlying Try.prog 34 = some (.slice 62) := by kernel_rfl
theorem ty248 : isIface Try.prog 34 = some false := by kernel_rfl
theorem ty249 : Program.concrete Try.prog 34 = true := by kernel_rfl
theorem ty250 : ts Try.prog 35 = some 1 := by kernel_rfl
theorem ty251 : ta Try.prog 35 = some false := by kernel_rfl
theorem ty252 : tby Try.prog 35 = some 8 := by kernel_rfl
theorem ty253 : tz Try.prog 35 = some [Value.nilFunc] := by kernel_rfl
theorem ty254 : isIface Try.prog 35 = some false := by kernel_rfl
theorem ty255 : Program.concrete Try.prog 35 = true := by kernel_rfl
theorem ty256 : ts Try.prog 36 = some 1 := by kernel_rfl
theorem ty257 : ta Try.prog 36 = some false := by kernel_rfl
theorem ty258 : tby Try.prog 36 = some 8 := by kernel_rfl
theorem ty259 : tz Try.prog 36 = some [Value.nilFunc] := by kernel_rfl
theorem ty260 : isIface Try.prog 36 = some false := by kernel_rfl
theorem ty261 : Program.concrete Try.prog 36 = true := by kernel_rfl
theorem ty262 : ts Try.prog 37 = some 1 := by kernel_rfl
theorem ty263 : ta Try.prog 37 = some false := by kernel_rfl
theorem ty264 : tby Try.prog 37 = some 8 := by kernel_rfl
theorem ty265 : tz Try.prog 37 = some [Value.nilFunc] := by kernel_rfl
theorem ty266 : isIface Try.prog 37 = some false := by kernel_rfl
theorem ty267 : Program.concrete Try.prog 37 = true := by kernel_rfl
theorem ty268 : ts Try.prog 38 = some 1 := by kernel_rfl
theorem ty269 : ta Try.prog 38 = some false := by kernel_rfl
theorem ty270 : tby Try.prog 38 = some 0 := by kernel_rfl
theorem ty271 : isIface Try.prog 38 = some false := by kernel_rfl
theorem ty272 : Program.concrete Try.prog 38 = true := by kernel_rfl
theorem ty273 : ts Try.prog 39 = some 1 := by kernel_rfl
theorem ty274 : ta Try.prog 39 = some false := by kernel_rfl
theorem ty275 : tby Try.prog 39 = some 8 := by kernel_rfl
theorem ty276 : tz Try.prog 39 = some [Value.nilFunc] := by kernel_rfl
theorem ty277 : isIface Try.prog 39 = some false := by kernel_rfl
theorem ty278 : Program.concrete Try.prog 39 = true := by kernel_rfl
theorem ty279 : ts Try.prog 40 = some 1 := by kernel_rfl
theorem ty280 : ta Try.prog 40 = some false := by kernel_rfl
theorem ty281 : tby Try.prog 40 = some 0 := by kernel_rfl
theorem ty282 : isIface Try.prog 40 = some false := by kernel_rfl
theorem ty283 : Program.concrete Try.prog 40 = true := by kernel_rfl
theorem ty284 : ts Try.prog 41 = some 1 := by kernel_rfl
theorem ty285 : ta Try.prog 41 = some false := by kernel_rfl
theorem ty286 : tby Try.prog 41 = some 8 := by kernel_rfl
theorem ty287 : tz Try.prog 41 = some [Value.nilFunc] := by kernel_rfl
theorem ty288 : isIface Try.prog 41 = some false := by kernel_rfl
theorem ty289 : Program.concrete Try.prog 41 = true := by kernel_rfl
theorem ty290 : ts Try.prog 42 = some 1 := by kernel_rfl
theorem ty291 : ta Try.prog 42 = some false := by kernel_rfl
theorem ty292 : tby Try.prog 42 = some 8 := by kernel_rfl
theorem ty293 : tz Try.prog 42 = some [Value.nilFunc] := by kernel_rfl
theorem ty294 : isIface Try.prog 42 = some false := by kernel_rfl
theorem ty295 : Program.concrete Try.prog 42 = true := by kernel_rfl
theorem ty296 : ts Try.prog 43 = some 3 := by kernel_rfl
theorem ty297 : ta Try.prog 43 = some true := by kernel_rfl
theorem ty298 : tby Try.prog 43 = some 32 := by kernel_rfl
theorem ty299 : tz Try.prog 43 = some [Value.int IntKind.i64 0, Value.int IntKind.i64 0, Value.string { data := #[] }] := by kernel_rfl
theorem ty300 : tfs Try.prog 43 = some [(0, 1), (1, 1), (2, 1)] := by kernel_rfl
theorem ty301 : isIface Try.prog 43 = some false := by kernel_rfl
theorem ty302 : Program.concrete Try.prog 43 = true := by kernel_rfl
theorem ty303 : tf Try.prog 43 0 = some (0, 1, false) := by kernel_rfl
theorem ty304 : tf Try.prog 43 1 = some (1, 1, false) := by kernel_rfl
theorem ty305 : tf Try.prog 43 2 = some (2, 1, false) := by kernel_rfl
theorem ty306 : ts Try.prog 44 = some 3 := by kernel_rfl
theorem ty307 : ta Try.prog 44 = some true := by kernel_rfl
theorem ty308 : tby Try.prog 44 = some 32 := by kernel_rfl
theorem ty309 : tz Try.prog 44 = some [Value.int IntKind.i64 0, Value.int IntKind.i64 0, Value.string { data := #[] }] := by kernel_rfl
theorem ty310 : tfs Try.prog 44 = some [(0, 1), (1, 1), (2, 1)] := by kernel_rfl
theorem ty311 : isIface Try.prog 44 = some false := by kernel_rfl
theorem ty312 : Program.concrete Try.prog 44 = true := by kernel_rfl
theorem ty313 : tf Try.prog 44 0 = some (0, 1, false) := by kernel_rfl
theorem ty314 : tf Try.prog 44 1 = some (1, 1, false) := by kernel_rfl
theorem ty315 : tf Try.prog 44 2 = some (2, 1, false) := by kernel_rfl
theorem ty316 : ts Try.prog 45 = some 3 := by kernel_rfl
theorem ty317 : ta Try.prog 45 = some true := by kernel_rfl
theorem ty318 : tby Try.prog 45 = some 32 := by kernel_rfl
theorem ty319 : tz Try.prog 45 = some [Value.int IntKind.i64 0, Value.int IntKind.i64 0, Value.string { data := #[] }] := by kernel_rfl
theorem ty320 : tfs Try.prog 45 = some [(0, 1), (1, 1), (2, 1)] := by kernel_rfl
theorem ty321 : isIface Try.prog 45 = some false := by kernel_rfl
theorem ty322 : Program.concrete Try.prog 45 = true := by kernel_rfl
theorem ty323 : tf Try.prog 45 0 = some (0, 1, false) := by kernel_rfl
theorem ty324 : tf Try.prog 45 1 = some (1, 1, false) := by kernel_rfl
theorem ty325 : tf Try.prog 45 2 = some (2, 1, false) := by kernel_rfl
theorem ty326 : ts Try.prog 46 = some 1 := by kernel_rfl
theorem ty327 : ta Try.prog 46 = some false := by kernel_rfl
theorem ty328 : tby Try.prog 46 = some 8 := by kernel_rfl
theorem ty329 : tz Try.prog 46 = some [Value.nilFunc] := by kernel_rfl
theorem ty330 : isIface Try.prog 46 = some false := by kernel_rfl
theorem ty331 : Program.concrete Try.prog 46 = true := by kernel_rfl
theorem ty332 : ts Try.prog 47 = some 1 := by kernel_rfl
theorem ty333 : ta Try.prog 47 = some false := by kernel_rfl
theorem ty334 : tby Try.prog 47 = some 8 := by kernel_rfl
theorem ty335 : tz Try.prog 47 = some [Value.nilFunc] := by kernel_rfl
theorem ty336 : isIface Try.prog 47 = some false := by kernel_rfl
theorem ty337 : Program.concrete Try.prog 47 = true := by kernel_rfl
theorem ty338 : ts Try.prog 48 = some 1 := by kernel_rfl
theorem ty339 : ta Try.prog 48 = some false := by kernel_rfl
theorem ty340 : tby Try.prog 48 = some 8 := by kernel_rfl
theorem ty341 : tz Try.prog 48 = some [Value.nilFunc] := by kernel_rfl
theorem ty342 : isIface Try.prog 48 = some false := by kernel_rfl
theorem ty343 : Program.concrete Try.prog 48 = true := by kernel_rfl
theorem ty344 : ts Try.prog 49 = some 1 := by kernel_rfl
theorem ty345 : ta Try.prog 49 = some false := by kernel_rfl
theorem ty346 : tby Try.prog 49 = some 8 := by kernel_rfl
theorem ty347 : tz Try.prog 49 = some [Value.nilFunc] := by kernel_rfl
theorem ty348 : isIface Try.prog 49 = some false := by kernel_rfl
theorem ty349 : Program.concrete Try.prog 49 = true := by kernel_rfl
theorem ty350 : ts Try.prog 50 = some 1 := by kernel_rfl
theorem ty351 : ta Try.prog 50 = some false := by kernel_rfl
theorem ty352 : tby Try.prog 50 = some 8 := by kernel_rfl
theorem ty353 : tz Try.prog 50 = some [Value.pointer none] := by kernel_rfl
theorem ty354 : Program.underlying Try.prog 50 = some (.pointer 53) := by kernel_rfl
theorem ty355 : isIface Try.prog 50 = some false := by kernel_rfl
theorem ty356 : Program.concrete Try.prog 50 = true := by kernel_rfl
theorem ty357 : ts Try.prog 51 = some 1 := by kernel_rfl
theorem ty358 : ta Try.prog 51 = some false := by kernel_rfl
theorem ty359 : tby Try.prog 51 = some 24 := by kernel_rfl
theorem ty360 : tz Try.prog 51 = some [Value.slice none 0 0] := by kernel_rfl
theorem ty361 : Program.underlying Try.prog 51 = some (.slice 5) := by kernel_rfl
theorem ty362 : isIface Try.prog 51 = some false := by kernel_rfl
theorem ty363 : Program.concrete Try.prog 51 = true := by kernel_rfl
theorem ty364 : ts Try.prog 52 = some 2 := by kernel_rfl
theorem ty365 : ta Try.prog 52 = some true := by kernel_rfl
theorem ty366 : tby Try.prog 52 = some 32 := by kernel_rfl
theorem ty367 : tz Try.prog 52 = some [Value.pointer none, Value.slice none 0 0] := by kernel_rfl
theorem ty368 : tfs Try.prog 52 = some [(0, 1), (1, 1)] := by kernel_rfl
theorem ty369 : isIface Try.prog 52 = some false := by kernel_rfl
theorem ty370 : Program.concrete Try.prog 52 = true := by kernel_rfl
theorem ty371 : tf Try.prog 52 0 = some (0, 1, false) := by kernel_rfl
theorem ty372 : tf Try.prog 52 1 = some (1, 1, false) := by kernel_rfl
theorem ty373 : ts Try.prog 53 = some 2 := by kernel_rfl
theorem ty374 : ta Try.prog 53 = some true := by kernel_rfl
theorem ty375 : tby Try.prog 53 = some 32 := by kernel_rfl
theorem ty376 : tz Try.prog 53 = some [Value.pointer none, Value.slice none 0 0] := by kernel_rfl
theorem ty377 : tfs Try.prog 53 = some [(0, 1), (1, 1)] := by kernel_rfl
theorem ty378 : isIface Try.prog 53 = some false := by kernel_rfl
theorem ty379 : Program.concrete Try.prog 53 = true := by kernel_rfl
theorem ty380 : tf Try.prog 53 0 = some (0, 1, false) := by kernel_rfl
theorem ty381 : tf Try.prog 53 1 = some (1, 1, false) := by kernel_rfl
theorem ty382 : ts Try.prog 54 = some 1 := by kernel_rfl
theorem ty383 : ta Try.prog 54 = some false := by kernel_rfl
theorem ty384 : tby Try.prog 54 = some 16 := by kernel_rfl
theorem ty385 : tz Try.prog 54 = some [Value.nilIface] := by kernel_rfl
theorem ty386 : isIface Try.prog 54 = some true := by kernel_rfl
theorem ty387 : ts Try.prog 55 = some 1 := by kernel_rfl
theorem ty388 : ta Try.prog 55 = some false := by kernel_rfl
theorem ty389 : tby Try.prog 55 = some 16 := by kernel_rfl
theorem ty390 : tz Try.prog 55 = some [Value.nilIface] := by kernel_rfl
theorem ty391 : isIface Try.prog 55 = some true := by kernel_rfl
theorem ty392 : ts Try.prog 56 = some 1 := by kernel_rfl
theorem ty393 : ta Try.prog 56 = some false := by kernel_rfl
theorem ty394 : tby Try.prog 56 = some 0 := by kernel_rfl
theorem ty395 : isIface Try.prog 56 = some false := by kernel_rfl
theorem ty396 : Program.concrete Try.prog 56 = true := by kernel_rfl
theorem ty397 : ts Try.prog 57 = some 1 := by kernel_rfl
theorem ty398 : ta Try.prog 57 = some false := by kernel_rfl
theorem ty399 : tby Try.prog 57 = some 8 := by kernel_rfl
theorem ty400 : tz Try.prog 57 = some [Value.nilFunc] := by kernel_rfl
theorem ty401 : isIface Try.prog 57 = some false := by kernel_rfl
theorem ty402 : Program.concrete Try.prog 57 = true := by kernel_rfl
theorem ty403 : ts Try.prog 58 = some 1 := by kernel_rfl
theorem ty404 : ta Try.prog 58 = some false := by kernel_rfl
theorem ty405 : tby Try.prog 58 = some 8 := by kernel_rfl
theorem ty406 : tz Try.prog 58 = some [Value.nilFunc] := by kernel_rfl
theorem ty407 : isIface Try.prog 58 = some false := by kernel_rfl
theorem ty408 : Program.concrete Try.prog 58 = true := by kernel_rfl
theorem ty409 : ts Try.prog 59 = some 1 := by kernel_rfl
theorem ty410 : ta Try.prog 59 = some false := by kernel_rfl
theorem ty411 : tby Try.prog 59 = some 8 := by kernel_rfl
theorem ty412 : tz Try.prog 59 = some [Value.nilFunc] := by kernel_rfl
theorem ty413 : isIface Try.prog 59 = some false := by kernel_rfl
theorem ty414 : Program.concrete Try.prog 59 = true := by kernel_rfl
theorem ty415 : ts Try.prog 60 = some 1 := by kernel_rfl
theorem ty416 : ta Try.prog 60 = some false := by kernel_rfl
theorem ty417 : tby Try.prog 60 = some 0 := by kernel_rfl
theorem ty418 : isIface Try.prog 60 = some false := by kernel_rfl
theorem ty419 : Program.concrete Try.prog 60 = true := by kernel_rfl
theorem ty420 : ts Try.prog 61 = some 1 := by kernel_rfl
theorem ty421 : ta Try.prog 61 = some false := by kernel_rfl
theorem ty422 : tby Try.prog 61 = some 8 := by kernel_rfl
theorem ty423 : tz Try.prog 61 = some [Value.nilFunc] := by kernel_rfl
theorem ty424 : isIface Try.prog 61 = some false := by kernel_rfl
theorem ty425 : Program.concrete Try.prog 61 = true := by kernel_rfl
theorem ty426 : ts Try.prog 62 = some 3 := by kernel_rfl
theorem ty427 : ta Try.prog 62 = some true := by kernel_rfl
theorem ty428 : tby Try.prog 62 = some 32 := by kernel_rfl
theorem ty429 : tz Try.prog 62 = some [Value.int IntKind.i64 0, Value.int IntKind.i64 0, Value.string { data := #[] }] := by kernel_rfl
theorem ty430 : tfs Try.prog 62 = some [(0, 1), (1, 1), (2, 1)] := by kernel_rfl
theorem ty431 : isIface Try.prog 62 = some false := by kernel_rfl
theorem ty432 : Program.concrete Try.prog 62 = true := by kernel_rfl
theorem ty433 : tf Try.prog 62 0 = some (0, 1, false) := by kernel_rfl
theorem ty434 : tf Try.prog 62 1 = some (1, 1, false) := by kernel_rfl
theorem ty435 : tf Try.prog 62 2 = some (2, 1, false) := by kernel_rfl
theorem ty436 : ts Try.prog 63 = some 1 := by kernel_rfl
theorem ty437 : ta Try.prog 63 = some false := by kernel_rfl
theorem ty438 : tby Try.prog 63 = some 8 := by kernel_rfl
theorem ty439 : tz Try.prog 63 = some [Value.pointer none] := by kernel_rfl
theorem ty440 : Program.underlying Try.prog 63 = some (.pointer 5) := by kernel_rfl
theorem ty441 : isIface Try.prog 63 = some false := by kernel_rfl
theorem ty442 : Program.concrete Try.prog 63 = true := by kernel_rfl
theorem ty443 : ts Try.prog 64 = some 1 := by kernel_rfl
theorem ty444 : ta Try.prog 64 = some false := by kernel_rfl
theorem ty445 : tby Try.prog 64 = some 8 := by kernel_rfl
theorem ty446 : tz Try.prog 64 = some [Value.pointer none] := by kernel_rfl
theorem ty447 : isIface Try.prog 64 = some false := by kernel_rfl
theorem ty448 : Program.concrete Try.prog 64 = true := by kernel_rfl
theorem ty449 : ts Try.prog 65 = some 1 := by kernel_rfl
theorem ty450 : ta Try.prog 65 = some false := by kernel_rfl
theorem ty451 : tby Try.prog 65 = some 8 := by kernel_rfl
theorem ty452 : tz Try.prog 65 = some [Value.nilFunc] := by kernel_rfl
theorem ty453 : isIface Try.prog 65 = some false := by kernel_rfl
theorem ty454 : Program.concrete Try.prog 65 = true := by kernel_rfl
theorem ty455 : ts Try.prog 66 = some 4 := by kernel_rfl
theorem ty456 : ta Try.prog 66 = some true := by kernel_rfl
theorem ty457 : tby Try.prog 66 = some 40 := by kernel_rfl
theorem ty458 : tz Try.prog 66 = some [Value.pointer none, Value.pointer none, Value.pointer none, Value.string { data := #[] }] := by kernel_rfl
theorem ty459 : tfs Try.prog 66 = some [(0, 1), (1, 1), (2, 1), (3, 1)] := by kernel_rfl
theorem ty460 : isIface Try.prog 66 = some false := by kernel_rfl
theorem ty461 : Program.concrete Try.prog 66 = true := by kernel_rfl
theorem ty462 : tf Try.prog 66 0 = some (0, 1, false) := by kernel_rfl
theorem ty463 : tf Try.prog 66 1 = some (1, 1, false) := by kernel_rfl
theorem ty464 : tf Try.prog 66 2 = some (2, 1, false) := by kernel_rfl
theorem ty465 : tf Try.prog 66 3 = some (3, 1, false) := by kernel_rfl
theorem ty466 : ts Try.prog 67 = some 4 := by kernel_rfl
theorem ty467 : ta Try.prog 67 = some true := by kernel_rfl
theorem ty468 : tby Try.prog 67 = some 40 := by kernel_rfl
theorem ty469 : tz Try.prog 67 = some [Value.pointer none, Value.pointer none, Value.pointer none, Value.string { data := #[] }] := by kernel_rfl
theorem ty470 : tfs Try.prog 67 = some [(0, 1), (1, 1), (2, 1), (3, 1)] := by kernel_rfl
theorem ty471 : isIface Try.prog 67 = some false := by kernel_rfl
theorem ty472 : Program.concrete Try.prog 67 = true := by kernel_rfl
theorem ty473 : tf Try.prog 67 0 = some (0, 1, false) := by kernel_rfl
theorem ty474 : tf Try.prog 67 1 = some (1, 1, false) := by kernel_rfl
theorem ty475 : tf Try.prog 67 2 = some (2, 1, false) := by kernel_rfl
theorem ty476 : tf Try.prog 67 3 = some (3, 1, false) := by kernel_rfl
theorem ty477 : ts Try.prog 68 = some 0 := by kernel_rfl
theorem ty478 : ta Try.prog 68 = some true := by kernel_rfl
theorem ty479 : tby Try.prog 68 = some 0 := by kernel_rfl
theorem ty480 : tz Try.prog 68 = some [] := by kernel_rfl
theorem ty481 : Program.underlying Try.prog 68 = some (.array 0 16) := by kernel_rfl
theorem ty482 : isIface Try.prog 68 = some false := by kernel_rfl
theorem ty483 : Program.concrete Try.prog 68 = true := by kernel_rfl
theorem ty484 : ts Try.prog 69 = some 0 := by kernel_rfl
theorem ty485 : ta Try.prog 69 = some true := by kernel_rfl
theorem ty486 : tby Try.prog 69 = some 0 := by kernel_rfl
theorem ty487 : tz Try.prog 69 = some [] := by kernel_rfl
theorem ty488 : tfs Try.prog 69 = some [(0, 0)] := by kernel_rfl
theorem ty489 : isIface Try.prog 69 = some false := by kernel_rfl
theorem ty490 : Program.concrete Try.prog 69 = true := by kernel_rfl
theorem ty491 : tf Try.prog 69 0 = some (0, 0, true) := by kernel_rfl
theorem ty492 : ts Try.prog 70 = some 0 := by kernel_rfl
theorem ty493 : ta Try.prog 70 = some true := by kernel_rfl
theorem ty494 : tby Try.prog 70 = some 0 := by kernel_rfl
theorem ty495 : tz Try.prog 70 = some [] := by kernel_rfl
theorem ty496 : tfs Try.prog 70 = some [(0, 0)] := by kernel_rfl
theorem ty497 : isIface Try.prog 70 = some false := by kernel_rfl
theorem ty498 : Program.concrete Try.prog 70 = true := by kernel_rfl
theorem ty499 : tf Try.prog 70 0 = some (0, 0, true) := by kernel_rfl
theorem ty500 : ts Try.prog 71 = some 1 := by kernel_rfl
theorem ty501 : ta Try.prog 71 = some false := by kernel_rfl
theorem ty502 : tby Try.prog 71 = some 4 := by kernel_rfl
theorem ty503 : tz Try.prog 71 = some [Value.int IntKind.u32 0] := by kernel_rfl
theorem ty504 : Program.underlying Try.prog 71 = some (.int IntKind.u32) := by kernel_rfl
theorem ty505 : isIface Try.prog 71 = some false := by kernel_rfl
theorem ty506 : Program.concrete Try.prog 71 = true := by kernel_rfl
theorem ty507 : ts Try.prog 72 = some 1 := by kernel_rfl
theorem ty508 : ta Try.prog 72 = some false := by kernel_rfl
theorem ty509 : tby Try.prog 72 = some 1 := by kernel_rfl
theorem ty510 : tz Try.prog 72 = some [Value.int IntKind.u8 0] := by kernel_rfl
theorem ty511 : Program.underlying Try.prog 72 = some (.int IntKind.u8) := by kernel_rfl
theorem ty512 : isIface Try.prog 72 = some false := by kernel_rfl
theorem ty513 : Program.concrete Try.prog 72 = true := by kernel_rfl
theorem ty514 : ts Try.prog 73 = some 1 := by kernel_rfl
theorem ty515 : ta Try.prog 73 = some false := by kernel_rfl
theorem ty516 : tby Try.prog 73 = some 1 := by kernel_rfl
theorem ty517 : tz Try.prog 73 = some [Value.int IntKind.u8 0] := by kernel_rfl
theorem ty518 : Program.underlying Try.prog 73 = some (.int IntKind.u8) := by kernel_rfl
theorem ty519 : isIface Try.prog 73 = some false := by kernel_rfl
theorem ty520 : Program.concrete Try.prog 73 = true := by kernel_rfl
theorem ty521 : ts Try.prog 74 = some 1 := by kernel_rfl
theorem ty522 : ta Try.prog 74 = some false := by kernel_rfl
theorem ty523 : tby Try.prog 74 = some 8 := by kernel_rfl
theorem ty524 : tz Try.prog 74 = some [Value.nilFunc] := by kernel_rfl
theorem ty525 : isIface Try.prog 74 = some false := by kernel_rfl
theorem ty526 : Program.concrete Try.prog 74 = true := by kernel_rfl
theorem ty527 : ts Try.prog 75 = some 1 := by kernel_rfl
theorem ty528 : ta Try.prog 75 = some false := by kernel_rfl
theorem ty529 : tby Try.prog 75 = some 4 := by kernel_rfl
theorem ty530 : tz Try.prog 75 = some [Value.int IntKind.i32 0] := by kernel_rfl
theorem ty531 : Program.underlying Try.prog 75 = some (.int IntKind.i32) := by kernel_rfl
theorem ty532 : isIface Try.prog 75 = some false := by kernel_rfl
theorem ty533 : Program.concrete Try.prog 75 = true := by kernel_rfl
theorem ty534 : ts Try.prog 76 = some 1 := by kernel_rfl
theorem ty535 : ta Try.prog 76 = some false := by kernel_rfl
theorem ty536 : tby Try.prog 76 = some 4 := by kernel_rfl
theorem ty537 : tz Try.prog 76 = some [Value.int IntKind.i32 0] := by kernel_rfl
theorem ty538 : Program.underlying Try.prog 76 = some (.int IntKind.i32) := by kernel_rfl
theorem ty539 : isIface Try.prog 76 = some false := by kernel_rfl
theorem ty540 : Program.concrete Try.prog 76 = true := by kernel_rfl
theorem ty541 : ts Try.prog 77 = some 11 := by kernel_rfl
theorem ty542 : ta Try.prog 77 = some true := by kernel_rfl
theorem ty543 : tby Try.prog 77 = some 48 := by kernel_rfl
theorem ty544 : tz Try.prog 77 = some [Value.int IntKind.u64 0, Value.int IntKind.u64 0, Value.int IntKind.u32 0, Value.int IntKind.u8 0, Value.int IntKind.u8 0, Value.int IntKind.u8 0, Value.int IntKind.u8 0, Value.nilFunc, Value.pointer none, Value.int IntKind.i32 0, Value.int IntKind.i32 0] := by kernel_rfl
theorem ty545 : tfs Try.prog 77 = some [(0, 1), (1, 1), (2, 1), (3, 1), (4, 1), (5, 1), (6, 1), (7, 1), (8, 1), (9, 1), (10, 1)] := by kernel_rfl
theorem ty546 : isIface Try.prog 77 = some false := by kernel_rfl
theorem ty547 : Program.concrete Try.prog 77 = true := by kernel_rfl
theorem ty548 : tf Try.prog 77 0 = some (0, 1, false) := by kernel_rfl
theorem ty549 : tf Try.prog 77 1 = some (1, 1, false) := by kernel_rfl
theorem ty550 : tf Try.prog 77 2 = some (2, 1, false) := by kernel_rfl
theorem ty551 : tf Try.prog 77 3 = some (3, 1, false) := by kernel_rfl
theorem ty552 : tf Try.prog 77 4 = some (4, 1, false) := by kernel_rfl
theorem ty553 : tf Try.prog 77 5 = some (5, 1, false) := by kernel_rfl
theorem ty554 : tf Try.prog 77 6 = some (6, 1, false) := by kernel_rfl
theorem ty555 : tf Try.prog 77 7 = some (7, 1, false) := by kernel_rfl
theorem ty556 : tf Try.prog 77 8 = some (8, 1, false) := by kernel_rfl
theorem ty557 : tf Try.prog 77 9 = some (9, 1, false) := by kernel_rfl
theorem ty558 : tf Try.prog 77 10 = some (10, 1, false) := by kernel_rfl
theorem ty559 : ts Try.prog 78 = some 11 := by kernel_rfl
theorem ty560 : ta Try.prog 78 = some true := by kernel_rfl
theorem ty561 : tby Try.prog 78 = some 48 := by kernel_rfl
theorem ty562 : tz Try.prog 78 = some [Value.int IntKind.u64 0, Value.int IntKind.u64 0, Value.int IntKind.u32 0, Value.int IntKind.u8 0, Value.int IntKind.u8 0, Value.int IntKind.u8 0, Value.int IntKind.u8 0, Value.nilFunc, Value.pointer none, Value.int IntKind.i32 0, Value.int IntKind.i32 0] := by kernel_rfl
theorem ty563 : tfs Try.prog 78 = some [(0, 1), (1, 1), (2, 1), (3, 1), (4, 1), (5, 1), (6, 1), (7, 1), (8, 1), (9, 1), (10, 1)] := by kernel_rfl
theorem ty564 : isIface Try.prog 78 = some false := by kernel_rfl
theorem ty565 : Program.concrete Try.prog 78 = true := by kernel_rfl
theorem ty566 : tf Try.prog 78 0 = some (0, 1, false) := by kernel_rfl
theorem ty567 : tf Try.prog 78 1 = some (1, 1, false) := by kernel_rfl
theorem ty568 : tf Try.prog 78 2 = some (2, 1, false) := by kernel_rfl
theorem ty569 : tf Try.prog 78 3 = some (3, 1, false) := by kernel_rfl
theorem ty570 : tf Try.prog 78 4 = some (4, 1, false) := by kernel_rfl
theorem ty571 : tf Try.prog 78 5 = some (5, 1, false) := by kernel_rfl
theorem ty572 : tf Try.prog 78 6 = some (6, 1, false) := by kernel_rfl
theorem ty573 : tf Try.prog 78 7 = some (7, 1, false) := by kernel_rfl
theorem ty574 : tf Try.prog 78 8 = some (8, 1, false) := by kernel_rfl
theorem ty575 : tf Try.prog 78 9 = some (9, 1, false) := by kernel_rfl
theorem ty576 : tf Try.prog 78 10 = some (10, 1, false) := by kernel_rfl

def tyF0 := (And.intro ty0 (And.intro ty1 (And.intro ty2 (And.intro ty3 (And.intro ty4 (And.intro ty5 (And.intro ty6 (And.intro ty7 (And.intro ty8 (And.intro ty9 (And.intro ty10 (And.intro ty11 (And.intro ty12 (And.intro ty13 (And.intro ty14 (And.intro ty15 (And.intro ty16 (And.intro ty17 (And.intro ty18 (And.intro ty19 (And.intro ty20 (And.intro ty21 (And.intro ty22 (And.intro ty23 (And.intro ty24 (And.intro ty25 (And.intro ty26 (And.intro ty27 (And.intro ty28 (And.intro ty29 (And.intro ty30 (And.intro ty31 (And.intro ty32 (And.intro ty33 (And.intro ty34 (And.intro ty35 (And.intro ty36 (And.intro ty37 (And.intro ty38 (And.intro ty39 (And.intro ty40 (And.intro ty41 (And.intro ty42 (And.intro ty43 (And.intro ty44 (And.intro ty45 (And.intro ty46 (And.intro ty47 (And.intro ty48 (And.intro ty49 (And.intro ty50 (And.intro ty51 (And.intro ty52 (And.intro ty53 (And.intro ty54 (And.intro ty55 (And.intro ty56 (And.intro ty57 (And.intro ty58 ty59)))))))))))))))))))))))))))))))))))))))))))))))))))))))))))
def tyF1 := (And.intro ty60 (And.intro ty61 (And.intro ty62 (And.intro ty63 (And.intro ty64 (And.intro ty65 (And.intro ty66 (And.intro ty67 (And.intro ty68 (And.intro ty69 (And.intro ty70 (And.intro ty71 (And.intro ty72 (And.intro ty73 (And.intro ty74 (And.intro ty75 (And.intro ty76 (And.intro ty77 (And.intro ty78 (And.intro ty79 (And.intro ty80 (And.intro ty81 (And.intro ty82 (And.intro ty83 (And.intro ty84 (And.intro ty85 (And.intro ty86 (And.intro ty87 (And.intro ty88 (And.intro ty89 (And.intro ty90 (And.intro ty91 (And.intro ty92 (And.intro ty93 (And.intro ty94 (And.intro ty95 (And.intro ty96 (And.intro ty97 (And.intro ty98 (And.intro ty99 (And.intro ty100 (And.intro ty101 (And.intro ty102 (And.intro ty103 (And.intro ty104 (And.intro ty105 (And.intro ty106 (And.intro ty107 (And.intro ty108 (And.intro ty109 (And.intro ty110 (And.intro ty111 (And.intro ty112 (And.intro ty113 (And.intro ty114 (And.intro ty115 (And.intro ty116 (And.intro ty117 (And.intro ty118 ty119)))))))))))))))))))))))))))))))))))))))))))))))))))))))))))
def tyF2 := (And.intro ty120 (And.intro ty121 (And.intro ty122 (And.intro ty123 (And.intro ty124 (And.intro ty125 (And.intro ty126 (And.intro ty127 (And.intro ty128 (And.intro ty129 (And.intro ty130 (And.intro ty131 (And.intro ty132 (And.intro ty133 (And.intro ty134 (And.intro ty135 (And.intro ty136 (And.intro ty137 (And.intro ty138 (And.intro ty139 (And.intro ty140 (And.intro ty141 (And.intro ty142 (And.intro ty143 (And.intro ty144 (And.intro ty145 (And.intro ty146 (And.intro ty147 (And.intro ty148 (And.intro ty149 (And.intro ty150 (And.intro ty151 (And.intro ty152 (And.intro ty153 (And.intro ty154 (And.intro ty155 (And.intro ty156 (And.intro ty157 (And.intro ty158 (And.intro ty159 (And.intro ty160 (And.intro ty161 (And.intro ty162 (And.intro ty163 (And.intro ty164 (And.intro ty165 (And.intro ty166 (And.intro ty167 (And.intro ty168 (And.intro ty169 (And.intro ty170 (And.intro ty171 (And.intro ty172 (And.intro ty173 (And.intro ty174 (And.intro ty175 (And.intro ty176 (And.intro ty177 (And.intro ty178 ty179)))))))))))))))))))))))))))))))))))))))))))))))))))))))))))
def tyF3 := (And.intro ty180 (And.intro ty181 (And.intro ty182 (And.intro ty183 (And.intro ty184 (And.intro ty185 (And.intro ty186 (And.intro ty187 (And.intro ty188 (And.intro ty189 (And.intro ty190 (And.intro ty191 (And.intro ty192 (And.intro ty193 (And.intro ty194 (And.intro ty195 (And.intro ty196 (And.intro ty197 (And.intro ty198 (And.intro ty199 (And.intro ty200 (And.intro ty201 (And.intro ty202 (And.intro ty203 (And.intro ty204 (And.intro ty205 (And.intro ty206 (And.intro ty207 (And.intro ty208 (And.intro ty209 (And.intro ty210 (And.intro ty211 (And.intro ty212 (And.intro ty213 (And.intro ty214 (And.intro ty215 (And.intro ty216 (And.intro ty217 (And.intro ty218 (And.intro ty219 (And.intro ty220 (And.intro ty221 (And.intro ty222 (And.intro ty223 (And.intro ty224 (And.intro ty225 (And.intro ty226 (And.intro ty227 (And.intro ty228 (And.intro ty229 (And.intro ty230 (And.intro ty231 (And.intro ty232 (And.intro ty233 (And.intro ty234 (And.intro ty235 (And.intro ty236 (And.intro ty237 (And.intro ty238 ty239)))))))))))))))))))))))))))))))))))))))))))))))))))))))))))
def tyF4 := (And.intro ty240 (And.intro ty241 (And.intro ty242 (And.intro ty243 (And.intro ty244 (And.intro ty245 (And.intro ty246 (And.intro ty247 (And.intro ty248 (And.intro ty249 (And.intro ty250 (And.intro ty251 (And.intro ty252 (And.intro ty253 (And.intro ty254 (And.intro ty255 (And.intro ty256 (And.intro ty257 (And.intro ty258 (And.intro ty259 (And.intro ty260 (And.intro ty261 (And.intro ty262 (And.intro ty263 (And.intro ty264 (And.intro ty265 (And.intro ty266 (And.intro ty267 (And.intro ty268 (And.intro ty269 (And.intro ty270 (And.intro ty271 (And.intro ty272 (And.intro ty273 (And.intro ty274 (And.intro ty275 (And.intro ty276 (And.intro ty277 (And.intro ty278 (And.intro ty279 (And.intro ty280 (And.intro ty281 (And.intro ty282 (And.intro ty283 (And.intro ty284 (And.intro ty285 (And.intro ty286 (And.intro ty287 (And.intro ty288 (And.intro ty289 (And.intro ty290 (And.intro ty291 (And.intro ty292 (And.intro ty293 (And.intro ty294 (And.intro ty295 (And.intro ty296 (And.intro ty297 (And.intro ty298 ty299)))))))))))))))))))))))))))))))))))))))))))))))))))))))))))
def tyF5 := (And.intro ty300 (And.intro ty301 (And.intro ty302 (And.intro ty303 (And.intro ty304 (And.intro ty305 (And.intro ty306 (And.intro ty307 (And.intro ty308 (And.intro ty309 (And.intro ty310 (And.intro ty311 (And.intro ty312 (And.intro ty313 (And.intro ty314 (And.intro ty315 (And.intro ty316 (And.intro ty317 (And.intro ty318 (And.intro ty319 (And.intro ty320 (And.intro ty321 (And.intro ty322 (And.intro ty323 (And.intro ty324 (And.intro ty325 (And.intro ty326 (And.intro ty327 (And.intro ty328 (And.intro ty329 (And.intro ty330 (And.intro ty331 (And.intro ty332 (And.intro ty333 (And.intro ty334 (And.intro ty335 (And.intro ty336 (And.intro ty337 (And.intro ty338 (And.intro ty339 (And.intro ty340 (And.intro ty341 (And.intro ty342 (And.intro ty343 (And.intro ty344 (And.intro ty345 (And.intro ty346 (And.intro ty347 (And.intro ty348 (And.intro ty349 (And.intro ty350 (And.intro ty351 (And.intro ty352 (And.intro ty353 (And.intro ty354 (And.intro ty355 (And.intro ty356 (And.intro ty357 (And.intro ty358 ty359)))))))))))))))))))))))))))))))))))))))))))))))))))))))))))
def tyF6 := (And.intro ty360 (And.intro ty361 (And.intro ty362 (And.intro ty363 (And.intro ty364 (And.intro ty365 (And.intro ty366 (And.intro ty367 (And.intro ty368 (And.intro ty369 (And.intro ty370 (And.intro ty371 (And.intro ty372 (And.intro ty373 (And.intro ty374 (And.intro ty375 (And.intro ty376 (And.intro ty377 (And.intro ty378 (And.intro ty379 (And.intro ty380 (And.intro ty381 (And.intro ty382 (And.intro ty383 (And.intro ty384 (And.intro ty385 (And.intro ty386 (And.intro ty387 (And.intro ty388 (And.intro ty389 (And.intro ty390 (And.intro ty391 (And.intro ty392 (And.intro ty393 (And.intro ty394 (And.intro ty395 (And.intro ty396 (And.intro ty397 (And.intro ty398 (And.intro ty399 (And.intro ty400 (And.intro ty401 (And.intro ty402 (And.intro ty403 (And.intro ty404 (And.intro ty405 (And.intro ty406 (And.intro ty407 (And.intro ty408 (And.intro ty409 (And.intro ty410 (And.intro ty411 (And.intro ty412 (And.intro ty413 (And.intro ty414 (And.intro ty415 (And.intro ty416 (And.intro ty417 (And.intro ty418 ty419)))))))))))))))))))))))))))))))))))))))))))))))))))))))))))
def tyF7 := (And.intro ty420 (And.intro ty421 (And.intro ty422 (And.intro ty423 (And.intro ty424 (And.intro ty425 (And.intro ty426 (And.intro ty427 (And.intro ty428 (And.intro ty429 (And.intro ty430 (And.intro ty431 (And.intro ty432 (And.intro ty433 (And.intro ty434 (And.intro ty435 (And.intro ty436 (And.intro ty437 (And.intro ty438 (And.intro ty439 (And.intro ty440 (And.intro ty441 (And.intro ty442 (And.intro ty443 (And.intro ty444 (And.intro ty445 (And.intro ty446 (And.intro ty447 (And.intro ty448 (And.intro ty449 (And.intro ty450 (And.intro ty451 (And.intro ty452 (And.intro ty453 (And.intro ty454 (And.intro ty455 (And.intro ty456 (And.intro ty457 (And.intro ty458 (And.intro ty459 (And.intro ty460 (And.intro ty461 (And.intro ty462 (And.intro ty463 (And.intro ty464 (And.intro ty465 (And.intro ty466 (And.intro ty467 (And.intro ty468 (And.intro ty469 (And.intro ty470 (And.intro ty471 (And.intro ty472 (And.intro ty473 (And.intro ty474 (And.intro ty475 (And.intro ty476 (And.intro ty477 (And.intro ty478 ty479)))))))))))))))))))))))))))))))))))))))))))))))))))))))))))
def tyF8 := (And.intro ty480 (And.intro ty481 (And.intro ty482 (And.intro ty483 (And.intro ty484 (And.intro ty485 (And.intro ty486 (And.intro ty487 (And.intro ty488 (And.intro ty489 (And.intro ty490 (And.intro ty491 (And.intro ty492 (And.intro ty493 (And.intro ty494 (And.intro ty495 (And.intro ty496 (And.intro ty497 (And.intro ty498 (And.intro ty499 (And.intro ty500 (And.intro ty501 (And.intro ty502 (And.intro ty503 (And.intro ty504 (And.intro ty505 (And.intro ty506 (And.intro ty507 (And.intro ty508 (And.intro ty509 (And.intro ty510 (And.intro ty511 (And.intro ty512 (And.intro ty513 (And.intro ty514 (And.intro ty515 (And.intro ty516 (And.intro ty517 (And.intro ty518 (And.intro ty519 (And.intro ty520 (And.intro ty521 (And.intro ty522 (And.intro ty523 (And.intro ty524 (And.intro ty525 (And.intro ty526 (And.intro ty527 (And.intro ty528 (And.intro ty529 (And.intro ty530 (And.intro ty531 (And.intro ty532 (And.intro ty533 (And.intro ty534 (And.intro ty535 (And.intro ty536 (And.intro ty537 (And.intro ty538 ty539)))))))))))))))))))))))))))))))))))))))))))))))))))))))))))
def tyF9 := (And.intro ty540 (And.intro ty541 (And.intro ty542 (And.intro ty543 (And.intro ty544 (And.intro ty545 (And.intro ty546 (And.intro ty547 (And.intro ty548 (And.intro ty549 (And.intro ty550 (And.intro ty551 (And.intro ty552 (And.intro ty553 (And.intro ty554 (And.intro ty555 (And.intro ty556 (And.intro ty557 (And.intro ty558 (And.intro ty559 (And.intro ty560 (And.intro ty561 (And.intro ty562 (And.intro ty563 (And.intro ty564 (And.intro ty565 (And.intro ty566 (And.intro ty567 (And.intro ty568 (And.intro ty569 (And.intro ty570 (And.intro ty571 (And.intro ty572 (And.intro ty573 (And.intro ty574 (And.intro ty575 ty576))))))))))))))))))))))))))))))))))))

-- tyF0 tyF1 tyF2 tyF3 tyF4 tyF5 tyF6 tyF7 tyF8 tyF9
end Go.Proofs.Ytoglkgbjehbcpaa
