import Derived.Test.YtjldbkicpbchkaaGreatEvFT
import Derived.Test.YtjldbkicpbchkaaGreatEvTA
import Derived.Test.YtjldbkicpbchkaaGreatProg
import Derived.KernelRfl
namespace Go.Proofs.YtjldbkicpbchkaaGreat.Ev
open Go
set_option maxRecDepth 100000
theorem cf3 : cFn Go.Proofs.Tryz.prog 3 = some ir3 := by kernel_rfl
theorem cf7 : cFn Go.Proofs.Tryz.prog 7 = some ir7 := by kernel_rfl
theorem cf8 : cFn Go.Proofs.Tryz.prog 8 = some ir8 := by kernel_rfl
theorem cf9 : cFn Go.Proofs.Tryz.prog 9 = some ir9 := by kernel_rfl
theorem cf10 : cFn Go.Proofs.Tryz.prog 10 = some ir10 := by kernel_rfl
theorem cf11 : cFn Go.Proofs.Tryz.prog 11 = some ir11 := by kernel_rfl
theorem cf12 : cFn Go.Proofs.Tryz.prog 12 = some ir12 := by kernel_rfl
theorem cf13 : cFn Go.Proofs.Tryz.prog 13 = some ir13 := by kernel_rfl
theorem cf14 : cFn Go.Proofs.Tryz.prog 14 = some ir14 := by kernel_rfl
theorem cf42 : cFn Go.Proofs.Tryz.prog 42 = some ir42 := by kernel_rfl
theorem cf43 : cFn Go.Proofs.Tryz.prog 43 = some ir43 := by kernel_rfl
theorem cf44 : cFn Go.Proofs.Tryz.prog 44 = some ir44 := by kernel_rfl
theorem cf45 : cFn Go.Proofs.Tryz.prog 45 = some ir45 := by kernel_rfl
theorem cf46 : cFn Go.Proofs.Tryz.prog 46 = some ir46 := by kernel_rfl
theorem cf47 : cFn Go.Proofs.Tryz.prog 47 = some ir47 := by kernel_rfl
theorem cf48 : cFn Go.Proofs.Tryz.prog 48 = some ir48 := by kernel_rfl
theorem cf50 : cFn Go.Proofs.Tryz.prog 50 = some ir50 := by kernel_rfl
theorem cf52 : cFn Go.Proofs.Tryz.prog 52 = some ir52 := by kernel_rfl
theorem cf55 : cFn Go.Proofs.Tryz.prog 55 = some ir55 := by kernel_rfl
theorem cf56 : cFn Go.Proofs.Tryz.prog 56 = some ir56 := by kernel_rfl
theorem cf110 : cFn Go.Proofs.Tryz.prog 110 = some ir110 := by kernel_rfl
theorem cf111 : cFn Go.Proofs.Tryz.prog 111 = some ir111 := by kernel_rfl
theorem cf112 : cFn Go.Proofs.Tryz.prog 112 = some ir112 := by kernel_rfl
theorem cf113 : cFn Go.Proofs.Tryz.prog 113 = some ir113 := by kernel_rfl
theorem cf114 : cFn Go.Proofs.Tryz.prog 114 = some ir114 := by kernel_rfl
theorem cf115 : cFn Go.Proofs.Tryz.prog 115 = some ir115 := by kernel_rfl
theorem cf116 : cFn Go.Proofs.Tryz.prog 116 = some ir116 := by kernel_rfl
theorem cf117 : cFn Go.Proofs.Tryz.prog 117 = some ir117 := by kernel_rfl
theorem cf119 : cFn Go.Proofs.Tryz.prog 119 = some ir119 := by kernel_rfl
theorem cf120 : cFn Go.Proofs.Tryz.prog 120 = some ir120 := by kernel_rfl
theorem cf121 : cFn Go.Proofs.Tryz.prog 121 = some ir121 := by kernel_rfl
theorem cf122 : cFn Go.Proofs.Tryz.prog 122 = some ir122 := by kernel_rfl
theorem cf123 : cFn Go.Proofs.Tryz.prog 123 = some ir123 := by kernel_rfl
theorem cf125 : cFn Go.Proofs.Tryz.prog 125 = some ir125 := by kernel_rfl
theorem cf176 : cFn Go.Proofs.Tryz.prog 176 = some ir176 := by kernel_rfl
theorem cf183 : cFn Go.Proofs.Tryz.prog 183 = some ir183 := by kernel_rfl
theorem cf184 : cFn Go.Proofs.Tryz.prog 184 = some ir184 := by kernel_rfl
theorem cf185 : cFn Go.Proofs.Tryz.prog 185 = some ir185 := by kernel_rfl
theorem cf186 : cFn Go.Proofs.Tryz.prog 186 = some ir186 := by kernel_rfl
theorem cf187 : cFn Go.Proofs.Tryz.prog 187 = some ir187 := by kernel_rfl
theorem cf188 : cFn Go.Proofs.Tryz.prog 188 = some ir188 := by kernel_rfl
theorem cf189 : cFn Go.Proofs.Tryz.prog 189 = some ir189 := by kernel_rfl
theorem cf190 : cFn Go.Proofs.Tryz.prog 190 = some ir190 := by kernel_rfl
theorem cf191 : cFn Go.Proofs.Tryz.prog 191 = some ir191 := by kernel_rfl
theorem cf192 : cFn Go.Proofs.Tryz.prog 192 = some ir192 := by kernel_rfl
theorem cf229 : cFn Go.Proofs.Tryz.prog 229 = some ir229 := by kernel_rfl
theorem cf234 : cFn Go.Proofs.Tryz.prog 234 = some ir234 := by kernel_rfl
theorem cf235 : cFn Go.Proofs.Tryz.prog 235 = some ir235 := by kernel_rfl
theorem cf236 : cFn Go.Proofs.Tryz.prog 236 = some ir236 := by kernel_rfl
theorem cf237 : cFn Go.Proofs.Tryz.prog 237 = some ir237 := by kernel_rfl
theorem cf238 : cFn Go.Proofs.Tryz.prog 238 = some ir238 := by kernel_rfl
theorem cf239 : cFn Go.Proofs.Tryz.prog 239 = some ir239 := by kernel_rfl
theorem cf258 : cFn Go.Proofs.Tryz.prog 258 = some ir258 := by kernel_rfl
theorem cf259 : cFn Go.Proofs.Tryz.prog 259 = some ir259 := by kernel_rfl
theorem cf260 : cFn Go.Proofs.Tryz.prog 260 = some ir260 := by kernel_rfl
theorem cf261 : cFn Go.Proofs.Tryz.prog 261 = some ir261 := by kernel_rfl
theorem cf262 : cFn Go.Proofs.Tryz.prog 262 = some ir262 := by kernel_rfl
theorem cf263 : cFn Go.Proofs.Tryz.prog 263 = some ir263 := by kernel_rfl
theorem cf264 : cFn Go.Proofs.Tryz.prog 264 = some ir264 := by kernel_rfl
theorem cf265 : cFn Go.Proofs.Tryz.prog 265 = some ir265 := by kernel_rfl
theorem cf266 : cFn Go.Proofs.Tryz.prog 266 = some ir266 := by kernel_rfl
theorem cf267 : cFn Go.Proofs.Tryz.prog 267 = some ir267 := by kernel_rfl
theorem cf268 : cFn Go.Proofs.Tryz.prog 268 = some ir268 := by kernel_rfl
theorem cf269 : cFn Go.Proofs.Tryz.prog 269 = some ir269 := by kernel_rfl
theorem cf270 : cFn Go.Proofs.Tryz.prog 270 = some ir270 := by kernel_rfl
theorem cf271 : cFn Go.Proofs.Tryz.prog 271 = some ir271 := by kernel_rfl
theorem cf272 : cFn Go.Proofs.Tryz.prog 272 = some ir272 := by kernel_rfl
theorem cf278 : cFn Go.Proofs.Tryz.prog 278 = some ir278 := by kernel_rfl
theorem cf281 : cFn Go.Proofs.Tryz.prog 281 = some ir281 := by kernel_rfl
theorem cf282 : cFn Go.Proofs.Tryz.prog 282 = some ir282 := by kernel_rfl
theorem cf283 : cFn Go.Proofs.Tryz.prog 283 = some ir283 := by kernel_rfl
theorem cf284 : cFn Go.Proofs.Tryz.prog 284 = some ir284 := by kernel_rfl
theorem cf285 : cFn Go.Proofs.Tryz.prog 285 = some ir285 := by kernel_rfl
theorem cf286 : cFn Go.Proofs.Tryz.prog 286 = some ir286 := by kernel_rfl
theorem cf287 : cFn Go.Proofs.Tryz.prog 287 = some ir287 := by kernel_rfl
theorem cf288 : cFn Go.Proofs.Tryz.prog 288 = some ir288 := by kernel_rfl
theorem cf289 : cFn Go.Proofs.Tryz.prog 289 = some ir289 := by kernel_rfl
theorem cf290 : cFn Go.Proofs.Tryz.prog 290 = some ir290 := by kernel_rfl
theorem cf291 : cFn Go.Proofs.Tryz.prog 291 = some ir291 := by kernel_rfl
theorem cf292 : cFn Go.Proofs.Tryz.prog 292 = some ir292 := by kernel_rfl
theorem cf295 : cFn Go.Proofs.Tryz.prog 295 = some ir295 := by kernel_rfl
theorem cf297 : cFn Go.Proofs.Tryz.prog 297 = some ir297 := by kernel_rfl
theorem cf298 : cFn Go.Proofs.Tryz.prog 298 = some ir298 := by kernel_rfl
theorem cf299 : cFn Go.Proofs.Tryz.prog 299 = some ir299 := by kernel_rfl
theorem cf300 : cFn Go.Proofs.Tryz.prog 300 = some ir300 := by kernel_rfl
theorem cf301 : cFn Go.Proofs.Tryz.prog 301 = some ir301 := by kernel_rfl
theorem cf302 : cFn Go.Proofs.Tryz.prog 302 = some ir302 := by kernel_rfl
theorem cf303 : cFn Go.Proofs.Tryz.prog 303 = some ir303 := by kernel_rfl
theorem cf304 : cFn Go.Proofs.Tryz.prog 304 = some ir304 := by kernel_rfl
theorem cf305 : cFn Go.Proofs.Tryz.prog 305 = some ir305 := by kernel_rfl
theorem cf306 : cFn Go.Proofs.Tryz.prog 306 = some ir306 := by kernel_rfl
theorem cf307 : cFn Go.Proofs.Tryz.prog 307 = some ir307 := by kernel_rfl
theorem cf309 : cFn Go.Proofs.Tryz.prog 309 = some ir309 := by kernel_rfl
theorem cf310 : cFn Go.Proofs.Tryz.prog 310 = some ir310 := by kernel_rfl
theorem cf311 : cFn Go.Proofs.Tryz.prog 311 = some ir311 := by kernel_rfl
theorem cf312 : cFn Go.Proofs.Tryz.prog 312 = some ir312 := by kernel_rfl
theorem cf313 : cFn Go.Proofs.Tryz.prog 313 = some ir313 := by kernel_rfl
theorem cf314 : cFn Go.Proofs.Tryz.prog 314 = some ir314 := by kernel_rfl
theorem cf315 : cFn Go.Proofs.Tryz.prog 315 = some ir315 := by kernel_rfl
theorem cf316 : cFn Go.Proofs.Tryz.prog 316 = some ir316 := by kernel_rfl
theorem cf317 : cFn Go.Proofs.Tryz.prog 317 = some ir317 := by kernel_rfl
theorem cf318 : cFn Go.Proofs.Tryz.prog 318 = some ir318 := by kernel_rfl
theorem cf319 : cFn Go.Proofs.Tryz.prog 319 = some ir319 := by kernel_rfl
theorem cf341 : cFn Go.Proofs.Tryz.prog 341 = some ir341 := by kernel_rfl
theorem cf342 : cFn Go.Proofs.Tryz.prog 342 = some ir342 := by kernel_rfl
theorem cg3 : sysT.code 3 = some ir3 := by kernel_rfl
theorem cg7 : sysT.code 7 = some ir7 := by kernel_rfl
theorem cg8 : sysT.code 8 = some ir8 := by kernel_rfl
theorem cg9 : sysT.code 9 = some ir9 := by kernel_rfl
theorem cg10 : sysT.code 10 = some ir10 := by kernel_rfl
theorem cg11 : sysT.code 11 = some ir11 := by kernel_rfl
theorem cg12 : sysT.code 12 = some ir12 := by kernel_rfl
theorem cg13 : sysT.code 13 = some ir13 := by kernel_rfl
theorem cg14 : sysT.code 14 = some ir14 := by kernel_rfl
theorem cg42 : sysT.code 42 = some ir42 := by kernel_rfl
theorem cg43 : sysT.code 43 = some ir43 := by kernel_rfl
theorem cg44 : sysT.code 44 = some ir44 := by kernel_rfl
theorem cg45 : sysT.code 45 = some ir45 := by kernel_rfl
theorem cg46 : sysT.code 46 = some ir46 := by kernel_rfl
theorem cg47 : sysT.code 47 = some ir47 := by kernel_rfl
theorem cg48 : sysT.code 48 = some ir48 := by kernel_rfl
theorem cg50 : sysT.code 50 = some ir50 := by kernel_rfl
theorem cg52 : sysT.code 52 = some ir52 := by kernel_rfl
theorem cg55 : sysT.code 55 = some ir55 := by kernel_rfl
theorem cg56 : sysT.code 56 = some ir56 := by kernel_rfl
theorem cg110 : sysT.code 110 = some ir110 := by kernel_rfl
theorem cg111 : sysT.code 111 = some ir111 := by kernel_rfl
theorem cg112 : sysT.code 112 = some ir112 := by kernel_rfl
theorem cg113 : sysT.code 113 = some ir113 := by kernel_rfl
theorem cg114 : sysT.code 114 = some ir114 := by kernel_rfl
theorem cg115 : sysT.code 115 = some ir115 := by kernel_rfl
theorem cg116 : sysT.code 116 = some ir116 := by kernel_rfl
theorem cg117 : sysT.code 117 = some ir117 := by kernel_rfl
theorem cg119 : sysT.code 119 = some ir119 := by kernel_rfl
theorem cg120 : sysT.code 120 = some ir120 := by kernel_rfl
theorem cg121 : sysT.code 121 = some ir121 := by kernel_rfl
theorem cg122 : sysT.code 122 = some ir122 := by kernel_rfl
theorem cg123 : sysT.code 123 = some ir123 := by kernel_rfl
theorem cg125 : sysT.code 125 = some ir125 := by kernel_rfl
theorem cg176 : sysT.code 176 = some ir176 := by kernel_rfl
theorem cg183 : sysT.code 183 = some ir183 := by kernel_rfl
theorem cg184 : sysT.code 184 = some ir184 := by kernel_rfl
theorem cg185 : sysT.code 185 = some ir185 := by kernel_rfl
theorem cg186 : sysT.code 186 = some ir186 := by kernel_rfl
theorem cg187 : sysT.code 187 = some ir187 := by kernel_rfl
theorem cg188 : sysT.code 188 = some ir188 := by kernel_rfl
theorem cg189 : sysT.code 189 = some ir189 := by kernel_rfl
theorem cg190 : sysT.code 190 = some ir190 := by kernel_rfl
theorem cg191 : sysT.code 191 = some ir191 := by kernel_rfl
theorem cg192 : sysT.code 192 = some ir192 := by kernel_rfl
theorem cg229 : sysT.code 229 = some ir229 := by kernel_rfl
theorem cg234 : sysT.code 234 = some ir234 := by kernel_rfl
theorem cg235 : sysT.code 235 = some ir235 := by kernel_rfl
theorem cg236 : sysT.code 236 = some ir236 := by kernel_rfl
theorem cg237 : sysT.code 237 = some ir237 := by kernel_rfl
theorem cg238 : sysT.code 238 = some ir238 := by kernel_rfl
theorem cg239 : sysT.code 239 = some ir239 := by kernel_rfl
theorem cg258 : sysT.code 258 = some ir258 := by kernel_rfl
theorem cg259 : sysT.code 259 = some ir259 := by kernel_rfl
theorem cg260 : sysT.code 260 = some ir260 := by kernel_rfl
theorem cg261 : sysT.code 261 = some ir261 := by kernel_rfl
theorem cg262 : sysT.code 262 = some ir262 := by kernel_rfl
theorem cg263 : sysT.code 263 = some ir263 := by kernel_rfl
theorem cg264 : sysT.code 264 = some ir264 := by kernel_rfl
theorem cg265 : sysT.code 265 = some ir265 := by kernel_rfl
theorem cg266 : sysT.code 266 = some ir266 := by kernel_rfl
theorem cg267 : sysT.code 267 = some ir267 := by kernel_rfl
theorem cg268 : sysT.code 268 = some ir268 := by kernel_rfl
theorem cg269 : sysT.code 269 = some ir269 := by kernel_rfl
theorem cg270 : sysT.code 270 = some ir270 := by kernel_rfl
theorem cg271 : sysT.code 271 = some ir271 := by kernel_rfl
theorem cg272 : sysT.code 272 = some ir272 := by kernel_rfl
theorem cg278 : sysT.code 278 = some ir278 := by kernel_rfl
theorem cg281 : sysT.code 281 = some ir281 := by kernel_rfl
theorem cg282 : sysT.code 282 = some ir282 := by kernel_rfl
theorem cg283 : sysT.code 283 = some ir283 := by kernel_rfl
theorem cg284 : sysT.code 284 = some ir284 := by kernel_rfl
theorem cg285 : sysT.code 285 = some ir285 := by kernel_rfl
theorem cg286 : sysT.code 286 = some ir286 := by kernel_rfl
theorem cg287 : sysT.code 287 = some ir287 := by kernel_rfl
theorem cg288 : sysT.code 288 = some ir288 := by kernel_rfl
theorem cg289 : sysT.code 289 = some ir289 := by kernel_rfl
theorem cg290 : sysT.code 290 = some ir290 := by kernel_rfl
theorem cg291 : sysT.code 291 = some ir291 := by kernel_rfl
theorem cg292 : sysT.code 292 = some ir292 := by kernel_rfl
theorem cg295 : sysT.code 295 = some ir295 := by kernel_rfl
theorem cg297 : sysT.code 297 = some ir297 := by kernel_rfl
theorem cg298 : sysT.code 298 = some ir298 := by kernel_rfl
theorem cg299 : sysT.code 299 = some ir299 := by kernel_rfl
theorem cg300 : sysT.code 300 = some ir300 := by kernel_rfl
theorem cg301 : sysT.code 301 = some ir301 := by kernel_rfl
theorem cg302 : sysT.code 302 = some ir302 := by kernel_rfl
theorem cg303 : sysT.code 303 = some ir303 := by kernel_rfl
theorem cg304 : sysT.code 304 = some ir304 := by kernel_rfl
theorem cg305 : sysT.code 305 = some ir305 := by kernel_rfl
theorem cg306 : sysT.code 306 = some ir306 := by kernel_rfl
theorem cg307 : sysT.code 307 = some ir307 := by kernel_rfl
theorem cg309 : sysT.code 309 = some ir309 := by kernel_rfl
theorem cg310 : sysT.code 310 = some ir310 := by kernel_rfl
theorem cg311 : sysT.code 311 = some ir311 := by kernel_rfl
theorem cg312 : sysT.code 312 = some ir312 := by kernel_rfl
theorem cg313 : sysT.code 313 = some ir313 := by kernel_rfl
theorem cg314 : sysT.code 314 = some ir314 := by kernel_rfl
theorem cg315 : sysT.code 315 = some ir315 := by kernel_rfl
theorem cg316 : sysT.code 316 = some ir316 := by kernel_rfl
theorem cg317 : sysT.code 317 = some ir317 := by kernel_rfl
theorem cg318 : sysT.code 318 = some ir318 := by kernel_rfl
theorem cg319 : sysT.code 319 = some ir319 := by kernel_rfl
theorem cg341 : sysT.code 341 = some ir341 := by kernel_rfl
theorem cg342 : sysT.code 342 = some ir342 := by kernel_rfl
theorem codeT_all : codeT.All (fun f fn => cFn Go.Proofs.Tryz.prog f = some fn) id := ⟨trivial, ⟨trivial, ⟨cf3, ⟨cf7, ⟨trivial, ⟨trivial, ⟨trivial, trivial, ⟨cf191, ⟨cf319, trivial, trivial⟩, trivial⟩⟩, ⟨trivial, ⟨trivial, ⟨cf287, trivial, trivial⟩, trivial⟩, trivial⟩⟩, ⟨cf47, ⟨trivial, ⟨trivial, ⟨cf271, trivial, trivial⟩, trivial⟩, trivial⟩, ⟨cf111, ⟨trivial, ⟨cf303, trivial, trivial⟩, trivial⟩, ⟨cf239, trivial, trivial⟩⟩⟩⟩, ⟨trivial, ⟨trivial, ⟨trivial, ⟨trivial, ⟨cf263, trivial, trivial⟩, trivial⟩, trivial⟩, ⟨trivial, ⟨trivial, ⟨cf295, trivial, trivial⟩, trivial⟩, trivial⟩⟩, ⟨cf55, trivial, ⟨cf119, ⟨cf183, ⟨cf311, trivial, trivial⟩, trivial⟩, trivial⟩⟩⟩⟩, ⟨cf11, ⟨trivial, ⟨trivial, ⟨trivial, ⟨trivial, ⟨cf259, trivial, trivial⟩, trivial⟩, trivial⟩, ⟨trivial, ⟨trivial, ⟨cf291, trivial, trivial⟩, trivial⟩, trivial⟩⟩, ⟨trivial, trivial, ⟨cf115, ⟨trivial, ⟨cf307, trivial, trivial⟩, trivial⟩, trivial⟩⟩⟩, ⟨trivial, ⟨cf43, ⟨trivial, ⟨trivial, ⟨cf267, trivial, trivial⟩, trivial⟩, trivial⟩, ⟨trivial, ⟨trivial, ⟨cf299, trivial, trivial⟩, trivial⟩, ⟨cf235, trivial, trivial⟩⟩⟩, ⟨trivial, ⟨trivial, ⟨trivial, ⟨cf283, trivial, trivial⟩, trivial⟩, trivial⟩, ⟨cf123, ⟨cf187, ⟨cf315, trivial, trivial⟩, trivial⟩, trivial⟩⟩⟩⟩⟩, ⟨trivial, ⟨cf9, ⟨trivial, ⟨trivial, trivial, ⟨trivial, ⟨trivial, ⟨cf289, trivial, trivial⟩, trivial⟩, trivial⟩⟩, ⟨trivial, trivial, ⟨cf113, ⟨trivial, ⟨cf305, trivial, trivial⟩, trivial⟩, trivial⟩⟩⟩, ⟨trivial, ⟨trivial, ⟨trivial, ⟨trivial, ⟨cf265, trivial, trivial⟩, trivial⟩, trivial⟩, ⟨trivial, ⟨trivial, ⟨cf297, trivial, trivial⟩, trivial⟩, trivial⟩⟩, ⟨trivial, ⟨trivial, ⟨trivial, ⟨cf281, trivial, trivial⟩, trivial⟩, trivial⟩, ⟨cf121, ⟨cf185, ⟨cf313, trivial, trivial⟩, trivial⟩, trivial⟩⟩⟩⟩, ⟨cf13, ⟨trivial, ⟨trivial, ⟨trivial, ⟨trivial, ⟨cf261, trivial, trivial⟩, trivial⟩, trivial⟩, ⟨trivial, trivial, ⟨cf229, trivial, trivial⟩⟩⟩, ⟨trivial, ⟨trivial, trivial, ⟨trivial, ⟨cf341, trivial, trivial⟩, trivial⟩⟩, ⟨cf117, ⟨trivial, ⟨cf309, trivial, trivial⟩, trivial⟩, trivial⟩⟩⟩, ⟨trivial, ⟨cf45, ⟨trivial, ⟨trivial, ⟨cf269, trivial, trivial⟩, trivial⟩, trivial⟩, ⟨trivial, ⟨trivial, ⟨cf301, trivial, trivial⟩, trivial⟩, ⟨cf237, trivial, trivial⟩⟩⟩, ⟨trivial, ⟨trivial, ⟨trivial, ⟨cf285, trivial, trivial⟩, trivial⟩, trivial⟩, ⟨cf125, ⟨cf189, ⟨cf317, trivial, trivial⟩, trivial⟩, trivial⟩⟩⟩⟩⟩⟩, ⟨trivial, ⟨trivial, ⟨cf8, ⟨trivial, ⟨trivial, ⟨trivial, trivial, ⟨cf192, trivial, trivial⟩⟩, ⟨trivial, ⟨trivial, ⟨cf288, trivial, trivial⟩, trivial⟩, trivial⟩⟩, ⟨cf48, ⟨trivial, ⟨trivial, ⟨cf272, trivial, trivial⟩, trivial⟩, trivial⟩, ⟨cf112, ⟨cf176, ⟨cf304, trivial, trivial⟩, trivial⟩, trivial⟩⟩⟩, ⟨trivial, ⟨trivial, ⟨trivial, ⟨trivial, ⟨cf264, trivial, trivial⟩, trivial⟩, trivial⟩, trivial⟩, ⟨cf56, trivial, ⟨cf120, ⟨cf184, ⟨cf312, trivial, trivial⟩, trivial⟩, trivial⟩⟩⟩⟩, ⟨cf12, ⟨trivial, ⟨trivial, ⟨trivial, ⟨trivial, ⟨cf260, trivial, trivial⟩, trivial⟩, trivial⟩, ⟨trivial, ⟨trivial, ⟨cf292, trivial, trivial⟩, trivial⟩, trivial⟩⟩, ⟨cf52, trivial, ⟨cf116, trivial, trivial⟩⟩⟩, ⟨trivial, ⟨cf44, ⟨trivial, ⟨trivial, ⟨cf268, trivial, trivial⟩, trivial⟩, trivial⟩, ⟨trivial, ⟨trivial, ⟨cf300, trivial, trivial⟩, trivial⟩, ⟨cf236, trivial, trivial⟩⟩⟩, ⟨trivial, ⟨trivial, ⟨trivial, ⟨cf284, trivial, trivial⟩, trivial⟩, trivial⟩, ⟨trivial, ⟨cf188, ⟨cf316, trivial, trivial⟩, trivial⟩, trivial⟩⟩⟩⟩⟩, ⟨trivial, ⟨cf10, ⟨trivial, ⟨trivial, ⟨trivial, ⟨trivial, ⟨cf258, trivial, trivial⟩, trivial⟩, trivial⟩, ⟨trivial, ⟨trivial, ⟨cf290, trivial, trivial⟩, trivial⟩, trivial⟩⟩, ⟨cf50, trivial, ⟨cf114, ⟨trivial, ⟨cf306, trivial, trivial⟩, trivial⟩, trivial⟩⟩⟩, ⟨trivial, ⟨cf42, ⟨trivial, ⟨trivial, ⟨cf266, trivial, trivial⟩, trivial⟩, trivial⟩, ⟨trivial, ⟨trivial, ⟨cf298, trivial, trivial⟩, trivial⟩, ⟨cf234, trivial, trivial⟩⟩⟩, ⟨trivial, ⟨trivial, ⟨trivial, ⟨cf282, trivial, trivial⟩, trivial⟩, trivial⟩, ⟨cf122, ⟨cf186, ⟨cf314, trivial, trivial⟩, trivial⟩, trivial⟩⟩⟩⟩, ⟨cf14, ⟨trivial, ⟨trivial, ⟨trivial, ⟨trivial, ⟨cf262, trivial, trivial⟩, trivial⟩, trivial⟩, trivial⟩, ⟨trivial, ⟨trivial, ⟨trivial, ⟨cf278, trivial, trivial⟩, trivial⟩, ⟨trivial, ⟨cf342, trivial, trivial⟩, trivial⟩⟩, ⟨trivial, ⟨trivial, ⟨cf310, trivial, trivial⟩, trivial⟩, trivial⟩⟩⟩, ⟨trivial, ⟨cf46, ⟨trivial, ⟨trivial, ⟨cf270, trivial, trivial⟩, trivial⟩, trivial⟩, ⟨cf110, ⟨trivial, ⟨cf302, trivial, trivial⟩, trivial⟩, ⟨cf238, trivial, trivial⟩⟩⟩, ⟨trivial, ⟨trivial, ⟨trivial, ⟨cf286, trivial, trivial⟩, trivial⟩, trivial⟩, ⟨trivial, ⟨cf190, ⟨cf318, trivial, trivial⟩, trivial⟩, trivial⟩⟩⟩⟩⟩⟩⟩
theorem fastT_all : fastT.All (fun f F => ∃ fuel vars fn, sysT.code f = some fn ∧ F = fcomp sysT fuel vars fn) id := ⟨trivial, ⟨trivial, ⟨⟨100000, fv3, ir3, cg3, rfl⟩, ⟨⟨100000, fv7, ir7, cg7, rfl⟩, ⟨trivial, ⟨trivial, ⟨trivial, trivial, ⟨⟨100000, fv191, ir191, cg191, rfl⟩, ⟨⟨100000, fv319, ir319, cg319, rfl⟩, trivial, trivial⟩, trivial⟩⟩, ⟨trivial, ⟨trivial, ⟨⟨100000, fv287, ir287, cg287, rfl⟩, trivial, trivial⟩, trivial⟩, trivial⟩⟩, ⟨⟨100000, fv47, ir47, cg47, rfl⟩, ⟨trivial, ⟨trivial, ⟨⟨100000, fv271, ir271, cg271, rfl⟩, trivial, trivial⟩, trivial⟩, trivial⟩, ⟨⟨100000, fv111, ir111, cg111, rfl⟩, ⟨trivial, ⟨⟨100000, fv303, ir303, cg303, rfl⟩, trivial, trivial⟩, trivial⟩, ⟨⟨100000, fv239, ir239, cg239, rfl⟩, trivial, trivial⟩⟩⟩⟩, ⟨trivial, ⟨trivial, ⟨trivial, ⟨trivial, ⟨⟨100000, fv263, ir263, cg263, rfl⟩, trivial, trivial⟩, trivial⟩, trivial⟩, ⟨trivial, ⟨trivial, ⟨⟨100000, fv295, ir295, cg295, rfl⟩, trivial, trivial⟩, trivial⟩, trivial⟩⟩, ⟨⟨100000, fv55, ir55, cg55, rfl⟩, trivial, ⟨⟨100000, fv119, ir119, cg119, rfl⟩, ⟨⟨100000, fv183, ir183, cg183, rfl⟩, ⟨⟨100000, fv311, ir311, cg311, rfl⟩, trivial, trivial⟩, trivial⟩, trivial⟩⟩⟩⟩, ⟨⟨100000, fv11, ir11, cg11, rfl⟩, ⟨trivial, ⟨trivial, ⟨trivial, ⟨trivial, ⟨⟨100000, fv259, ir259, cg259, rfl⟩, trivial, trivial⟩, trivial⟩, trivial⟩, ⟨trivial, ⟨trivial, ⟨⟨100000, fv291, ir291, cg291, rfl⟩, trivial, trivial⟩, trivial⟩, trivial⟩⟩, ⟨trivial, trivial, ⟨⟨100000, fv115, ir115, cg115, rfl⟩, ⟨trivial, ⟨⟨100000, fv307, ir307, cg307, rfl⟩, trivial, trivial⟩, trivial⟩, trivial⟩⟩⟩, ⟨trivial, ⟨⟨100000, fv43, ir43, cg43, rfl⟩, ⟨trivial, ⟨trivial, ⟨⟨100000, fv267, ir267, cg267, rfl⟩, trivial, trivial⟩, trivial⟩, trivial⟩, ⟨trivial, ⟨trivial, ⟨⟨100000, fv299, ir299, cg299, rfl⟩, trivial, trivial⟩, trivial⟩, ⟨⟨100000, fv235, ir235, cg235, rfl⟩, trivial, trivial⟩⟩⟩, ⟨trivial, ⟨trivial, ⟨trivial, ⟨⟨100000, fv283, ir283, cg283, rfl⟩, trivial, trivial⟩, trivial⟩, trivial⟩, ⟨⟨100000, fv123, ir123, cg123, rfl⟩, ⟨⟨100000, fv187, ir187, cg187, rfl⟩, ⟨⟨100000, fv315, ir315, cg315, rfl⟩, trivial, trivial⟩, trivial⟩, trivial⟩⟩⟩⟩⟩, ⟨trivial, ⟨⟨100000, fv9, ir9, cg9, rfl⟩, ⟨trivial, ⟨trivial, trivial, ⟨trivial, ⟨trivial, ⟨⟨100000, fv289, ir289, cg289, rfl⟩, trivial, trivial⟩, trivial⟩, trivial⟩⟩, ⟨trivial, trivial, ⟨⟨100000, fv113, ir113, cg113, rfl⟩, ⟨trivial, ⟨⟨100000, fv305, ir305, cg305, rfl⟩, trivial, trivial⟩, trivial⟩, trivial⟩⟩⟩, ⟨trivial, ⟨trivial, ⟨trivial, ⟨trivial, ⟨⟨100000, fv265, ir265, cg265, rfl⟩, trivial, trivial⟩, trivial⟩, trivial⟩, ⟨trivial, ⟨trivial, ⟨⟨100000, fv297, ir297, cg297, rfl⟩, trivial, trivial⟩, trivial⟩, trivial⟩⟩, ⟨trivial, ⟨trivial, ⟨trivial, ⟨⟨100000, fv281, ir281, cg281, rfl⟩, trivial, trivial⟩, trivial⟩, trivial⟩, ⟨⟨100000, fv121, ir121, cg121, rfl⟩, ⟨⟨100000, fv185, ir185, cg185, rfl⟩, ⟨⟨100000, fv313, ir313, cg313, rfl⟩, trivial, trivial⟩, trivial⟩, trivial⟩⟩⟩⟩, ⟨⟨100000, fv13, ir13, cg13, rfl⟩, ⟨trivial, ⟨trivial, ⟨trivial, ⟨trivial, ⟨⟨100000, fv261, ir261, cg261, rfl⟩, trivial, trivial⟩, trivial⟩, trivial⟩, ⟨trivial, trivial, ⟨⟨100000, fv229, ir229, cg229, rfl⟩, trivial, trivial⟩⟩⟩, ⟨trivial, ⟨trivial, trivial, ⟨trivial, ⟨⟨100000, fv341, ir341, cg341, rfl⟩, trivial, trivial⟩, trivial⟩⟩, ⟨⟨100000, fv117, ir117, cg117, rfl⟩, ⟨trivial, ⟨⟨100000, fv309, ir309, cg309, rfl⟩, trivial, trivial⟩, trivial⟩, trivial⟩⟩⟩, ⟨trivial, ⟨⟨100000, fv45, ir45, cg45, rfl⟩, ⟨trivial, ⟨trivial, ⟨⟨100000, fv269, ir269, cg269, rfl⟩, trivial, trivial⟩, trivial⟩, trivial⟩, ⟨trivial, ⟨trivial, ⟨⟨100000, fv301, ir301, cg301, rfl⟩, trivial, trivial⟩, trivial⟩, ⟨⟨100000, fv237, ir237, cg237, rfl⟩, trivial, trivial⟩⟩⟩, ⟨trivial, ⟨trivial, ⟨trivial, ⟨⟨100000, fv285, ir285, cg285, rfl⟩, trivial, trivial⟩, trivial⟩, trivial⟩, ⟨⟨100000, fv125, ir125, cg125, rfl⟩, ⟨⟨100000, fv189, ir189, cg189, rfl⟩, ⟨⟨100000, fv317, ir317, cg317, rfl⟩, trivial, trivial⟩, trivial⟩, trivial⟩⟩⟩⟩⟩⟩, ⟨trivial, ⟨trivial, ⟨⟨100000, fv8, ir8, cg8, rfl⟩, ⟨trivial, ⟨trivial, ⟨trivial, trivial, ⟨⟨100000, fv192, ir192, cg192, rfl⟩, trivial, trivial⟩⟩, ⟨trivial, ⟨trivial, ⟨⟨100000, fv288, ir288, cg288, rfl⟩, trivial, trivial⟩, trivial⟩, trivial⟩⟩, ⟨⟨100000, fv48, ir48, cg48, rfl⟩, ⟨trivial, ⟨trivial, ⟨⟨100000, fv272, ir272, cg272, rfl⟩, trivial, trivial⟩, trivial⟩, trivial⟩, ⟨⟨100000, fv112, ir112, cg112, rfl⟩, ⟨⟨100000, fv176, ir176, cg176, rfl⟩, ⟨⟨100000, fv304, ir304, cg304, rfl⟩, trivial, trivial⟩, trivial⟩, trivial⟩⟩⟩, ⟨trivial, ⟨trivial, ⟨trivial, ⟨trivial, ⟨⟨100000, fv264, ir264, cg264, rfl⟩, trivial, trivial⟩, trivial⟩, trivial⟩, trivial⟩, ⟨⟨100000, fv56, ir56, cg56, rfl⟩, trivial, ⟨⟨100000, fv120, ir120, cg120, rfl⟩, ⟨⟨100000, fv184, ir184, cg184, rfl⟩, ⟨⟨100000, fv312, ir312, cg312, rfl⟩, trivial, trivial⟩, trivial⟩, trivial⟩⟩⟩⟩, ⟨⟨100000, fv12, ir12, cg12, rfl⟩, ⟨trivial, ⟨trivial, ⟨trivial, ⟨trivial, ⟨⟨100000, fv260, ir260, cg260, rfl⟩, trivial, trivial⟩, trivial⟩, trivial⟩, ⟨trivial, ⟨trivial, ⟨⟨100000, fv292, ir292, cg292, rfl⟩, trivial, trivial⟩, trivial⟩, trivial⟩⟩, ⟨⟨100000, fv52, ir52, cg52, rfl⟩, trivial, ⟨⟨100000, fv116, ir116, cg116, rfl⟩, trivial, trivial⟩⟩⟩, ⟨trivial, ⟨⟨100000, fv44, ir44, cg44, rfl⟩, ⟨trivial, ⟨trivial, ⟨⟨100000, fv268, ir268, cg268, rfl⟩, trivial, trivial⟩, trivial⟩, trivial⟩, ⟨trivial, ⟨trivial, ⟨⟨100000, fv300, ir300, cg300, rfl⟩, trivial, trivial⟩, trivial⟩, ⟨⟨100000, fv236, ir236, cg236, rfl⟩, trivial, trivial⟩⟩⟩, ⟨trivial, ⟨trivial, ⟨trivial, ⟨⟨100000, fv284, ir284, cg284, rfl⟩, trivial, trivial⟩, trivial⟩, trivial⟩, ⟨trivial, ⟨⟨100000, fv188, ir188, cg188, rfl⟩, ⟨⟨100000, fv316, ir316, cg316, rfl⟩, trivial, trivial⟩, trivial⟩, trivial⟩⟩⟩⟩⟩, ⟨trivial, ⟨⟨100000, fv10, ir10, cg10, rfl⟩, ⟨trivial, ⟨trivial, ⟨trivial, ⟨trivial, ⟨⟨100000, fv258, ir258, cg258, rfl⟩, trivial, trivial⟩, trivial⟩, trivial⟩, ⟨trivial, ⟨trivial, ⟨⟨100000, fv290, ir290, cg290, rfl⟩, trivial, trivial⟩, trivial⟩, trivial⟩⟩, ⟨⟨100000, fv50, ir50, cg50, rfl⟩, trivial, ⟨⟨100000, fv114, ir114, cg114, rfl⟩, ⟨trivial, ⟨⟨100000, fv306, ir306, cg306, rfl⟩, trivial, trivial⟩, trivial⟩, trivial⟩⟩⟩, ⟨trivial, ⟨⟨100000, fv42, ir42, cg42, rfl⟩, ⟨trivial, ⟨trivial, ⟨⟨100000, fv266, ir266, cg266, rfl⟩, trivial, trivial⟩, trivial⟩, trivial⟩, ⟨trivial, ⟨trivial, ⟨⟨100000, fv298, ir298, cg298, rfl⟩, trivial, trivial⟩, trivial⟩, ⟨⟨100000, fv234, ir234, cg234, rfl⟩, trivial, trivial⟩⟩⟩, ⟨trivial, ⟨trivial, ⟨trivial, ⟨⟨100000, fv282, ir282, cg282, rfl⟩, trivial, trivial⟩, trivial⟩, trivial⟩, ⟨⟨100000, fv122, ir122, cg122, rfl⟩, ⟨⟨100000, fv186, ir186, cg186, rfl⟩, ⟨⟨100000, fv314, ir314, cg314, rfl⟩, trivial, trivial⟩, trivial⟩, trivial⟩⟩⟩⟩, ⟨⟨100000, fv14, ir14, cg14, rfl⟩, ⟨trivial, ⟨trivial, ⟨trivial, ⟨trivial, ⟨⟨100000, fv262, ir262, cg262, rfl⟩, trivial, trivial⟩, trivial⟩, trivial⟩, trivial⟩, ⟨trivial, ⟨trivial, ⟨trivial, ⟨⟨100000, fv278, ir278, cg278, rfl⟩, trivial, trivial⟩, trivial⟩, ⟨trivial, ⟨⟨100000, fv342, ir342, cg342, rfl⟩, trivial, trivial⟩, trivial⟩⟩, ⟨trivial, ⟨trivial, ⟨⟨100000, fv310, ir310, cg310, rfl⟩, trivial, trivial⟩, trivial⟩, trivial⟩⟩⟩, ⟨trivial, ⟨⟨100000, fv46, ir46, cg46, rfl⟩, ⟨trivial, ⟨trivial, ⟨⟨100000, fv270, ir270, cg270, rfl⟩, trivial, trivial⟩, trivial⟩, trivial⟩, ⟨⟨100000, fv110, ir110, cg110, rfl⟩, ⟨trivial, ⟨⟨100000, fv302, ir302, cg302, rfl⟩, trivial, trivial⟩, trivial⟩, ⟨⟨100000, fv238, ir238, cg238, rfl⟩, trivial, trivial⟩⟩⟩, ⟨trivial, ⟨trivial, ⟨trivial, ⟨⟨100000, fv286, ir286, cg286, rfl⟩, trivial, trivial⟩, trivial⟩, trivial⟩, ⟨trivial, ⟨⟨100000, fv190, ir190, cg190, rfl⟩, ⟨⟨100000, fv318, ir318, cg318, rfl⟩, trivial, trivial⟩, trivial⟩, trivial⟩⟩⟩⟩⟩⟩⟩
theorem fastT_ok : fastT.Ok sysT := FT.ok_of fastT_all
theorem code_ok (f : Nat) (fn : IFn) (h : sysT.code f = some fn) : cFn Go.Proofs.Tryz.prog f = some fn := codeT_all.get h
end Go.Proofs.YtjldbkicpbchkaaGreat.Ev
