/- The library's contracts at this dump. -/
import Derived.Test.YtdlkdecigpaaaaaGreatDoorShelf
