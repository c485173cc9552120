/- What the law DiskMemory answers, and the openers of its arguments. -/
import Derived.Test.YtjipjfionelpkaaOpenD
